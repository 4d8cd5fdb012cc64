/- The data of the layer, and how they lie in cells. -/
import Derived.Test.YtpnekpbehcbmkaaEngP
set_option linter.unusedSimpArgs false
set_option linter.unusedVariables false
set_option linter.unnecessarySimpa false
namespace Go.Proofs.Ytpnekpbehcbmkaa
open Go.Eng
/-! The data of the layer, and how it lies in cells. -/
structure Rect where
  x : Int
  y : Int
  w : Int
  h : Int
structure Pt where
  x : Int
  y : Int
structure Tf where
  turn : Int
  mirror : Bool
  scale : Int
  dx : Int
  dy : Int
structure Gl where
  id : Int
  form : Int
  from' : Int
  to : Int
  x : Int
  adv : Int
  font : Int
  size : Int
structure Ln where
  from' : Int
  to : Int
  level : Int
  x : Int
  y : Int
  width : Int
  asc : Int
  desc : Int
  height : Int
  gl : List Gl
structure Cmd where
  kind : Int
  r : Rect
  t : Tf
  color : Int
  image : List UInt8
  line : Ln
abbrev I (n : Int) : AV := .int .i64 n
def Rect.enc (r : Rect) : List AV := [I r.x, I r.y, I r.w, I r.h]
def Pt.enc (p : Pt) : List AV := [I p.x, I p.y]
def Tf.enc (t : Tf) : List AV := [I t.turn, .bool t.mirror, I t.scale, I t.dx, I t.dy]
def Gl.enc (g : Gl) : List AV := [I g.id, I g.form, I g.from', I g.to, I g.x, I g.adv, I g.font, I g.size]
def gls (l : List Gl) : AV := .psl (l.map Gl.enc)
def Ln.enc (l : Ln) : List AV := [I l.from', I l.to, I l.level, I l.x, I l.y, I l.width, I l.asc, I l.desc, I l.height, gls l.gl]
def Cmd.enc (c : Cmd) : List AV := [I c.kind, I c.r.x, I c.r.y, I c.r.w, I c.r.h, I c.t.turn, .bool c.t.mirror, I c.t.scale, I c.t.dx, I c.t.dy, I c.color, .str c.image,
  I c.line.from', I c.line.to, I c.line.level, I c.line.x, I c.line.y, I c.line.width, I c.line.asc, I c.line.desc, I c.line.height, gls c.line.gl]
def cmds (l : List Cmd) : AV := .psl (l.map Cmd.enc)
theorem cI (n : Int) : Closed (I n) := .int _ _
theorem Rect.cl (r : Rect) : Closed (.agg r.enc) := .agg (by simp [Rect.enc, Closed.int])
theorem Pt.cl (r : Pt) : Closed (.agg r.enc) := .agg (by simp [Pt.enc, Closed.int])
theorem Tf.cl (r : Tf) : Closed (.agg r.enc) := .agg (by simp [Tf.enc, Closed.int, Closed.bool])
theorem gls_cl (l : List Gl) : Closed (gls l) := .psl (by
  intro x hx c hc
  simp at hx
  obtain ⟨g, _, rfl⟩ := hx
  simp [Gl.enc] at hc
  rcases hc with rfl | rfl | rfl | rfl | rfl | rfl | rfl | rfl <;> exact .int _ _)
theorem Ln.cl (l : Ln) : Closed (.agg l.enc) := .agg (by simp [Ln.enc, Closed.int, gls_cl])
theorem Gl.cl (l : Gl) : Closed (.agg l.enc) := .agg (by simp [Gl.enc, Closed.int])
theorem Cmd.cls (c : Cmd) : ∀ x ∈ c.enc, Closed x := by simp [Cmd.enc, Closed.int, Closed.bool, Closed.str, gls_cl]
theorem Cmd.cl (c : Cmd) : Closed (.agg c.enc) := .agg c.cls
theorem cmds_cl (l : List Cmd) : Closed (cmds l) := .psl (by
  intro x hx c hc
  simp at hx
  obtain ⟨g, _, rfl⟩ := hx
  exact g.cls c hc)
@[simp] theorem Rect.len (r : Rect) : r.enc.length = 4 := by cases r; rfl
@[simp] theorem Pt.len (r : Pt) : r.enc.length = 2 := by cases r; rfl
@[simp] theorem Tf.len (r : Tf) : r.enc.length = 5 := by cases r; rfl
@[simp] theorem Gl.len (r : Gl) : r.enc.length = 8 := by cases r; rfl
@[simp] theorem Ln.len (r : Ln) : r.enc.length = 10 := by cases r; rfl
@[simp] theorem Cmd.len (r : Cmd) : r.enc.length = 22 := by cases r; rfl
@[simp] theorem Rect.ones (r : Rect) : ones r.enc = true := Eq.trans rfl rfl
@[simp] theorem Pt.ones (r : Pt) : ones r.enc = true := Eq.trans rfl rfl
@[simp] theorem Tf.ones (r : Tf) : ones r.enc = true := Eq.trans rfl rfl
@[simp] theorem Gl.ones (r : Gl) : ones r.enc = true := Eq.trans rfl rfl
@[simp] theorem Ln.ones (r : Ln) : ones r.enc = true := Eq.trans rfl rfl
@[simp] theorem Cmd.ones (r : Cmd) : ones r.enc = true := Eq.trans rfl rfl
@[simp high] theorem Rect.g0 (r : Rect) : r.enc[0]? = some (I r.x) := Eq.trans rfl rfl
@[simp high] theorem Rect.g1 (r : Rect) : r.enc[1]? = some (I r.y) := Eq.trans rfl rfl
@[simp high] theorem Rect.g2 (r : Rect) : r.enc[2]? = some (I r.w) := Eq.trans rfl rfl
@[simp high] theorem Rect.g3 (r : Rect) : r.enc[3]? = some (I r.h) := Eq.trans rfl rfl
@[simp] theorem Rect.all (r : Rect) : cut r.enc 0 4 = some r.enc := Eq.trans rfl rfl
@[simp high] theorem Pt.g0 (r : Pt) : r.enc[0]? = some (I r.x) := Eq.trans rfl rfl
@[simp high] theorem Pt.g1 (r : Pt) : r.enc[1]? = some (I r.y) := Eq.trans rfl rfl
@[simp] theorem Pt.all (r : Pt) : cut r.enc 0 2 = some r.enc := Eq.trans rfl rfl
@[simp high] theorem Tf.g0 (r : Tf) : r.enc[0]? = some (I r.turn) := Eq.trans rfl rfl
@[simp high] theorem Tf.g1 (r : Tf) : r.enc[1]? = some (.bool r.mirror) := Eq.trans rfl rfl
@[simp high] theorem Tf.g2 (r : Tf) : r.enc[2]? = some (I r.scale) := Eq.trans rfl rfl
@[simp high] theorem Tf.g3 (r : Tf) : r.enc[3]? = some (I r.dx) := Eq.trans rfl rfl
@[simp high] theorem Tf.g4 (r : Tf) : r.enc[4]? = some (I r.dy) := Eq.trans rfl rfl
@[simp] theorem Tf.all (r : Tf) : cut r.enc 0 5 = some r.enc := Eq.trans rfl rfl
@[simp high] theorem Gl.g0 (r : Gl) : r.enc[0]? = some (I r.id) := Eq.trans rfl rfl
@[simp high] theorem Gl.g1 (r : Gl) : r.enc[1]? = some (I r.form) := Eq.trans rfl rfl
@[simp high] theorem Gl.g2 (r : Gl) : r.enc[2]? = some (I r.from') := Eq.trans rfl rfl
@[simp high] theorem Gl.g3 (r : Gl) : r.enc[3]? = some (I r.to) := Eq.trans rfl rfl
@[simp high] theorem Gl.g4 (r : Gl) : r.enc[4]? = some (I r.x) := Eq.trans rfl rfl
@[simp high] theorem Gl.g5 (r : Gl) : r.enc[5]? = some (I r.adv) := Eq.trans rfl rfl
@[simp high] theorem Gl.g6 (r : Gl) : r.enc[6]? = some (I r.font) := Eq.trans rfl rfl
@[simp high] theorem Gl.g7 (r : Gl) : r.enc[7]? = some (I r.size) := Eq.trans rfl rfl
@[simp] theorem Gl.all (r : Gl) : cut r.enc 0 8 = some r.enc := Eq.trans rfl rfl
@[simp high] theorem Ln.g0 (r : Ln) : r.enc[0]? = some (I r.from') := Eq.trans rfl rfl
@[simp high] theorem Ln.g1 (r : Ln) : r.enc[1]? = some (I r.to) := Eq.trans rfl rfl
@[simp high] theorem Ln.g2 (r : Ln) : r.enc[2]? = some (I r.level) := Eq.trans rfl rfl
@[simp high] theorem Ln.g3 (r : Ln) : r.enc[3]? = some (I r.x) := Eq.trans rfl rfl
@[simp high] theorem Ln.g4 (r : Ln) : r.enc[4]? = some (I r.y) := Eq.trans rfl rfl
@[simp high] theorem Ln.g5 (r : Ln) : r.enc[5]? = some (I r.width) := Eq.trans rfl rfl
@[simp high] theorem Ln.g6 (r : Ln) : r.enc[6]? = some (I r.asc) := Eq.trans rfl rfl
@[simp high] theorem Ln.g7 (r : Ln) : r.enc[7]? = some (I r.desc) := Eq.trans rfl rfl
@[simp high] theorem Ln.g8 (r : Ln) : r.enc[8]? = some (I r.height) := Eq.trans rfl rfl
@[simp high] theorem Ln.g9 (r : Ln) : r.enc[9]? = some (gls r.gl) := Eq.trans rfl rfl
@[simp] theorem Ln.all (r : Ln) : cut r.enc 0 10 = some r.enc := Eq.trans rfl rfl
@[simp high] theorem Cmd.g0 (r : Cmd) : r.enc[0]? = some (I r.kind) := Eq.trans rfl rfl
@[simp high] theorem Cmd.g1 (r : Cmd) : r.enc[1]? = some (I r.r.x) := Eq.trans rfl rfl
@[simp high] theorem Cmd.g2 (r : Cmd) : r.enc[2]? = some (I r.r.y) := Eq.trans rfl rfl
@[simp high] theorem Cmd.g3 (r : Cmd) : r.enc[3]? = some (I r.r.w) := Eq.trans rfl rfl
@[simp high] theorem Cmd.g4 (r : Cmd) : r.enc[4]? = some (I r.r.h) := Eq.trans rfl rfl
@[simp high] theorem Cmd.g5 (r : Cmd) : r.enc[5]? = some (I r.t.turn) := Eq.trans rfl rfl
@[simp high] theorem Cmd.g6 (r : Cmd) : r.enc[6]? = some (.bool r.t.mirror) := Eq.trans rfl rfl
@[simp high] theorem Cmd.g7 (r : Cmd) : r.enc[7]? = some (I r.t.scale) := Eq.trans rfl rfl
@[simp high] theorem Cmd.g8 (r : Cmd) : r.enc[8]? = some (I r.t.dx) := Eq.trans rfl rfl
@[simp high] theorem Cmd.g9 (r : Cmd) : r.enc[9]? = some (I r.t.dy) := Eq.trans rfl rfl
@[simp high] theorem Cmd.g10 (r : Cmd) : r.enc[10]? = some (I r.color) := Eq.trans rfl rfl
@[simp high] theorem Cmd.g11 (r : Cmd) : r.enc[11]? = some (.str r.image) := Eq.trans rfl rfl
@[simp high] theorem Cmd.g12 (r : Cmd) : r.enc[12]? = some (I r.line.from') := Eq.trans rfl rfl
@[simp high] theorem Cmd.g13 (r : Cmd) : r.enc[13]? = some (I r.line.to) := Eq.trans rfl rfl
@[simp high] theorem Cmd.g14 (r : Cmd) : r.enc[14]? = some (I r.line.level) := Eq.trans rfl rfl
@[simp high] theorem Cmd.g15 (r : Cmd) : r.enc[15]? = some (I r.line.x) := Eq.trans rfl rfl
@[simp high] theorem Cmd.g16 (r : Cmd) : r.enc[16]? = some (I r.line.y) := Eq.trans rfl rfl
@[simp high] theorem Cmd.g17 (r : Cmd) : r.enc[17]? = some (I r.line.width) := Eq.trans rfl rfl
@[simp high] theorem Cmd.g18 (r : Cmd) : r.enc[18]? = some (I r.line.asc) := Eq.trans rfl rfl
@[simp high] theorem Cmd.g19 (r : Cmd) : r.enc[19]? = some (I r.line.desc) := Eq.trans rfl rfl
@[simp high] theorem Cmd.g20 (r : Cmd) : r.enc[20]? = some (I r.line.height) := Eq.trans rfl rfl
@[simp high] theorem Cmd.g21 (r : Cmd) : r.enc[21]? = some (gls r.line.gl) := Eq.trans rfl rfl
@[simp] theorem Cmd.all (r : Cmd) : cut r.enc 0 22 = some r.enc := Eq.trans rfl rfl
@[simp] theorem Cmd.c1 (r : Cmd) : cut r.enc 1 4 = some r.r.enc := Eq.trans rfl rfl
@[simp] theorem Cmd.c5 (r : Cmd) : cut r.enc 5 5 = some r.t.enc := Eq.trans rfl rfl
@[simp] theorem Cmd.c12 (r : Cmd) : cut r.enc 12 10 = some r.line.enc := Eq.trans rfl rfl
theorem gls_pl (l : List Gl) : Plain (gls l) := .psl (by
  intro x hx c hc
  simp at hx
  obtain ⟨g, _, rfl⟩ := hx
  simp [Gl.enc] at hc
  rcases hc with rfl | rfl | rfl | rfl | rfl | rfl | rfl | rfl <;> exact .int _ _)
theorem Gl.pl (l : Gl) : Plain (.agg l.enc) := .agg (by simp [Gl.enc, Plain.int])
theorem Cmd.pls (c : Cmd) : ∀ x ∈ c.enc, Plain x := by simp [Cmd.enc, Plain.int, Plain.bool, Plain.str, gls_pl]
theorem Cmd.pl (c : Cmd) : Plain (.agg c.enc) := .agg c.pls
theorem cmds_pl (l : List Cmd) : Plain (cmds l) := .psl (by
  intro x hx c hc
  simp at hx
  obtain ⟨g, _, rfl⟩ := hx
  exact g.pls c hc)
@[simp] theorem kLen_gls (h : AH) (l : List Gl) : kLen h (gls l) = some (I l.length, h) := by simp [gls]
@[simp] theorem kLen_cmds (h : AH) (l : List Cmd) : kLen h (cmds l) = some (I l.length, h) := by simp [cmds]
@[simp] theorem kIdxA_gls (h : AH) (l : List Gl) (i : Nat) (hi : i < l.length) : kIdxA h 8 (gls l) (I i) = some (.pptr l[i].enc, h) := kIdxA_psl (by simp [hi]) rfl
@[simp] theorem kIdxA_cmds (h : AH) (l : List Cmd) (i : Nat) (hi : i < l.length) : kIdxA h 22 (cmds l) (I i) = some (.pptr l[i].enc, h) := kIdxA_psl (by simp [hi]) rfl
@[simp] theorem Rect.inj {a b : Rect} : a.enc = b.enc ↔ a = b := ⟨fun h => by cases a; cases b; simp [Rect.enc] at h; simp [h], fun h => by rw [h]⟩
@[simp] theorem Pt.inj {a b : Pt} : a.enc = b.enc ↔ a = b := ⟨fun h => by cases a; cases b; simp [Pt.enc] at h; simp [h], fun h => by rw [h]⟩
@[simp] theorem Tf.inj {a b : Tf} : a.enc = b.enc ↔ a = b := ⟨fun h => by cases a; cases b; simp [Tf.enc] at h; simp [h], fun h => by rw [h]⟩
@[simp] theorem Gl.inj {a b : Gl} : a.enc = b.enc ↔ a = b := ⟨fun h => by cases a; cases b; simp [Gl.enc] at h; simp [h], fun h => by rw [h]⟩
@[simp] theorem Rect.frz (h : AH) (n : Bool) (a b : Rect) : FrzL h n a.enc b.enc ↔ a = b := by
  cases a; cases b; simp [Rect.enc]
@[simp] theorem Pt.frz (h : AH) (n : Bool) (a b : Pt) : FrzL h n a.enc b.enc ↔ a = b := by
  cases a; cases b; simp [Pt.enc]
@[simp] theorem Tf.frz (h : AH) (n : Bool) (a b : Tf) : FrzL h n a.enc b.enc ↔ a = b := by
  cases a; cases b; simp [Tf.enc]
theorem map_inj {α β : Type} {f : α → β} (hf : ∀ x y, f x = f y → x = y) : ∀ {a b : List α}, a.map f = b.map f → a = b
  | [], [], _ => rfl
  | [], _ :: _, h => by simp at h
  | _ :: _, [], h => by simp at h
  | x :: a, y :: b, h => by simp at h; rw [hf _ _ h.1, map_inj hf h.2]
@[simp] theorem gls_inj {a b : List Gl} : gls a = gls b ↔ a = b := ⟨fun h => map_inj (fun _ _ h => Gl.inj.1 h) (by simpa [gls] using h), fun h => by rw [h]⟩
@[simp] theorem Ln.inj {a b : Ln} : a.enc = b.enc ↔ a = b := ⟨fun h => by cases a; cases b; simp [Ln.enc] at h; simp [h], fun h => by rw [h]⟩
@[simp] theorem Cmd.inj {a b : Cmd} : a.enc = b.enc ↔ a = b := ⟨fun h => by
  rcases a with ⟨_, ⟨_, _, _, _⟩, ⟨_, _, _, _, _⟩, _, _, ⟨_, _, _, _, _, _, _, _, _, _⟩⟩
  rcases b with ⟨_, ⟨_, _, _, _⟩, ⟨_, _, _, _, _⟩, _, _, ⟨_, _, _, _, _, _, _, _, _, _⟩⟩
  simp [Cmd.enc] at h; simp [h], fun h => by rw [h]⟩
@[simp] theorem cmds_inj {a b : List Cmd} : cmds a = cmds b ↔ a = b := ⟨fun h => map_inj (fun _ _ h => Cmd.inj.1 h) (by simpa [cmds] using h), fun h => by rw [h]⟩
end Go.Proofs.Ytpnekpbehcbmkaa
