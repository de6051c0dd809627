/- Rows of one's own, and rows that are only read: looked at, written, appended to. -/
import Derived.Test.YtlkphnhlibpngaaGreatAbsMid
set_option linter.unusedVariables false
set_option linter.unusedSimpArgs false
namespace Go.Proofs.YtlkphnhlibpngaaGreat.Abs
open Go

section
variable {α : Type} {f : α → List PV} {sz : Nat}
/-- A block that holds rows. -/
def rows (f : α → List PV) (xs : List α) (ver : Nat) : Blk := ⟨((xs.map f).flatten).map .p, ver, true⟩
theorem rws_length (hf : ∀ a, (f a).length = sz) : ∀ (xs : List α), ((xs.map f).flatten).length = xs.length * sz
  | [] => by simp
  | a :: xs => by
    simp only [List.map_cons, List.flatten_cons, List.length_append, List.length_cons, rws_length hf xs, hf a, Nat.succ_mul]
    omega
theorem app_rows {L : Env} {m : Mem} {b ver bytes : Nat} {xs : List α} {y : α} {x z : Operand} (hf : ∀ a, (f a).length = sz) (hx : opd L x = some (.sl b ver 0 xs.length sz)) (hz : opd L z = some (.p (.list sz true [f y]))) (hb : m[b]? = some (rows f xs ver)) (h0 : 0 < bytes) (hl : (xs.length + 1) * bytes ≤ 140737488355328) :
    aop L m (.app sz bytes x z) = some (.sl b (ver + 1) 0 (xs.length + 1) sz, m.set b (rows f (xs ++ [y]) (ver + 1))) := by
  have e3 : srcCells m sz (.p (.list sz true [f y])) = some (1, (f y).map .p) := by simp [srcCells]
  simp only [aop, hx, hz, appendAV, e3, hb, rows, true_and]
  rw [if_pos ⟨by rw [List.length_map, rws_length hf], hl, h0⟩]
  simp
theorem app_rows0 {L : Env} {m : Mem} {s bytes : Nat} {y : α} {x z : Operand} (hx : opd L x = some (.p (.list s true []))) (hz : opd L z = some (.p (.list sz true [f y]))) (h0 : 0 < bytes) (hl : bytes ≤ 140737488355328) :
    aop L m (.app sz bytes x z) = some (.sl m.length 0 0 1 sz, m ++ [rows f [y] 0]) := by
  simp [aop, hx, hz, appendAV, srcCells, h0, hl, rows, Blk.box]
theorem view_rows {m : Mem} {b ver : Nat} {xs : List α} (hf : ∀ a, (f a).length = sz) (h1 : ∀ a, ∀ q ∈ f a, (AV.p q).one = true) (hb : m[b]? = some (rows f xs ver)) : View m (.sl b ver 0 xs.length sz) (.p (.list sz false (xs.map f))) :=
  .sl hb rfl rfl rfl (by simp) (by intro r hr; obtain ⟨a, _, rfl⟩ := List.mem_map.1 hr; exact hf a) (by
    intro c hc
    obtain ⟨q, hq, rfl⟩ := List.mem_map.1 hc
    obtain ⟨r, hr, hq⟩ := List.mem_flatten.1 hq
    obtain ⟨a, _, rfl⟩ := List.mem_map.1 hr
    exact h1 a q hq)
theorem fz_rows {m : Mem} {k b ver : Nat} {xs : List α} (hf : ∀ a, (f a).length = sz) (h1 : ∀ a, ∀ q ∈ f a, (AV.p q).one = true) (hk : k ≤ b) (hb : m[b]? = some (rows f xs ver)) : Fz m k (.sl b ver 0 xs.length sz) (.p (.list sz false (xs.map f))) :=
  .list hk hb rfl rfl rfl (by simp) (by intro r hr; obtain ⟨a, _, rfl⟩ := List.mem_map.1 hr; exact hf a) (by
    intro c hc
    obtain ⟨q, hq, rfl⟩ := List.mem_map.1 hc
    obtain ⟨r, hr, hq⟩ := List.mem_flatten.1 hq
    obtain ⟨a, _, rfl⟩ := List.mem_map.1 hr
    exact h1 a q hq)
theorem under_rows : ∀ (k : Nat) (cs : List PV), AV.unders k (cs.map .p)
  | _, [] => trivial
  | k, c :: cs => ⟨trivial, under_rows k cs⟩
end

/-! what is only read may be told less exactly -/
def PV.le (x x' : PV) : Prop := ∀ w fz y, PR w fz x y → PR w fz x' y
theorem PV.le.refl (x : PV) : x.le x := fun _ _ _ h => h
theorem PV.le.nil (s s' : Nat) (t : Bool) : (PV.list s t []).le (.list s' false []) := fun w fz y hy => by
  obtain ⟨a, len, cap, e, hl, h1, h2, h3, h4⟩ := hy
  exact ⟨a, len, cap, e, hl, h1, h2, fun h => by simp at h, trivial⟩
theorem PV.le.loose (s : Nat) (t : Bool) (xs : List (List PV)) : (PV.list s t xs).le (.list s false xs) := fun w fz y hy => by
  obtain ⟨a, len, cap, e, hl, h1, h2, h3, h4⟩ := hy
  exact ⟨a, len, cap, e, hl, h1, h2, fun h => by simp at h, h4⟩
inductive PVs.le : List PV → List PV → Prop
  | nil : PVs.le [] []
  | cons {x y : PV} {xs ys : List PV} (h : x.le y) (hs : PVs.le xs ys) : PVs.le (x :: xs) (y :: ys)
theorem PVs.le.refl : ∀ xs : List PV, PVs.le xs xs
  | [] => .nil
  | x :: xs => .cons (PV.le.refl x) (PVs.le.refl xs)
theorem PVs.le.length {xs ys : List PV} (h : PVs.le xs ys) : ys.length = xs.length := by
  induction h with
  | nil => rfl
  | cons _ _ ih => simp [ih]
theorem PVs.le.PRC {w : World} {fz : Nat → Prop} {xs ys : List PV} (h : PVs.le xs ys) : ∀ {ad : Addr}, PRC w fz xs ad → PRC w fz ys ad := by
  induction h with
  | nil => intro ad h; exact h
  | cons h1 _ ih =>
    intro ad h
    obtain ⟨⟨y, g1, g2, g3⟩, g4⟩ := h
    exact ⟨⟨y, g1, h1 _ _ _ g2, g3⟩, ih g4⟩
inductive PVss.le : List (List PV) → List (List PV) → Prop
  | nil : PVss.le [] []
  | cons {x y : List PV} {xs ys : List (List PV)} (h : PVs.le x y) (hs : PVss.le xs ys) : PVss.le (x :: xs) (y :: ys)
theorem PVss.le.length {xs ys : List (List PV)} (h : PVss.le xs ys) : ys.length = xs.length := by
  induction h with
  | nil => rfl
  | cons _ _ ih => simp [ih]
theorem PVss.le.PRR {w : World} {fz : Nat → Prop} {sz : Nat} {xs ys : List (List PV)} (h : PVss.le xs ys) : ∀ {a : Option Addr}, PRR w fz sz xs a → PRR w fz sz ys a := by
  induction h with
  | nil => intro a h; trivial
  | cons h1 _ ih =>
    intro a h
    obtain ⟨ad, g1, g2, g3, g4, g5, g6⟩ := h
    exact ⟨ad, g1, g2, g3, h1.length.trans g4, h1.PRC g5, ih g6⟩
theorem PV.le.list {sz : Nat} {t : Bool} {xs ys : List (List PV)} (h : PVss.le xs ys) : (PV.list sz t xs).le (.list sz t ys) := fun w fz y hy => by
  obtain ⟨a, len, cap, e, hl, h1, h2, h3, h4⟩ := hy
  exact ⟨a, len, cap, e, hl.trans h.length.symm, h1, h2, h3, h.PRR h4⟩
theorem AV.le.p {x y : PV} (h : x.le y) : (AV.p x).le (.p y) := fun S v hv => h S.w S.fz v hv
end Go.Proofs.YtlkphnhlibpngaaGreat.Abs
