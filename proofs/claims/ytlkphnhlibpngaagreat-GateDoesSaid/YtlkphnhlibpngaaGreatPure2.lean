/- Plain laws, part 2: what spans tell of which some may be wrong. -/
import Derived.Test.YtlkphnhlibpngaaGreatPure1
set_option linter.unusedVariables false
set_option linter.unusedSimpArgs false
namespace Go.Proofs.YtlkphnhlibpngaaGreat.Abs
open Go

theorem sorted_pair (xs : List Int) : (sorted xs).Pairwise (· ≤ ·) := by
  have := List.pairwise_mergeSort (le := fun x y : Int => decide (x ≤ y)) (fun a b c h1 h2 => by simp at *; omega) (fun a b => by simp; omega) xs
  exact this.imp (by intro a b h; simpa using h)
theorem sorted_perm (xs : List Int) : (sorted xs).Perm xs := List.mergeSort_perm xs _
/-- Of a rising list: few are below the k-th, more than k are not above it. -/
theorem count_sorted : ∀ {xs : List Int} {k : Nat} {v : Int}, xs.Pairwise (· ≤ ·) → xs[k]? = some v → xs.countP (fun x => decide (x < v)) ≤ k ∧ k < xs.countP (fun x => decide (x ≤ v))
  | [], k, v, _, h => by simp at h
  | x :: xs, 0, v, hp, h => by
    simp at h; subst h
    obtain ⟨h1, h2⟩ := List.pairwise_cons.1 hp
    refine ⟨?_, ?_⟩
    · have : ∀ y ∈ x :: xs, ¬ (decide (y < x) = true) := by
        intro y hy
        rcases List.mem_cons.1 hy with rfl | hy
        · simp
        · have := h1 y hy; simp; omega
      rw [List.countP_eq_zero.2 this]; exact Nat.le_refl _
    · rw [List.countP_cons]; simp
  | x :: xs, k + 1, v, hp, h => by
    obtain ⟨h1, h2⟩ := List.pairwise_cons.1 hp
    have hv : xs[k]? = some v := by simpa using h
    obtain ⟨g1, g2⟩ := count_sorted h2 hv
    have hx : x ≤ v := h1 v (List.mem_of_getElem? hv)
    rw [List.countP_cons, List.countP_cons]
    refine ⟨?_, ?_⟩
    · split <;> omega
    · rw [if_pos (by simpa using hx)]; omega
theorem least_spec {k : Int} {xs : List Int} (h0 : 0 ≤ k) (h1 : k < xs.length) :
    ((xs.countP fun x => decide (x < (LeastF k xs).1) : Nat) : Int) ≤ k ∧ k < (xs.countP fun x => decide (x ≤ (LeastF k xs).1) : Nat) := by
  have hc : (decide (k < 0) || decide ((xs.length : Int) ≤ k)) = false := by simp; omega
  have hk : k.toNat < (sorted xs).length := by rw [sorted_length]; omega
  have hx := List.getElem?_eq_getElem hk
  have hv : (LeastF k xs).1 = (sorted xs)[k.toNat] := by simp only [LeastF, hc, Bool.false_eq_true, if_false, hx, Option.getD_some]
  obtain ⟨g1, g2⟩ := count_sorted (sorted_pair xs) hx
  rw [hv, ← (sorted_perm xs).countP_eq, ← (sorted_perm xs).countP_eq]
  omega
/-- At most k are greater than the k-th greatest. -/
theorem most_spec {k : Int} {xs : List Int} (h0 : 0 ≤ k) (h1 : k < xs.length) : ((xs.countP fun x => decide ((MostF k xs).1 < x) : Nat) : Int) ≤ k := by
  have hc : (decide (k < 0) || decide ((xs.length : Int) ≤ k)) = false := by simp; omega
  have hv : MostF k xs = LeastF ((xs.length : Int) - 1 - k) xs := by simp only [MostF, hc, Bool.false_eq_true, if_false]
  rw [hv]
  obtain ⟨_, g2⟩ := least_spec (k := (xs.length : Int) - 1 - k) (xs := xs) (by omega) (by omega)
  have := List.length_eq_countP_add_countP (fun x => decide (x ≤ (LeastF ((xs.length : Int) - 1 - k) xs).1)) (l := xs)
  have e : (xs.countP fun x => decide ((LeastF ((xs.length : Int) - 1 - k) xs).1 < x)) = xs.countP fun x => decide (¬ decide (x ≤ (LeastF ((xs.length : Int) - 1 - k) xs).1) = true) := by
    apply List.countP_congr
    intro x _
    simp
  rw [e]
  omega

theorem fewF_false {f : Int} {n : Nat} (h0 : 0 ≤ f) (h1 : 2 * f < n) : FewF f n = false := by
  simp [FewF]; omega
/-- Most of the spans have a time: what is fused has it, and isn't wider than the widest of these. -/
theorem fuse_spec {f : Int} {l : List Span} {good : Span → Bool} {t w a b : Int} (h0 : 0 ≤ f) (hg : 2 * f < (l.countP good : Nat)) (hb : ((l.countP fun s => !good s : Nat) : Int) ≤ f)
    (ht : ∀ s ∈ l, good s = true → s.lo ≤ t ∧ t ≤ s.hi ∧ s.hi - s.lo ≤ w ∧ a ≤ s.lo ∧ s.hi ≤ b) (ha : -Most ≤ a) (hb2 : b ≤ Most) :
    ∃ s : Span, FuseF f l = (s, true) ∧ s.lo ≤ t ∧ t ≤ s.hi ∧ s.hi - s.lo ≤ w ∧ a ≤ s.lo ∧ s.hi ≤ b := by
  have hlen : l.countP good ≤ l.length := List.countP_le_length
  have hfew : FewF f l.length = false := fewF_false h0 (by omega)
  have hm := most_spec (k := f) (xs := l.map (·.lo)) h0 (by rw [List.length_map]; omega)
  obtain ⟨hl1, hl2⟩ := least_spec (k := f) (xs := l.map (·.hi)) h0 (by rw [List.length_map]; omega)
  generalize hL : (MostF f (l.map (·.lo))).1 = L at hm
  generalize hH : (LeastF f (l.map (·.hi))).1 = H at hl1 hl2
  rw [List.countP_map] at hm hl1 hl2
  simp only [Function.comp_def] at hm hl1 hl2
  -- one that is right, with its ends beyond both
  have hor : ∀ (p q : Span → Bool) (l : List Span), l.countP (fun s => p s || q s) ≤ l.countP p + l.countP q := by
    intro p q l
    induction l with
    | nil => simp
    | cons s l ih =>
      simp only [List.countP_cons]
      cases hp : p s <;> cases hq : q s <;> simp <;> omega
  have ex : ∃ s ∈ l, good s = true ∧ ¬ L < s.lo ∧ ¬ s.hi < H := by
    apply Classical.byContradiction
    intro hno
    have hall : ∀ s ∈ l, good s = true → (decide (L < s.lo) || decide (s.hi < H)) = true := by
      intro s hs hgs
      apply Classical.byContradiction
      intro hn
      simp only [Bool.or_eq_true, decide_eq_true_eq, not_or] at hn
      exact hno ⟨s, hs, hgs, hn.1, hn.2⟩
    have hle : l.countP good ≤ l.countP (fun s => decide (L < s.lo) || decide (s.hi < H)) := List.countP_mono_left hall
    have := hor (fun s => decide (L < s.lo)) (fun s => decide (s.hi < H)) l
    omega
  obtain ⟨s, hs, hgs, hsl, hsh⟩ := ex
  obtain ⟨g1, g2, g3, g4, g5⟩ := ht s hs hgs
  -- the time is in
  have hlo : L ≤ t := by
    apply Classical.byContradiction
    intro hn
    have : l.countP good ≤ l.countP (fun s => !decide (L ≤ s.lo)) := List.countP_mono_left fun s hs hgs => by
      have := (ht s hs hgs).1
      simp; omega
    have h2 : (l.countP fun s => decide (L ≤ s.lo)) ≤ l.countP fun s => !good s := List.countP_mono_left fun s hs h => by
      cases hgs : good s with
      | false => rfl
      | true => have := (ht s hs hgs).1; simp at h; omega
    -- L itself is one of those: more than len - 1 - f are not above it
    have hm2 : (f : Int) < (l.countP fun s => decide (L ≤ s.lo) : Nat) := by
      have hc : (decide (f < 0) || decide (((l.map (·.lo)).length : Int) ≤ f)) = false := by simp; omega
      have hv : MostF f (l.map (·.lo)) = LeastF (((l.map (·.lo)).length : Int) - 1 - f) (l.map (·.lo)) := by simp only [MostF, hc, Bool.false_eq_true, if_false]
      obtain ⟨q1, _⟩ := least_spec (k := ((l.map (·.lo)).length : Int) - 1 - f) (xs := l.map (·.lo)) (by rw [List.length_map]; omega) (by omega)
      rw [← hv, hL, List.countP_map, List.length_map] at q1
      simp only [Function.comp_def] at q1
      have := List.length_eq_countP_add_countP (fun s : Span => decide (s.lo < L)) (l := l)
      have e : (l.countP fun s => decide (L ≤ s.lo)) = l.countP fun s => decide (¬ decide (s.lo < L) = true) := by
        apply List.countP_congr
        intro x _
        simp
      omega
    omega
  have hhi : t ≤ H := by
    apply Classical.byContradiction
    intro hn
    have h2 : (l.countP fun s => decide (s.hi ≤ H)) ≤ l.countP fun s => !good s := List.countP_mono_left fun s hs h => by
      cases hgs : good s with
      | false => rfl
      | true => have := (ht s hs hgs).2.1; simp at h; omega
    omega
  refine ⟨⟨L, H⟩, ?_, hlo, hhi, by show H - L ≤ w; omega, by show a ≤ L; omega, by show H ≤ b; omega⟩
  simp only [FuseF, hfew, Bool.false_eq_true, if_false, hL, hH]
  rw [if_neg (by omega)]
  have e1 : Clip L = L := clip_id (by omega) (by omega)
  have e2 : Clip H = H := clip_id (by omega) (by omega)
  rw [SpanOf, e1, e2]
end Go.Proofs.YtlkphnhlibpngaaGreat.Abs
