/- The document's numbers: a product by doubling, a quotient, a middle. -/
import Derived.Test.YtlkphnhlibpngaaGreatSpec
set_option linter.unusedVariables false
set_option linter.unusedSimpArgs false
namespace Go.Proofs.YtlkphnhlibpngaaGreat.Abs
open Go

theorem sat_mul {x y : Int} (hx : 0 ≤ x) (hy : 0 ≤ y) : (if x = 0 ∨ y ≤ Most.tdiv x then x * y else Most) = if x * y ≤ Most then x * y else Most := by
  by_cases h : x = 0 ∨ y ≤ Most.tdiv x
  · rw [if_pos h, if_pos (mul_in hx hy h).2]
  · rw [if_neg h, if_neg]
    have hx0 : 0 < x := by
      have : x ≠ 0 := fun e => h (.inl e)
      omega
    have h2 : Most / x < y := by
      rw [← Int.tdiv_eq_ediv_of_nonneg (show 0 ≤ Most by unfold Most; omega)]
      have := fun e => h (.inr e)
      omega
    have h3 : Most < x * (Most / x) + x := Int.lt_mul_ediv_self_add hx0
    have h4 : x * (Most / x + 1) ≤ x * y := Int.mul_le_mul_of_nonneg_left (by omega) hx
    rw [Int.mul_add, Int.mul_one] at h4
    omega
theorem clip_min {z : Int} (h : 0 ≤ z) : (if z ≤ Most then z else Most) = Clip z := by
  unfold Clip Bound; unfold Most at *
  split
  · rw [if_neg (by omega), if_neg (by omega)]
  · rw [if_neg (by omega), if_pos (by omega)]
theorem clip_neg (z : Int) : Clip (-z) = -Clip z := by
  unfold Clip Bound; unfold Most at *
  (repeat' split) <;> omega
theorem clip_sign (z : Int) : (Clip z < 0 ↔ z < 0) := by
  unfold Clip Bound; unfold Most at *
  (repeat' split) <;> omega
theorem abs_neg {a : Int} (h : a < 0) : Abs a = -Clip a := by rw [Abs, if_pos h, Neg]
theorem abs_pos {a : Int} (h : ¬ a < 0) : Abs a = Clip a := by rw [Abs, if_neg h]
theorem Mul_clip (a b : Int) : Mul a b = Clip (Clip a * Clip b) := by
  have ha := abs_range a
  have hb := abs_range b
  unfold Mul
  simp only
  rw [sat_mul ha.1 hb.1, clip_min (Int.mul_nonneg ha.1 hb.1)]
  by_cases h1 : a < 0 <;> by_cases h2 : b < 0
  · simp only [h1, h2, decide_true, bne_self_eq_false, Bool.false_eq_true, if_false, abs_neg h1, abs_neg h2, Int.neg_mul_neg]
  · simp only [h1, h2, decide_true, decide_false, abs_neg h1, abs_pos h2, Int.neg_mul, clip_neg]
    simp
  · simp only [h1, h2, decide_true, decide_false, abs_pos h1, abs_neg h2, Int.mul_neg, clip_neg]
    simp
  · simp only [h1, h2, decide_false, bne_self_eq_false, Bool.false_eq_true, if_false, abs_pos h1, abs_pos h2]

/-- By doubling, from bit i - 1 down. -/
def dbl (a b : Int) : Nat → Int → Int
  | 0, n => n
  | i + 1, n => dbl a b i (if (b / 2 ^ i) % 2 = 1 then Clip (Clip (2 * n) + a) else Clip (2 * n))
theorem clip_dbl (z : Int) : Clip (2 * Clip z) = Clip (2 * z) := by
  unfold Clip Bound; unfold Most at *
  (repeat' split) <;> omega
theorem clip_more {a y : Int} (h1 : -Most ≤ a) (h2 : a ≤ Most) (hp : 0 ≤ a → 0 ≤ y) (hn : a ≤ 0 → y ≤ 0) : Clip (Clip y + a) = Clip (y + a) := by
  unfold Clip Bound; unfold Most at *
  rcases Int.le_total 0 a with h | h
  · have := hp h
    (repeat' split) <;> omega
  · have := hn h
    (repeat' split) <;> omega
theorem dbl_eq {a b : Int} (h1 : -Most ≤ a) (h2 : a ≤ Most) (hb : 0 ≤ b) : ∀ (i : Nat) (n : Int), n = Clip (a * (b / 2 ^ i)) → dbl a b i n = Clip (a * b)
  | 0, n, h => by rw [dbl, h]; simp
  | i + 1, n, h => by
    have hq : 0 ≤ b / 2 ^ (i + 1) := Int.ediv_nonneg hb (by exact Int.le_of_lt (Int.pow_pos (by decide)))
    have e1 : b / 2 ^ i = 2 * (b / 2 ^ (i + 1)) + (b / 2 ^ i) % 2 := by
      have e2 : b / 2 ^ (i + 1) = b / 2 ^ i / 2 := by
        rw [Int.pow_succ, Int.ediv_ediv_of_nonneg (Int.le_of_lt (Int.pow_pos (by decide)))]
      rw [e2]; omega
    have e3 : Clip (2 * n) = Clip (a * (2 * (b / 2 ^ (i + 1)))) := by
      rw [h, clip_dbl]
      congr 1
      rw [← Int.mul_assoc, ← Int.mul_assoc, Int.mul_comm a 2]
    rw [dbl]
    refine dbl_eq h1 h2 hb i _ ?_
    split
    · rename_i hbit
      rw [e3, clip_more h1 h2]
      · rw [e1, hbit, Int.mul_add, Int.mul_one]
      · intro h; exact Int.mul_nonneg h (by omega)
      · intro h; exact Int.mul_nonpos_of_nonpos_of_nonneg h (by omega)
    · rename_i hbit
      rw [e3]
      have : (b / 2 ^ i) % 2 = 0 := by omega
      rw [e1, this, Int.add_zero]
theorem dbl_all {a b : Int} (h1 : -Most ≤ a) (h2 : a ≤ Most) (hb : 0 ≤ b) (hb2 : b ≤ Most) : dbl a b 62 0 = Clip (a * b) := by
  refine dbl_eq h1 h2 hb 62 0 ?_
  have : b / 2 ^ 62 = 0 := by unfold Most at *; omega
  rw [this, Int.mul_zero]; decide

/-- Taken apart. -/
theorem div_eq {a c : Int} (hc : 0 < c) : (if a.tmod c < 0 then ((a - (a.tmod c + c)).tdiv c, a.tmod c + c) else ((a - a.tmod c).tdiv c, a.tmod c)) = if a.tmod c < 0 then (a.tdiv c - 1, a.tmod c + c) else (a.tdiv c, a.tmod c) := by
  have h0 : a - a.tmod c = a.tdiv c * c := by have := Int.tmod_add_mul_tdiv a c; rw [Int.mul_comm] at this; omega
  split
  · have : a - (a.tmod c + c) = (a.tdiv c - 1) * c := by rw [Int.sub_mul, Int.one_mul]; omega
    rw [this, Int.mul_tdiv_cancel _ (by omega)]
  · rw [h0, Int.mul_tdiv_cancel _ (by omega)]
theorem mid_eq (n : Int) : (if n.tmod 2 ≠ 0 then n - 1 else n).tdiv 2 = n.fdiv 2 := by
  have e0 : n.fdiv 2 = n / 2 := Int.fdiv_eq_ediv_of_nonneg _ (by decide)
  have h0 := Int.tmod_add_mul_tdiv n 2
  have h1 := Int.tmod_two_eq n
  rw [e0]
  split
  · rename_i h
    have h2 := Int.tmod_add_mul_tdiv (n - 1) 2
    have h3 : (n - 1).tmod 2 = 0 := by
      rw [← Int.dvd_iff_tmod_eq_zero]
      omega
    omega
  · omega
end Go.Proofs.YtlkphnhlibpngaaGreat.Abs
