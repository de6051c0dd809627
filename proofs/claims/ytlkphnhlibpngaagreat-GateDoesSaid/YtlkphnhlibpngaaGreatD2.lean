/- The document's functions, part 2: a product, a quotient, spans, limits, stamps. -/
import Derived.Test.YtlkphnhlibpngaaGreatC8
import Derived.Test.YtlkphnhlibpngaaGreatPure5
set_option linter.unusedVariables false
set_option linter.unusedSimpArgs false
set_option maxRecDepth 100000
namespace Go.Proofs.YtlkphnhlibpngaaGreat.Abs
open Go

theorem clipR_0 (x : Int) : ACall Tryz.prog 21 [i x] [] (i (Clip x)) [] := by
  have e : Clip x = if 2305843009213693952 < x then 2305843009213693952 else if x < -2305843009213693952 then -2305843009213693952 else x := by
    unfold Clip Bound Most; (repeat' split) <;> omega
  refine acall_run R_ref01_Clip_ok ⟨fun h1 => ?_, fun h1 => ⟨fun h2 => ?_, fun h2 => ?_⟩⟩
  · exact endP (.inr rfl) rfl (i_eq (by rw [e, if_pos (dt h1)])) trivial
  · exact endP (.inr rfl) rfl (i_eq (by rw [e, if_neg (df h1), if_pos (dt h2)])) trivial
  · exact endP (.inr rfl) rfl (i_eq (by rw [e, if_neg (df h1), if_neg (df h2)])) trivial
theorem clipR (x : Int) (m : Mem) : ACall Tryz.prog 21 [i x] m (i (Clip x)) m := acall_pure (clipR_0 x) ⟨trivial, trivial⟩ m
theorem boundR_0 (x lo hi : Int) : ACall Tryz.prog 22 [i x, i lo, i hi] [] (i (Bound x lo hi)) [] := by
  refine acall_run R_ref01_Bound_ok ⟨fun h1 => ?_, fun h1 => ⟨fun h2 => ?_, fun h2 => ⟨fun h3 => ?_, fun h3 => ?_⟩⟩⟩
  · exact endP (.inr rfl) rfl (i_eq (by rw [Bound, if_pos (.inr (dt h1))])) trivial
  · exact endP (.inr rfl) rfl (i_eq (by rw [Bound, if_pos (.inl (dt h2))])) trivial
  · exact endP (.inr rfl) rfl (i_eq (by rw [Bound, if_neg (fun h => h.elim (df h2) (df h1)), if_pos (dt h3)])) trivial
  · exact endP (.inr rfl) rfl (i_eq (by rw [Bound, if_neg (fun h => h.elim (df h2) (df h1)), if_neg (df h3)])) trivial
theorem boundR (x lo hi : Int) (m : Mem) : ACall Tryz.prog 22 [i x, i lo, i hi] m (i (Bound x lo hi)) m := acall_pure (boundR_0 x lo hi) ⟨trivial, trivial, trivial, trivial⟩ m
theorem subR_0 (a b : Int) : ACall Tryz.prog 70 [i a, i b] [] (i (Sub a b)) [] := by
  refine acall_run R_ref01_Sub_ok ?_
  refine WCall.any _ (clipR _) (WCall.any _ (clipR _) (WCall.any _ (clipR _) ?_))
  exact endP (.inr rfl) rfl (i_eq (by have := clip_range a; have := clip_range b; unfold Most at *; rw [wrap_id (by omega) (by omega), Sub])) trivial
theorem subR (a b : Int) (m : Mem) : ACall Tryz.prog 70 [i a, i b] m (i (Sub a b)) m := acall_pure (subR_0 a b) ⟨trivial, trivial, trivial⟩ m
theorem addR_0 (t : Bool) (xs : List Int) : ACall Tryz.prog 23 [il t xs] [] (i (Add xs)) [] := by
  refine acall_fact (F := xs.length ≤ 281474976710656) (fun S vs _ _ hv => by obtain ⟨z, zs, _, hv, _⟩ := hv; exact il_len hv) fun hlen => ?_
  refine acall_run R_ref01_Add_ok ?_
  refine wloop (σ := Nat × Int) (fun s => [(0, il t xs), (3, i s.2), (6, il t xs), (7, i (xs.map fun n => [iv n]).length), (8, i s.1)]) (fun _ => []) (fun s => s.1 ≤ xs.length ∧ s.2 = (xs.take s.1).foldl (fun n x => Clip (n + Clip x)) 0)
    (fun s => xs.length - s.1) (0, 0) ⟨rfl, rfl, rfl, rfl, rfl, trivial⟩ rfl ⟨Nat.zero_le _, rfl⟩ ?_
  rintro ⟨k, n⟩ ⟨hk, hn⟩
  have hn : n = (xs.take k).foldl (fun n x => Clip (n + Clip x)) 0 := hn
  refine ⟨fun h1 => ?_, fun h1 => ?_⟩
  · have h1 : k < xs.length := by have := dt h1; simp at this; exact this
    have hx := List.getElem?_eq_getElem h1
    refine WOp.mk _ _ (iad_list rfl rfl (Int.natCast_nonneg k) (il_get hx)) trivial ?_
    refine WCall.any _ (clipR _) (WCall.any _ (clipR _) ?_)
    have hr1 := clip_range xs[k]
    have hn' : -Most ≤ n ∧ n ≤ Most := by rw [hn]; exact add_range _
    refine ⟨(k + 1, Clip (n + Clip xs[k])), ⟨rfl, ?_, rfl, rfl, ?_, trivial⟩, rfl, ⟨h1, ?_⟩, ?_⟩
    · unfold Most at *
      show some (i (Clip (IntKind.i64.wrap (n + Clip xs[k])))) = _
      rw [wrap_id (by omega) (by omega)]
    · show some (i (IntKind.i64.wrap ((k : Int) + 1))) = _
      rw [wrap_id (by omega) (by omega)]
      rfl
    · show _ = ((xs.take (k + 1)).foldl _ 0)
      rw [take_succ_get hx, List.foldl_append, ← hn]; rfl
    · show xs.length - (k + 1) < xs.length - k
      omega
  · have h1 : k = xs.length := by have := df h1; simp at this; omega
    refine endP (.inr rfl) rfl (i_eq ?_) trivial
    show n = _
    rw [hn, h1, List.take_length]; rfl
theorem addR (t : Bool) (xs : List Int) (m : Mem) : ACall Tryz.prog 23 [il t xs] m (i (Add xs)) m := acall_pure (addR_0 t xs) ⟨trivial, trivial⟩ m
theorem maxR_0 (t : Bool) (xs : List Int) : ACall Tryz.prog 110 [il t xs] [] (i (Max xs)) [] := by
  refine acall_fact (F := xs.length ≤ 281474976710656) (fun S vs _ _ hv => by obtain ⟨z, zs, _, hv, _⟩ := hv; exact il_len hv) fun hlen => ?_
  refine acall_run R_ref01_Max_ok ?_
  refine wloop (σ := Nat × Int) (fun s => [(0, il t xs), (3, i s.2), (6, il t xs), (7, i (xs.map fun n => [iv n]).length), (8, i s.1)]) (fun _ => []) (fun s => s.1 ≤ xs.length ∧ s.2 = (xs.take s.1).foldl (fun n x => mx n (Clip x)) (-Most))
    (fun s => xs.length - s.1) (0, -Most) ⟨rfl, rfl, rfl, rfl, rfl, trivial⟩ rfl ⟨Nat.zero_le _, rfl⟩ ?_
  rintro ⟨k, n⟩ ⟨hk, hn⟩
  have hn : n = (xs.take k).foldl (fun n x => mx n (Clip x)) (-Most) := hn
  refine ⟨fun h1 => ?_, fun h1 => ?_⟩
  · have h1 : k < xs.length := by have := dt h1; simp at this; exact this
    have hx := List.getElem?_eq_getElem h1
    have inc : some (i (IntKind.i64.wrap ((k : Int) + 1))) = some (i ((k + 1 : Nat) : Int)) := by rw [wrap_id (by omega) (by omega)]; rfl
    have e : ∀ v, v = mx n (Clip xs[k]) → v = (xs.take (k + 1)).foldl (fun n x => mx n (Clip x)) (-Most) := by
      intro v hv
      rw [take_succ_get hx, List.foldl_append, ← hn, hv]; rfl
    refine WOp.mk _ _ (iad_list rfl rfl (Int.natCast_nonneg k) (il_get hx)) trivial ?_
    refine WCall.any _ (clipR _) ⟨fun h2 => ?_, fun h2 => ?_⟩
    · refine WCall.any _ (clipR _) ?_
      exact ⟨(k + 1, Clip xs[k]), ⟨rfl, rfl, rfl, rfl, inc, trivial⟩, rfl, ⟨h1, e _ (by have h2 := dt h2; unfold mx; split <;> omega)⟩, by show xs.length - (k + 1) < _; omega⟩
    · exact ⟨(k + 1, n), ⟨rfl, rfl, rfl, rfl, inc, trivial⟩, rfl, ⟨h1, e _ (by have h2 := df h2; unfold mx; split <;> omega)⟩, by show xs.length - (k + 1) < _; omega⟩
  · have h1 : k = xs.length := by have := df h1; simp at this; omega
    refine endP (.inr rfl) rfl (i_eq ?_) trivial
    show n = _
    rw [hn, h1, List.take_length]; rfl
theorem maxR (t : Bool) (xs : List Int) (m : Mem) : ACall Tryz.prog 110 [il t xs] m (i (Max xs)) m := acall_pure (maxR_0 t xs) ⟨trivial, trivial⟩ m

theorem bit_eq {x : Int} (h0 : 0 ≤ x) (h1 : x ≤ Most) : IntKind.i64.wrap ((BitVec.ofInt IntKind.i64.bits x &&& BitVec.ofInt IntKind.i64.bits 1).toNat : Int) = x % 2 := by
  have e : (BitVec.ofInt IntKind.i64.bits x &&& BitVec.ofInt IntKind.i64.bits 1).toNat = x.toNat % 2 := by
    rw [BitVec.toNat_and, BitVec.toNat_ofInt, BitVec.toNat_ofInt]
    have e1 : (x % ((2 ^ IntKind.i64.bits : Nat) : Int)).toNat = x.toNat := by
      rw [Int.emod_eq_of_lt h0 (by unfold Most at h1; show x < 18446744073709551616; omega)]
    have e2 : ((1 : Int) % ((2 ^ IntKind.i64.bits : Nat) : Int)).toNat = 1 := by decide
    rw [e1, e2, Nat.and_one_is_mod]
  rw [e, wrap_id (by omega) (by omega)]
  omega
theorem shr_op {L : Env} {m : Mem} {x y : Operand} {t : EqT} {k k' : IntKind} {a b : Int} (hx : opd L x = some (ints k a)) (hy : opd L y = some (ints k' b)) (h : 0 ≤ b) : aop L m (.bin .shr t x y) = some (ints k (a.fdiv (2 ^ (min b.toNat k.bits))), m) := by
  simp [aop, hx, hy, ints, binop, shiftInt, show ¬ b < 0 by omega]
theorem mulR_pos (a b : Int) (hb : 0 ≤ b) : ACall Tryz.prog 108 [i a, i b] [] (i (Clip (Clip a * Clip b))) [] := by
  have ha := clip_range a
  have hb' := clip_range b
  have hb0 : 0 ≤ Clip b := by have := clip_sign b; omega
  refine acall_run R_ref01_Mul_ok ?_
  refine WCall.any _ (clipR _) (WCall.any _ (clipR _) ⟨fun h => absurd (dt h) (by omega), fun _ => ?_⟩)
  refine wloop (σ := Nat × Int) (fun s => [(0, i (Clip a)), (1, i (Clip b)), (5, i s.2), (6, i ((s.1 : Int) - 1))]) (fun _ => []) (fun s => s.1 ≤ 62 ∧ -Most ≤ s.2 ∧ s.2 ≤ Most ∧ dbl (Clip a) (Clip b) s.1 s.2 = Clip (Clip a * Clip b))
    (fun s => s.1) (62, 0) ⟨rfl, rfl, rfl, rfl, trivial⟩ rfl ⟨Nat.le_refl _, by unfold Most; omega, by unfold Most; omega, dbl_all ha.1 ha.2 hb0 hb'.2⟩ ?_
  rintro ⟨j, n⟩ ⟨hj, hn1, hn2, hd⟩
  have hj : j ≤ 62 := hj
  have hn1 : -Most ≤ n := hn1
  have hn2 : n ≤ Most := hn2
  have hd : dbl (Clip a) (Clip b) j n = Clip (Clip a * Clip b) := hd
  refine ⟨fun h1 => ?_, fun h1 => ?_⟩
  · obtain ⟨k, rfl⟩ : ∃ k, j = k + 1 := by
      have := dt h1
      exact ⟨j - 1, by omega⟩
    have hk62 : k ≤ 61 := by omega
    have hn1' : -2305843009213693952 ≤ n := hn1
    have hn2' : n ≤ 2305843009213693952 := hn2
    have w2 : IntKind.i64.wrap (2 * n) = 2 * n := wrap_id (by omega) (by omega)
    have hu : IntKind.u64.wrap (((k + 1 : Nat) : Int) - 1) = k := by
      rw [show ((k + 1 : Nat) : Int) - 1 = k by omega]
      exact Int.emod_eq_of_lt (by omega) (by show (k : Int) < 18446744073709551616; omega)
    have hq0 : 0 ≤ Clip b / 2 ^ k := Int.ediv_nonneg hb0 (Int.le_of_lt (Int.pow_pos (by decide)))
    have hq1 : Clip b / 2 ^ k ≤ Most := Int.le_trans (Int.ediv_le_self _ hb0) hb'.2
    have hsh : (Clip b).fdiv (2 ^ (min (IntKind.u64.wrap (((k + 1 : Nat) : Int) - 1)).toNat IntKind.i64.bits)) = Clip b / 2 ^ k := by
      rw [hu, show min ((k : Int)).toNat IntKind.i64.bits = k by show min _ 64 = k; omega, Int.fdiv_eq_ediv_of_nonneg _ (Int.le_of_lt (Int.pow_pos (by decide)))]
    have hbit := bit_eq hq0 hq1
    have h6 : some (i (IntKind.i64.wrap (((k + 1 : Nat) : Int) - 1 - 1))) = some (i ((k : Int) - 1)) := by rw [wrap_id (by omega) (by omega)]; congr 3; omega
    have hc2 := clip_range (2 * n)
    rw [dbl] at hd
    refine WCall.any _ (clipR _) (WOp.mk _ _ (shr_op rfl rfl (by rw [hu]; omega)) trivial ⟨fun h2 => ?_, fun h2 => ?_⟩)
    · have h2 := dt h2
      rw [hsh, hbit] at h2
      rw [if_pos h2] at hd
      refine WCall.any _ (clipR _) ?_
      refine ⟨(k, Clip (Clip (2 * n) + Clip a)), ⟨rfl, rfl, ?_, h6, trivial⟩, rfl, ⟨by show k ≤ 62; omega, (clip_range _).1, (clip_range _).2, hd⟩, Nat.lt_succ_self k⟩
      show some (i (Clip (IntKind.i64.wrap (Clip (IntKind.i64.wrap (2 * n)) + Clip a)))) = _
      unfold Most at *
      rw [w2, wrap_id (by omega) (by omega)]
    · have h2 := df h2
      rw [hsh, hbit] at h2
      rw [if_neg h2] at hd
      refine ⟨(k, Clip (2 * n)), ⟨rfl, rfl, ?_, h6, trivial⟩, rfl, ⟨by show k ≤ 62; omega, (clip_range _).1, (clip_range _).2, hd⟩, Nat.lt_succ_self k⟩
      show some (i (Clip (IntKind.i64.wrap (2 * n)))) = _
      rw [w2]
  · have h1 : j = 0 := by have := df h1; omega
    subst h1
    exact endP (.inr rfl) rfl (i_eq hd) trivial
theorem mulR_0 (a b : Int) : ACall Tryz.prog 108 [i a, i b] [] (i (Mul a b)) [] := by
  rw [Mul_clip]
  by_cases hb : 0 ≤ b
  · exact mulR_pos a b hb
  · have ha := clip_range a
    have hb' := clip_range b
    have hb0 : Clip b < 0 := (clip_sign b).2 (by omega)
    refine acall_run R_ref01_Mul_ok ?_
    refine WCall.any _ (clipR _) (WCall.any _ (clipR _) ⟨fun _ => ?_, fun h => absurd hb0 (df h)⟩)
    have e1 : IntKind.i64.wrap (0 - Clip b) = -Clip b := by unfold Most at *; rw [wrap_id (by omega) (by omega)]; omega
    have hp := mulR_pos (Clip a) (IntKind.i64.wrap (0 - Clip b)) (by rw [e1]; omega)
    refine WCall.any _ (fun m => acall_pure hp ⟨trivial, trivial, trivial⟩ m) ?_
    refine endP (.inr rfl) rfl (i_eq ?_) trivial
    have c1 : Clip (Clip a) = Clip a := clip_id ha.1 ha.2
    have c2 : Clip (-Clip b) = -Clip b := by rw [clip_neg, clip_id hb'.1 hb'.2]
    rw [e1, c1, c2, Int.mul_neg, clip_neg]
    have := clip_range (Clip a * Clip b)
    unfold Most at *
    rw [wrap_id (by omega) (by omega)]; omega
theorem mulR (a b : Int) (m : Mem) : ACall Tryz.prog 108 [i a, i b] m (i (Mul a b)) m := acall_pure (mulR_0 a b) ⟨trivial, trivial, trivial⟩ m
theorem oneR_0 (c : Int) : ACall Tryz.prog 107 [i c] [] (i (mx (Clip c) 1)) [] := by
  refine acall_run R_ref02_one_ok ?_
  refine WCall.any _ (clipR _) ⟨fun h => ?_, fun h => ?_⟩
  · exact endP (.inr rfl) rfl (i_eq (by have := dt h; unfold mx; split <;> omega)) trivial
  · exact endP (.inr rfl) rfl (i_eq (by have := df h; unfold mx; split <;> omega)) trivial
theorem oneR (c : Int) (m : Mem) : ACall Tryz.prog 107 [i c] m (i (mx (Clip c) 1)) m := acall_pure (oneR_0 c) ⟨trivial, trivial⟩ m
theorem divR_0 (a c : Int) : ACall Tryz.prog 96 [i a, i c] [] (.tup [i (Div a c).1, i (Div a c).2]) [] := by
  have hf := div_facts a c
  unfold Most at hf
  obtain ⟨f1, f2, f3, f4, f5, f6⟩ := hf
  have he := div_eq (a := Clip a) (c := mx (Clip c) 1) (by omega)
  have hD : Div a c = if (Clip a).tmod (mx (Clip c) 1) < 0 then ((Clip a).tdiv (mx (Clip c) 1) - 1, (Clip a).tmod (mx (Clip c) 1) + mx (Clip c) 1) else ((Clip a).tdiv (mx (Clip c) 1), (Clip a).tmod (mx (Clip c) 1)) := rfl
  rw [← he] at hD
  have ha := clip_range a
  unfold Most at ha
  refine acall_run R_ref02_Div_ok ?_
  refine WCall.any _ (clipR _) (WCall.any _ (oneR _) (WOp.mk _ _ (rem_op (b := mx (Clip c) 1) rfl rfl (by omega)) trivial ⟨fun h => ?_, fun h => ?_⟩))
  · have h := dt h
    rw [if_pos h] at hD he
    rw [if_pos h] at he
    have e1 := (Prod.mk.inj he).1
    have w1 : IntKind.i64.wrap ((Clip a).tmod (mx (Clip c) 1) + mx (Clip c) 1) = (Clip a).tmod (mx (Clip c) 1) + mx (Clip c) 1 := wrap_id (by omega) (by omega)
    have w2 : IntKind.i64.wrap (Clip a - ((Clip a).tmod (mx (Clip c) 1) + mx (Clip c) 1)) = Clip a - ((Clip a).tmod (mx (Clip c) 1) + mx (Clip c) 1) := wrap_id (by omega) (by omega)
    refine WOp.mk _ _ (quo_op (b := mx (Clip c) 1) rfl rfl (by omega)) trivial ?_
    refine endP (.inr rfl) rfl (tup2_eq ?_ ?_) ⟨trivial, trivial, trivial⟩
    · rw [w1, w2, hD]
      show IntKind.i64.wrap ((Clip a - ((Clip a).tmod (mx (Clip c) 1) + mx (Clip c) 1)).tdiv (mx (Clip c) 1)) = _
      rw [e1, wrap_id (by omega) (by omega)]
    · rw [w1, hD]
  · have h := df h
    rw [if_neg h] at hD he
    rw [if_neg h] at he
    have e1 := (Prod.mk.inj he).1
    have hm := Int.tmod_lt_of_pos (Clip a) (b := mx (Clip c) 1) (by omega)
    have w2 : IntKind.i64.wrap (Clip a - (Clip a).tmod (mx (Clip c) 1)) = Clip a - (Clip a).tmod (mx (Clip c) 1) := wrap_id (by omega) (by omega)
    refine WOp.mk _ _ (quo_op (b := mx (Clip c) 1) rfl rfl (by omega)) trivial ?_
    refine endP (.inr rfl) rfl (tup2_eq ?_ ?_) ⟨trivial, trivial, trivial⟩
    · rw [w2, hD]
      show IntKind.i64.wrap ((Clip a - (Clip a).tmod (mx (Clip c) 1)).tdiv (mx (Clip c) 1)) = _
      rw [e1, wrap_id (by omega) (by omega)]
    · rw [hD]
theorem divR (a c : Int) (m : Mem) : ACall Tryz.prog 96 [i a, i c] m (.tup [i (Div a c).1, i (Div a c).2]) m := acall_pure (divR_0 a c) ⟨trivial, trivial, trivial⟩ m
end Go.Proofs.YtlkphnhlibpngaaGreat.Abs
