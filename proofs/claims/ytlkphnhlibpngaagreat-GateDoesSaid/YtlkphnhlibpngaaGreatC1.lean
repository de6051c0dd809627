/- Contracts, part 1: sat, span. -/
import Derived.Test.YtlkphnhlibpngaaGreatR1
import Derived.Test.YtlkphnhlibpngaaGreatEnc
set_option linter.unusedVariables false
set_option linter.unusedSimpArgs false
set_option maxRecDepth 100000
namespace Go.Proofs.YtlkphnhlibpngaaGreat.Abs
open Go

theorem i_eq {a b : Int} (h : a = b) : tupled [i a] = i b := by rw [h]; rfl
theorem b_eq {a b : Bool} (h : a = b) : tupled [bools a] = bools b := by rw [h]; rfl
theorem dt {p : Prop} [Decidable p] (h : decide p = true) : p := of_decide_eq_true h
theorem df {p : Prop} [Decidable p] (h : decide p = false) : ¬ p := of_decide_eq_false h
theorem ndt {p : Prop} [Decidable p] (h : (!decide p) = true) : ¬ p := by simpa using h
theorem ndf {p : Prop} [Decidable p] (h : (!decide p) = false) : p := by simpa using h

theorem iad_list {L : Env} {m : Mem} {sz : Nat} {x y : Operand} {t : Bool} {xs : List (List PV)} {n : Int} {r : List PV} {k : IntKind} (hx : opd L x = some (.p (.list sz t xs))) (hi : opd L y = some (ints k n)) (h0 : 0 ≤ n) (hr : xs[n.toNat]? = some r) :
    aop L m (.iad sz x y) = some (.fp r, m) := by
  simp [aop, hx, hi, ints, asInt?, h0, hr]

theorem bound_0 (x lo hi : Int) : ACall Tryz.prog 51 [i x, i lo, i hi] [] (i (Bound x lo hi)) [] := by
  refine acall_run R_sat_Bound_ok ⟨fun h1 => ?_, fun h1 => ⟨fun h2 => ?_, fun h2 => ⟨fun h3 => ?_, fun h3 => ?_⟩⟩⟩
  · exact endP (.inr rfl) rfl (i_eq (by rw [Bound, if_pos (.inl (dt h1))])) trivial
  · exact endP (.inr rfl) rfl (i_eq (by rw [Bound, if_pos (.inr (dt h2))])) trivial
  · exact endP (.inr rfl) rfl (i_eq (by rw [Bound, if_neg (fun h => h.elim (df h1) (df h2)), if_pos (dt h3)])) trivial
  · exact endP (.inr rfl) rfl (i_eq (by rw [Bound, if_neg (fun h => h.elim (df h1) (df h2)), if_neg (df h3)])) trivial
theorem bound_ok (x lo hi : Int) (m : Mem) : ACall Tryz.prog 51 [i x, i lo, i hi] m (i (Bound x lo hi)) m := acall_pure (bound_0 x lo hi) ⟨trivial, trivial, trivial, trivial⟩ m
theorem clip_0 (x : Int) : ACall Tryz.prog 50 [i x] [] (i (Clip x)) [] := by
  refine acall_run R_sat_Clip_ok ?_
  refine WCall.any _ (bound_ok _ _ _) ?_
  exact endP (.inr rfl) rfl rfl trivial
theorem clip_ok (x : Int) (m : Mem) : ACall Tryz.prog 50 [i x] m (i (Clip x)) m := acall_pure (clip_0 x) ⟨trivial, trivial⟩ m
theorem sub_0 (a b : Int) : ACall Tryz.prog 58 [i a, i b] [] (i (Sub a b)) [] := by
  refine acall_run R_sat_Sub_ok ?_
  refine WCall.any _ (clip_ok _) (WCall.any _ (clip_ok _) (WCall.any _ (clip_ok _) ?_))
  exact endP (.inr rfl) rfl (i_eq (by have := clip_range a; have := clip_range b; unfold Most at *; rw [wrap_id (by omega) (by omega), Sub])) trivial
theorem sub_ok (a b : Int) (m : Mem) : ACall Tryz.prog 58 [i a, i b] m (i (Sub a b)) m := acall_pure (sub_0 a b) ⟨trivial, trivial, trivial⟩ m
theorem neg_0 (a : Int) : ACall Tryz.prog 60 [i a] [] (i (Neg a)) [] := by
  refine acall_run R_sat_Neg_ok ?_
  refine WCall.any _ (clip_ok _) ?_
  exact endP (.inr rfl) rfl (i_eq (by have := clip_range a; unfold Most at *; rw [wrap_id (by omega) (by omega), Neg]; omega)) trivial
theorem neg_ok (a : Int) (m : Mem) : ACall Tryz.prog 60 [i a] m (i (Neg a)) m := acall_pure (neg_0 a) ⟨trivial, trivial⟩ m
theorem abs_0 (a : Int) : ACall Tryz.prog 63 [i a] [] (i (Abs a)) [] := by
  refine acall_run R_sat_Abs_ok ⟨fun h1 => ?_, fun h1 => ?_⟩
  · refine WCall.any _ (neg_ok _) ?_
    exact endP (.inr rfl) rfl (i_eq (by rw [Abs, if_pos (dt h1)])) trivial
  · refine WCall.any _ (clip_ok _) ?_
    exact endP (.inr rfl) rfl (i_eq (by rw [Abs, if_neg (df h1)])) trivial
theorem abs_ok (a : Int) (m : Mem) : ACall Tryz.prog 63 [i a] m (i (Abs a)) m := acall_pure (abs_0 a) ⟨trivial, trivial⟩ m
theorem quo_op {L : Env} {m : Mem} {x y : Operand} {t : EqT} {k : IntKind} {a b : Int} (hx : opd L x = some (ints k a)) (hy : opd L y = some (ints k b)) (h : b ≠ 0) : aop L m (.bin .quo t x y) = some (ints k (k.wrap (a.tdiv b)), m) := by
  simp [aop, hx, hy, ints, binop, binInt, h]
theorem rem_op {L : Env} {m : Mem} {x y : Operand} {t : EqT} {k : IntKind} {a b : Int} (hx : opd L x = some (ints k a)) (hy : opd L y = some (ints k b)) (h : b ≠ 0) : aop L m (.bin .rem t x y) = some (ints k (a.tmod b), m) := by
  simp [aop, hx, hy, ints, binop, binInt, h]
theorem mul_0 (a b : Int) : ACall Tryz.prog 92 [i a, i b] [] (i (Mul a b)) [] := by
  have hx := abs_range a
  have hy := abs_range b
  have fin : ∀ p : Int, (p = if Abs a = 0 ∨ Abs b ≤ Most.tdiv (Abs a) then Abs a * Abs b else Most) → -9223372036854775808 ≤ p → p ≤ Most → Mul a b = if (decide (a < 0) != decide (b < 0)) = true then IntKind.i64.wrap (0 - p) else p := by
    intro p hp h1 h2
    have h2' : p ≤ 2305843009213693952 := h2
    have : -2305843009213693952 ≤ p := by
      rw [hp]; split
      · rename_i h; have := mul_in hx.1 hy.1 h; omega
      · unfold Most; omega
    rw [wrap_id (by omega) (by omega)]
    unfold Mul
    simp only [← hp]
    split <;> omega
  refine acall_run R_sat_Mul_ok ?_
  refine WCall.any _ (abs_ok _) (WCall.any _ (abs_ok _) ⟨fun h1 => ?_, fun h1 => ?_⟩)
  · have h0 := dt h1
    have hp := fin (IntKind.i64.wrap (Abs a * Abs b)) (by rw [if_pos (.inl h0), h0, Int.zero_mul]; rfl) (by rw [h0, Int.zero_mul]; decide) (by rw [h0, Int.zero_mul]; decide)
    refine ⟨fun h3 => ⟨fun h4 => ⟨fun h5 => ?_, fun h5 => ?_⟩, fun h4 => ⟨fun h5 => ?_, fun h5 => ?_⟩⟩, fun h3 => ⟨fun h4 => ⟨fun h5 => ?_, fun h5 => ?_⟩, fun h4 => ⟨fun h5 => ?_, fun h5 => ?_⟩⟩⟩
    all_goals first
      | exact absurd h5 (by decide)
      | exact endP (.inr rfl) rfl (i_eq (by rw [hp, h3, h4]; rfl)) trivial
  · have h0 := df h1
    refine WOp.mk _ _ (quo_op rfl rfl h0) trivial ⟨fun h2 => ?_, fun h2 => ?_⟩
    · have h2' := dt h2
      have hq : IntKind.i64.wrap (Most.tdiv (Abs a)) = Most.tdiv (Abs a) := by
        rw [Int.tdiv_eq_ediv_of_nonneg (by unfold Most; omega)]
        have h5 : Most / Abs a ≤ Most := Int.ediv_le_self _ (by unfold Most; omega)
        have h6 : 0 ≤ Most / Abs a := Int.ediv_nonneg (by unfold Most; omega) hx.1
        have h7 : Most / Abs a ≤ 2305843009213693952 := h5
        exact wrap_id (by omega) (by omega)
      have h8 : Abs b ≤ Most.tdiv (Abs a) := hq ▸ h2'
      have h9 := mul_in hx.1 hy.1 (.inr h8)
      have h10 : Abs a * Abs b ≤ 2305843009213693952 := h9.2
      have hw := wrap_id (n := Abs a * Abs b) (by omega) (by omega)
      have hp := fin (Abs a * Abs b) (by rw [if_pos (.inr h8)]) (by omega) h9.2
      refine ⟨fun h3 => ⟨fun h4 => ⟨fun h5 => ?_, fun h5 => ?_⟩, fun h4 => ⟨fun h5 => ?_, fun h5 => ?_⟩⟩, fun h3 => ⟨fun h4 => ⟨fun h5 => ?_, fun h5 => ?_⟩, fun h4 => ⟨fun h5 => ?_, fun h5 => ?_⟩⟩⟩
      all_goals first
        | exact absurd h5 (by decide)
        | exact endP (.inr rfl) rfl (i_eq (by rw [hp, h3, h4, hw]; rfl)) trivial
    · have h2' := df h2
      have hq : IntKind.i64.wrap (Most.tdiv (Abs a)) = Most.tdiv (Abs a) := by
        rw [Int.tdiv_eq_ediv_of_nonneg (by unfold Most; omega)]
        have h5 : Most / Abs a ≤ Most := Int.ediv_le_self _ (by unfold Most; omega)
        have h6 : 0 ≤ Most / Abs a := Int.ediv_nonneg (by unfold Most; omega) hx.1
        have h7 : Most / Abs a ≤ 2305843009213693952 := h5
        exact wrap_id (by omega) (by omega)
      have h8 : ¬ Abs b ≤ Most.tdiv (Abs a) := hq ▸ h2'
      have hp := fin Most (by rw [if_neg (fun h => h.elim h0 h8)]) (by unfold Most; omega) (Int.le_refl _)
      refine ⟨fun h3 => ⟨fun h4 => ⟨fun h5 => ?_, fun h5 => ?_⟩, fun h4 => ⟨fun h5 => ?_, fun h5 => ?_⟩⟩, fun h3 => ⟨fun h4 => ⟨fun h5 => ?_, fun h5 => ?_⟩, fun h4 => ⟨fun h5 => ?_, fun h5 => ?_⟩⟩⟩
      all_goals first
        | exact absurd h5 (by decide)
        | exact endP (.inr rfl) rfl (i_eq (by rw [hp, h3, h4]; rfl)) trivial
theorem mul_ok (a b : Int) (m : Mem) : ACall Tryz.prog 92 [i a, i b] m (i (Mul a b)) m := acall_pure (mul_0 a b) ⟨trivial, trivial, trivial⟩ m

/-- A loop over a list of numbers that goes on with one number. -/
theorem take_succ_get {α : Type} {xs : List α} {k : Nat} {x : α} (h : xs[k]? = some x) : xs.take (k + 1) = xs.take k ++ [x] := by
  rw [List.take_add_one, h]; rfl
theorem il_get {xs : List Int} {k : Nat} {x : Int} (h : xs[k]? = some x) : (xs.map fun n => [iv n])[((k : Nat) : Int).toNat]? = some [iv x] := by
  simp [h]
theorem add_0 (t : Bool) (xs : List Int) : ACall Tryz.prog 52 [il t xs] [] (i (Add xs)) [] := by
  refine acall_fact (F := xs.length ≤ 281474976710656) (fun S vs _ _ hv => by
    obtain ⟨z, zs, _, ⟨A, len, cap, _, rfl, _, h4, _⟩, _⟩ := hv; simpa using h4) fun hlen => ?_
  refine acall_run R_sat_Add_ok ?_
  refine wloop (σ := Nat × Int) (fun s => [(0, il t xs), (3, i s.2), (6, il t xs), (7, i (xs.map fun n => [iv n]).length), (8, i s.1)]) (fun _ => []) (fun s => s.1 ≤ xs.length ∧ s.2 = (xs.take s.1).foldl (fun n x => Clip (n + Clip x)) 0)
    (fun s => xs.length - s.1) (0, 0) ⟨rfl, rfl, rfl, rfl, rfl, trivial⟩ rfl ⟨Nat.zero_le _, rfl⟩ ?_
  rintro ⟨k, n⟩ ⟨hk, hn⟩
  have hn : n = (xs.take k).foldl (fun n x => Clip (n + Clip x)) 0 := hn
  refine ⟨fun h1 => ?_, fun h1 => ?_⟩
  · have h1 : k < xs.length := by have := dt h1; simp at this; exact this
    have hx := List.getElem?_eq_getElem h1
    refine WOp.mk _ _ (iad_list rfl rfl (Int.natCast_nonneg k) (il_get hx)) trivial ?_
    refine WCall.any _ (clip_ok _) (WCall.any _ (clip_ok _) ?_)
    have hr1 := clip_range xs[k]
    have hn' : -Most ≤ n ∧ n ≤ Most := by rw [hn]; exact add_range _
    refine ⟨(k + 1, Clip (n + Clip xs[k])), ⟨rfl, ?_, rfl, rfl, ?_, trivial⟩, rfl, ⟨h1, ?_⟩, ?_⟩
    · unfold Most at *
      show some (i (Clip (IntKind.i64.wrap (n + Clip xs[k])))) = _
      rw [wrap_id (by omega) (by omega)]
    · show some (i (IntKind.i64.wrap ((k : Int) + 1))) = _
      rw [wrap_id (by omega) (by omega)]
      rfl
    · show _ = ((xs.take (k + 1)).foldl _ 0)
      rw [take_succ_get hx, List.foldl_append, ← hn]; rfl
    · show xs.length - (k + 1) < xs.length - k
      omega
  · have h1 : k = xs.length := by have := df h1; simp at this; omega
    refine endP (.inr rfl) rfl (i_eq ?_) trivial
    show n = _
    rw [hn, h1, List.take_length]; rfl
theorem add_ok (t : Bool) (xs : List Int) (m : Mem) : ACall Tryz.prog 52 [il t xs] m (i (Add xs)) m := acall_pure (add_0 t xs) ⟨trivial, trivial⟩ m
theorem il_len {S : Setup} {t : Bool} {xs : List Int} {y : Value} (h : VR S (il t xs) y) : xs.length ≤ 281474976710656 := by
  obtain ⟨A, len, cap, _, rfl, _, h4, _⟩ := h
  simpa using h4
theorem max_0 (t : Bool) (xs : List Int) : ACall Tryz.prog 94 [il t xs] [] (i (Max xs)) [] := by
  refine acall_fact (F := xs.length ≤ 281474976710656) (fun S vs _ _ hv => by obtain ⟨z, zs, _, hv, _⟩ := hv; exact il_len hv) fun hlen => ?_
  refine acall_run R_sat_Max_ok ?_
  refine wloop (σ := Nat × Int) (fun s => [(0, il t xs), (3, i s.2), (6, il t xs), (7, i (xs.map fun n => [iv n]).length), (8, i s.1)]) (fun _ => []) (fun s => s.1 ≤ xs.length ∧ s.2 = (xs.take s.1).foldl (fun n x => mx n (Clip x)) (-Most))
    (fun s => xs.length - s.1) (0, -Most) ⟨rfl, rfl, rfl, rfl, rfl, trivial⟩ rfl ⟨Nat.zero_le _, rfl⟩ ?_
  rintro ⟨k, n⟩ ⟨hk, hn⟩
  have hn : n = (xs.take k).foldl (fun n x => mx n (Clip x)) (-Most) := hn
  refine ⟨fun h1 => ?_, fun h1 => ?_⟩
  · have h1 : k < xs.length := by have := dt h1; simp at this; exact this
    have hx := List.getElem?_eq_getElem h1
    refine WOp.mk _ _ (iad_list rfl rfl (Int.natCast_nonneg k) (il_get hx)) trivial ?_
    refine WCall.any _ (clip_ok _) ?_
    refine ⟨(k + 1, mx n (Clip xs[k])), ⟨rfl, rfl, rfl, rfl, ?_, trivial⟩, rfl, ⟨h1, ?_⟩, ?_⟩
    · show some (i (IntKind.i64.wrap ((k : Int) + 1))) = _
      rw [wrap_id (by omega) (by omega)]
      rfl
    · show _ = ((xs.take (k + 1)).foldl _ _)
      rw [take_succ_get hx, List.foldl_append, ← hn]; rfl
    · show xs.length - (k + 1) < xs.length - k
      omega
  · have h1 : k = xs.length := by have := df h1; simp at this; omega
    refine endP (.inr rfl) rfl (i_eq ?_) trivial
    show n = _
    rw [hn, h1, List.take_length]; rfl
theorem max_ok (t : Bool) (xs : List Int) (m : Mem) : ACall Tryz.prog 94 [il t xs] m (i (Max xs)) m := acall_pure (max_0 t xs) ⟨trivial, trivial⟩ m

/-! spans -/
theorem span_eq {a b : Int} {s : Span} (h1 : a = s.lo) (h2 : b = s.hi) : tupled [.agg [i a, i b]] = .agg (eSpan s) := by rw [h1, h2]; rfl
theorem spanb_eq {a b : Int} {c d : Bool} {s : Span} (h1 : a = s.lo) (h2 : b = s.hi) (h3 : c = d) : tupled [.agg [i a, i b], bools c] = .tup [.agg (eSpan s), bools d] := by rw [h1, h2, h3]; rfl
theorem of_0 (a b : Int) : ACall Tryz.prog 47 [i a, i b] [] (.agg (eSpan (SpanOf a b))) [] := by
  refine acall_run R_span_Of_ok ?_
  refine WCall.any _ (clip_ok _) (WCall.any _ (clip_ok _) ?_)
  exact endP (.inr rfl) rfl (span_eq rfl rfl) ⟨trivial, trivial, trivial⟩
theorem of_ok (a b : Int) (m : Mem) : ACall Tryz.prog 47 [i a, i b] m (.agg (eSpan (SpanOf a b))) m := acall_pure (of_0 a b) ⟨trivial, trivial, trivial⟩ m
theorem empty_0 (s : Span) : ACall Tryz.prog 48 [.agg (eSpan s)] [] (bools (Empty s)) [] := by
  refine acall_run R_span_Empty_ok ⟨fun h => ?_, fun h => ?_⟩
  · exact endP (.inr rfl) rfl (b_eq (by rw [Empty, h])) trivial
  · exact endP (.inr rfl) rfl (b_eq (by rw [Empty, h])) trivial
theorem empty_ok (s : Span) (m : Mem) : ACall Tryz.prog 48 [.agg (eSpan s)] m (bools (Empty s)) m := acall_pure (empty_0 s) ⟨⟨trivial, trivial, trivial⟩, trivial⟩ m
theorem all_0 : ACall Tryz.prog 49 [] [] (.agg (eSpan SpanAll)) [] := by
  refine acall_run R_span_All_ok ?_
  exact endP (.inr rfl) rfl (span_eq rfl rfl) ⟨trivial, trivial, trivial⟩
theorem all_ok (m : Mem) : ACall Tryz.prog 49 [] m (.agg (eSpan SpanAll)) m := acall_pure all_0 trivial m
theorem shift_0 (s : Span) (a b : Int) : ACall Tryz.prog 59 [.agg (eSpan s), i a, i b] [] (.agg (eSpan (Shift s a b))) [] := by
  refine acall_run R_span_Shift_ok ?_
  refine WCall.any _ (add_ok true [s.lo, a]) (WCall.any _ (add_ok true [s.hi, b]) ?_)
  exact endP (.inr rfl) rfl (span_eq rfl rfl) ⟨trivial, trivial, trivial⟩
theorem shift_ok (s : Span) (a b : Int) (m : Mem) : ACall Tryz.prog 59 [.agg (eSpan s), i a, i b] m (.agg (eSpan (Shift s a b))) m := acall_pure (shift_0 s a b) ⟨⟨trivial, trivial, trivial⟩, trivial, trivial, trivial⟩ m
theorem mid_0 (s : Span) : ACall Tryz.prog 62 [.agg (eSpan s)] [] (i (Mid s)) [] := by
  refine acall_run R_span_Mid_ok ?_
  refine WCall.any _ (clip_ok _) (WCall.any _ (clip_ok _) ?_)
  refine endP (.inr rfl) rfl (i_eq ?_) trivial
  have := clip_range s.lo; have := clip_range s.hi; unfold Most at *
  rw [wrap_id (by omega) (by omega)]; rfl
theorem mid_ok (s : Span) (m : Mem) : ACall Tryz.prog 62 [.agg (eSpan s)] m (i (Mid s)) m := acall_pure (mid_0 s) ⟨⟨trivial, trivial, trivial⟩, trivial⟩ m

/-! carry, limit -/
theorem flatP (p : Params) : (AV.agg (eP p)).under 0 := ⟨trivial, trivial, trivial, trivial, trivial, trivial, trivial, trivial, trivial, trivial, trivial, trivial, trivial⟩
theorem flatS (s : Span) : (AV.agg (eSpan s)).under 0 := ⟨trivial, trivial, trivial⟩
theorem way_0 (p : Params) (s : Span) (a : Int) : ACall Tryz.prog 31 [.agg (eP p), .agg (eSpan s), i a] [] (.agg (eSpan (Way p s a))) [] := by
  refine acall_run R_carry_Way_ok ?_
  refine WCall.any _ (sub_ok _ _) (WCall.any _ (neg_ok _) (WCall.any _ (add_ok true [Sub p.delay p.jitter, a, Neg p.rho]) (WCall.any _ (add_ok true [p.delay, a, p.rho]) (WCall.any _ (shift_ok s _ _) ?_))))
  exact endP (.inr rfl) rfl (span_eq (s := Way p s a) rfl rfl) (flatS _)
theorem way_ok (p : Params) (s : Span) (a : Int) (m : Mem) : ACall Tryz.prog 31 [.agg (eP p), .agg (eSpan s), i a] m (.agg (eSpan (Way p s a))) m := acall_pure (way_0 p s a) ⟨flatP p, flatS s, trivial, trivial⟩ m
theorem hold_0 (p : Params) (s : Span) (a : Int) : ACall Tryz.prog 32 [.agg (eP p), .agg (eSpan s), i a] [] (.agg (eSpan (Hold p s a))) [] := by
  refine acall_run R_carry_Hold_ok ?_
  refine WCall.any _ (sub_ok _ _) (WCall.any _ (add_ok true [a, p.rho]) (WCall.any _ (shift_ok s _ _) ?_))
  exact endP (.inr rfl) rfl (span_eq (s := Hold p s a) rfl rfl) (flatS _)
theorem hold_ok (p : Params) (s : Span) (a : Int) (m : Mem) : ACall Tryz.prog 32 [.agg (eP p), .agg (eSpan s), i a] m (.agg (eSpan (Hold p s a))) m := acall_pure (hold_0 p s a) ⟨flatP p, flatS s, trivial, trivial⟩ m
theorem hop_0 (p : Params) : ACall Tryz.prog 106 [.agg (eP p)] [] (i (Hop p)) [] := by
  refine acall_run R_limit_Hop_ok ?_
  refine WCall.any _ (mul_ok _ _) (WCall.any _ (add_ok true [p.jitter, Mul 2 p.rho]) ?_)
  exact endP (.inr rfl) rfl (i_eq rfl) trivial
theorem hop_ok (p : Params) (m : Mem) : ACall Tryz.prog 106 [.agg (eP p)] m (i (Hop p)) m := acall_pure (hop_0 p) ⟨flatP p, trivial⟩ m
theorem lgate_0 (p : Params) : ACall Tryz.prog 105 [.agg (eP p)] [] (i (LGate p)) [] := by
  refine acall_run R_limit_Gate_ok ?_
  refine WCall.any _ (mul_ok _ _) (WCall.any _ (hop_ok p) (WCall.any _ (add_ok true [Mul 2 p.eps, Hop p]) (WCall.any _ (mul_ok _ _) ?_)))
  exact endP (.inr rfl) rfl (i_eq rfl) trivial
theorem lgate_ok (p : Params) (m : Mem) : ACall Tryz.prog 105 [.agg (eP p)] m (i (LGate p)) m := acall_pure (lgate_0 p) ⟨flatP p, trivial⟩ m
theorem width_0 (p : Params) (a b : Int) : ACall Tryz.prog 93 [.agg (eP p), i a, i b] [] (i (Width p a b)) [] := by
  refine acall_run R_limit_Width_ok ?_
  refine WCall.any _ (lgate_ok p) (WCall.any _ (mul_ok _ _) (WCall.any _ (mul_ok _ _) (WCall.any _ (add_ok true [b, 1]) (WCall.any _ (hop_ok p) (WCall.any _ (mul_ok _ _) (WCall.any _ (add_ok true [LGate p, Mul (Mul 2 p.rho) a, Mul (Add [b, 1]) (Hop p)]) ?_))))))
  exact endP (.inr rfl) rfl (i_eq rfl) trivial
theorem width_ok (p : Params) (a b : Int) (m : Mem) : ACall Tryz.prog 93 [.agg (eP p), i a, i b] m (i (Width p a b)) m := acall_pure (width_0 p a b) ⟨flatP p, trivial, trivial, trivial⟩ m
theorem far_0 (p : Params) (a : Int) : ACall Tryz.prog 65 [.agg (eP p), i a] [] (i (Far p a)) [] := by
  refine acall_run R_health_Far_ok ?_
  refine WCall.any _ (max_ok true [a, p.hold]) (WCall.any _ (width_ok p _ _) (WCall.any _ (mul_ok _ _) ?_))
  exact endP (.inr rfl) rfl (i_eq rfl) trivial
theorem far_ok (p : Params) (a : Int) (m : Mem) : ACall Tryz.prog 65 [.agg (eP p), i a] m (i (Far p a)) m := acall_pure (far_0 p a) ⟨flatP p, trivial, trivial⟩ m
/-! anchor -/
theorem seen_0 (p : Params) (r : Int) : ACall Tryz.prog 30 [.agg (eP p), i r] [] (.tup [.agg (eSpan (Seen p r).1), bools (Seen p r).2]) [] := by
  refine acall_run R_anchor_Seen_ok ⟨fun h => ?_, fun h => ⟨fun h' => ?_, fun h' => ⟨fun h'' => ?_, fun h'' => ?_⟩⟩⟩
  · exact endP (.inr rfl) rfl (spanb_eq (by simp only [Seen, h, Bool.true_or, if_true]) (by simp only [Seen, h, Bool.true_or, if_true]) (by simp only [Seen, h, Bool.true_or, if_true])) ⟨flatS _, trivial, trivial⟩
  · exact endP (.inr rfl) rfl (spanb_eq (by simp only [Seen, h, h', Bool.true_or, Bool.false_or, if_true]) (by simp only [Seen, h, h', Bool.true_or, Bool.false_or, if_true]) (by simp only [Seen, h, h', Bool.true_or, Bool.false_or, if_true])) ⟨flatS _, trivial, trivial⟩
  · exact endP (.inr rfl) rfl (spanb_eq (by simp only [Seen, h, h', h'', Bool.or_true, Bool.false_or, if_true]) (by simp only [Seen, h, h', h'', Bool.or_true, Bool.false_or, if_true]) (by simp only [Seen, h, h', h'', Bool.or_true, Bool.false_or, if_true])) ⟨flatS _, trivial, trivial⟩
  · refine WCall.any _ (sub_ok _ _) (WCall.any _ (add_ok true [r, p.eps]) ?_)
    exact endP (.inr rfl) rfl (spanb_eq (by simp only [Seen, h, h', h'', Bool.or_false, Bool.false_eq_true, if_false]) (by simp only [Seen, h, h', h'', Bool.or_false, Bool.false_eq_true, if_false]) (by simp only [Seen, h, h', h'', Bool.or_false, Bool.false_eq_true, if_false])) ⟨flatS _, trivial, trivial⟩
theorem seen_ok (p : Params) (r : Int) (m : Mem) : ACall Tryz.prog 30 [.agg (eP p), i r] m (.tup [.agg (eSpan (Seen p r).1), bools (Seen p r).2]) m := acall_pure (seen_0 p r) ⟨flatP p, trivial, trivial⟩ m
theorem more_0 (a : Int) : ACall Tryz.prog 33 [i a] [] (i (More a)) [] := by
  refine acall_run R_anchor_More_ok ?_
  refine WCall.any _ (add_ok true [a, 1]) (WCall.any _ (bound_ok _ _ _) ?_)
  exact endP (.inr rfl) rfl (i_eq rfl) trivial
theorem more_ok (a : Int) (m : Mem) : ACall Tryz.prog 33 [i a] m (i (More a)) m := acall_pure (more_0 a) ⟨trivial, trivial⟩ m
end Go.Proofs.YtlkphnhlibpngaaGreat.Abs
