/- Contracts, part 2: wide, pulse, hlc, slew, wire, leap, health. -/
import Derived.Test.YtlkphnhlibpngaaGreatC1
set_option linter.unusedVariables false
set_option linter.unusedSimpArgs false
set_option maxRecDepth 100000
namespace Go.Proofs.YtlkphnhlibpngaaGreat.Abs
open Go

theorem div_facts (a c : Int) : 1 ≤ mx (Clip c) 1 ∧ mx (Clip c) 1 ≤ Most ∧ -Most ≤ (Clip a).tdiv (mx (Clip c) 1) ∧ (Clip a).tdiv (mx (Clip c) 1) ≤ Most ∧ -Most ≤ (Clip a).tmod (mx (Clip c) 1) ∧ (Clip a).tmod (mx (Clip c) 1) ≤ Most := by
  have h1 := clip_range a
  have h2 := clip_range c
  have h3 : 1 ≤ mx (Clip c) 1 := by unfold mx; split <;> omega
  have h4 : mx (Clip c) 1 ≤ Most := by unfold mx; split <;> unfold Most at * <;> omega
  generalize mx (Clip c) 1 = y at *
  generalize Clip a = x at *
  refine ⟨h3, h4, ?_⟩
  rcases Int.lt_or_le x 0 with hx | hx
  · obtain ⟨z, rfl⟩ : ∃ z : Int, x = -z := ⟨-x, by omega⟩
    rw [Int.neg_tdiv, Int.neg_tmod, Int.tdiv_eq_ediv_of_nonneg (by omega), Int.tmod_eq_emod_of_nonneg (by omega)]
    have e1 : z / y ≤ z := Int.ediv_le_self _ (by omega)
    have e2 : 0 ≤ z / y := Int.ediv_nonneg (by omega) (by omega)
    have e3 := Int.emod_nonneg z (b := y) (by omega)
    have e4 := Int.emod_lt_of_pos z (b := y) (by omega)
    omega
  · rw [Int.tdiv_eq_ediv_of_nonneg (by omega), Int.tmod_eq_emod_of_nonneg (by omega)]
    have e1 : x / y ≤ x := Int.ediv_le_self _ (by omega)
    have e2 : 0 ≤ x / y := Int.ediv_nonneg (by omega) (by omega)
    have e3 := Int.emod_nonneg x (b := y) (by omega)
    have e4 := Int.emod_lt_of_pos x (b := y) (by omega)
    omega
theorem tup2_eq {a b c d : Int} (h1 : a = c) (h2 : b = d) : tupled [i a, i b] = .tup [i c, i d] := by rw [h1, h2]; rfl
theorem div_0 (a c : Int) : ACall Tryz.prog 99 [i a, i c] [] (.tup [i (Div a c).1, i (Div a c).2]) [] := by
  have hf := div_facts a c
  unfold Most at hf
  have w1 := wrap_id (n := (Clip a).tdiv (mx (Clip c) 1)) (by omega) (by omega)
  refine acall_run R_wide_Div_ok ?_
  refine WCall.any _ (clip_ok _) (WCall.any _ (clip_ok _) (WOp.mk _ _ (quo_op (b := mx (Clip c) 1) rfl rfl (by omega)) trivial (WOp.mk _ _ (rem_op (b := mx (Clip c) 1) rfl rfl (by omega)) trivial ⟨fun h => ?_, fun h => ?_⟩)))
  · have h := dt h
    refine endP (.inr rfl) rfl (tup2_eq ?_ ?_) ⟨trivial, trivial, trivial⟩
    · rw [w1, wrap_id (by omega) (by omega)]; simp only [Div, if_pos h]
    · show IntKind.i64.wrap ((Clip a).tmod (mx (Clip c) 1) + mx (Clip c) 1) = _
      rw [wrap_id (by omega) (by omega)]; simp only [Div, if_pos h]
  · have h := df h
    refine endP (.inr rfl) rfl (tup2_eq ?_ ?_) ⟨trivial, trivial, trivial⟩
    · rw [w1]; simp only [Div, if_neg h]
    · simp only [Div, if_neg h]
theorem div_ok (a c : Int) (m : Mem) : ACall Tryz.prog 99 [i a, i c] m (.tup [i (Div a c).1, i (Div a c).2]) m := acall_pure (div_0 a c) ⟨trivial, trivial, trivial⟩ m
theorem number_0 (p : Params) (t : Int) : ACall Tryz.prog 83 [.agg (eP p), i t] [] (i (Number p t)) [] := by
  refine acall_run R_pulse_Number_ok ?_
  refine WCall.any _ (div_ok _ _) ?_
  exact endP (.inr rfl) rfl (i_eq rfl) trivial
theorem number_ok (p : Params) (t : Int) (m : Mem) : ACall Tryz.prog 83 [.agg (eP p), i t] m (i (Number p t)) m := acall_pure (number_0 p t) ⟨flatP p, trivial, trivial⟩ m

/-! hlc -/
theorem flatSt (s : Stamp) : (AV.agg (eStamp s)).under 0 := ⟨trivial, trivial, trivial⟩
theorem stamp_eq {a b : Int} {s : Stamp} (h1 : a = s.time) (h2 : b = s.num) : tupled [.agg [i a, i b]] = .agg (eStamp s) := by rw [h1, h2]; rfl
theorem stampb_eq {a b : Int} {c d : Bool} {s : Stamp} (h1 : a = s.time) (h2 : b = s.num) (h3 : c = d) : tupled [.agg [i a, i b], bools c] = .tup [.agg (eStamp s), bools d] := by rw [h1, h2, h3]; rfl
theorem right_0 (s : Stamp) : ACall Tryz.prog 54 [.agg (eStamp s)] [] (bools (Right s)) [] := by
  refine acall_run R_hlc_Right_ok ⟨fun h1 => ⟨fun h2 => ⟨fun h3 => ⟨fun h4 => ?_, fun h4 => ?_⟩, fun h3 => ?_⟩, fun h2 => ?_⟩, fun h1 => ?_⟩
  · exact endP (.inr rfl) rfl (b_eq (by rw [Right]; unfold Most; rw [h1, h2, h3, h4]; rfl)) trivial
  · exact endP (.inr rfl) rfl (b_eq (by rw [Right]; unfold Most; rw [h1, h2, h3, h4]; rfl)) trivial
  · exact endP (.inr rfl) rfl (b_eq (by rw [Right]; unfold Most; rw [h1, h2, h3]; rfl)) trivial
  · exact endP (.inr rfl) rfl (b_eq (by rw [Right]; unfold Most; rw [h1, h2]; rfl)) trivial
  · exact endP (.inr rfl) rfl (b_eq (by rw [Right]; unfold Most; rw [h1]; rfl)) trivial
theorem right_ok (s : Stamp) (m : Mem) : ACall Tryz.prog 54 [.agg (eStamp s)] m (bools (Right s)) m := acall_pure (right_0 s) ⟨flatSt s, trivial⟩ m
theorem next_0 (s : Stamp) : ACall Tryz.prog 95 [.agg (eStamp s)] [] (.agg (eStamp (Next s))) [] := by
  refine acall_run R_hlc_Next_ok ⟨fun h1 => ?_, fun h1 => ?_⟩
  · refine WCall.any _ (add_ok true [s.time, 1]) ?_
    exact endP (.inr rfl) rfl (stamp_eq (by rw [Next, if_pos (dt h1)]) (by rw [Next, if_pos (dt h1)])) (flatSt _)
  · refine WCall.any _ (clip_ok _) ?_
    refine endP (.inr rfl) rfl (stamp_eq (by rw [Next, if_neg (df h1)]) ?_) (flatSt _)
    show IntKind.i64.wrap (mx s.num 0 + 1) = _
    have := df h1
    rw [wrap_id (by unfold mx; split <;> omega) (by unfold mx; split <;> omega), Next, if_neg (df h1)]
theorem next_ok (s : Stamp) (m : Mem) : ACall Tryz.prog 95 [.agg (eStamp s)] m (.agg (eStamp (Next s))) m := acall_pure (next_0 s) ⟨flatSt s, trivial⟩ m
theorem tick_0 (s : Stamp) (n : Int) : ACall Tryz.prog 69 [.agg (eStamp s), i n] [] (.agg (eStamp (Tick s n))) [] := by
  refine acall_run R_hlc_Clock_Tick_ok ?_
  refine WCall.any _ (clip_ok _) ⟨fun h1 => ?_, fun h1 => ?_⟩
  · exact endP (.inr rfl) rfl (stamp_eq (by rw [Tick, if_pos (dt h1)]) (by rw [Tick, if_pos (dt h1)])) (flatSt _)
  · refine WCall.any _ (next_ok s) ?_
    exact endP (.inr rfl) rfl (stamp_eq (by rw [Tick, if_neg (df h1)]) (by rw [Tick, if_neg (df h1)])) (flatSt _)
theorem tick_ok (s : Stamp) (n : Int) (m : Mem) : ACall Tryz.prog 69 [.agg (eStamp s), i n] m (.agg (eStamp (Tick s n))) m := acall_pure (tick_0 s n) ⟨flatSt s, trivial, trivial⟩ m
theorem mend_0 (s : Stamp) (a b : Int) : ACall Tryz.prog 67 [.agg (eStamp s), i a, i b] [] (.tup [.agg (eStamp (Mend s a b).1), bools (Mend s a b).2]) [] := by
  refine acall_run R_hlc_Clock_Mend_ok ?_
  refine WCall.any _ (right_ok s) ⟨fun h1 => ⟨fun h2 => ?_, fun h2 => ?_⟩, fun h1 => ?_⟩
  · exact endP (.inr rfl) rfl (stampb_eq (by simp [Mend, h1, h2]) (by simp [Mend, h1, h2]) (by simp [Mend, h1, h2])) ⟨flatSt _, trivial, trivial⟩
  · refine WCall.any _ (clip_ok _) ?_
    exact endP (.inr rfl) rfl (stampb_eq (by simp [Mend, h1, h2]) (by simp [Mend, h1, h2]) (by simp [Mend, h1, h2])) ⟨flatSt _, trivial, trivial⟩
  · refine WCall.any _ (clip_ok _) ?_
    exact endP (.inr rfl) rfl (stampb_eq (by simp [Mend, h1]) (by simp [Mend, h1]) (by simp [Mend, h1])) ⟨flatSt _, trivial, trivial⟩
theorem mend_ok (s : Stamp) (a b : Int) (m : Mem) : ACall Tryz.prog 67 [.agg (eStamp s), i a, i b] m (.tup [.agg (eStamp (Mend s a b).1), bools (Mend s a b).2]) m := acall_pure (mend_0 s a b) ⟨flatSt s, trivial, trivial, trivial⟩ m
theorem slew_0 (time : Int) (set : Bool) (p : Params) (ticks to : Int) (jump : Bool) : ACall Tryz.prog 66 [.agg [i time, bools set], .agg (eP p), i ticks, i to, bools jump] [] (.agg [i (Slew time set p ticks to jump), bools true]) [] := by
  have eq : ∀ {a b : Int}, a = b → tupled [.agg [i a, bools true]] = .agg [i b, bools true] := fun h => by rw [h]; rfl
  cases jump
  · refine acall_run R_slew_Clock_Step_ok ⟨fun h => ?_, fun h => ?_⟩
    · subst h
      refine WCall.any _ (add_ok true [time, ticks]) (WCall.any _ (sub_ok _ _) (WCall.any _ (neg_ok _) (WCall.any _ (bound_ok _ _ _) (WCall.any _ (add_ok true [Add [time, ticks], Bound (Sub to (Add [time, ticks])) (Neg p.mu) p.mu]) ?_))))
      exact endP (.inr rfl) rfl (eq rfl) ⟨trivial, trivial, trivial⟩
    · subst h
      refine WCall.any _ (clip_ok _) ?_
      exact endP (.inr rfl) rfl (eq rfl) ⟨trivial, trivial, trivial⟩
  · refine acall_run R_slew_Clock_Step_ok ?_
    refine WCall.any _ (clip_ok _) ?_
    exact endP (.inr rfl) rfl (eq rfl) ⟨trivial, trivial, trivial⟩
theorem slew_ok (time : Int) (set : Bool) (p : Params) (ticks to : Int) (jump : Bool) (m : Mem) : ACall Tryz.prog 66 [.agg [i time, bools set], .agg (eP p), i ticks, i to, bools jump] m (.agg [i (Slew time set p ticks to jump), bools true]) m :=
  acall_pure (slew_0 time set p ticks to jump) ⟨⟨trivial, trivial, trivial⟩, flatP p, trivial, trivial, trivial, trivial⟩ m

/-! wire, leap -/
theorem drop_get {α : Type} {xs : List α} {k : Nat} (h : k < xs.length) : xs.drop k = xs[k] :: xs.drop (k + 1) := List.drop_eq_getElem_cons h
theorem win_0 (lo hi : Int) (t : Bool) (xs : List Int) : ACall Tryz.prog 100 [i lo, i hi, il t xs] [] (bools (WIn lo hi xs)) [] := by
  refine acall_fact (F := xs.length ≤ 281474976710656) (fun S vs _ _ hv => by obtain ⟨_, _, _, _, _, _, _, _, z, zs, _, hv, _⟩ := hv; exact il_len hv) fun hlen => ?_
  refine acall_run R_wire_in_ok ?_
  refine wloop (σ := Nat) (fun k => [(0, i lo), (1, i hi), (9, il t xs), (10, i (xs.map fun n => [iv n]).length), (11, i k)]) (fun _ => []) (fun k => k ≤ xs.length ∧ WIn lo hi (xs.drop k) = WIn lo hi xs)
    (fun k => xs.length - k) 0 ⟨rfl, rfl, rfl, rfl, rfl, trivial⟩ rfl ⟨Nat.zero_le _, rfl⟩ ?_
  rintro k ⟨hk, hn⟩
  refine ⟨fun h1 => ?_, fun h1 => ?_⟩
  · have h1 : k < xs.length := by have := dt h1; simp at this; exact this
    have hx := List.getElem?_eq_getElem h1
    rw [drop_get h1] at hn
    refine WOp.mk _ _ (iad_list rfl rfl (Int.natCast_nonneg k) (il_get hx)) trivial ⟨fun h2 => ?_, fun h2 => ⟨fun h3 => ?_, fun h3 => ?_⟩⟩
    · exact endP (.inr rfl) rfl (b_eq (by rw [← hn]; simp only [WIn, List.all_cons, h2, Bool.true_or, Bool.not_true, Bool.false_and])) trivial
    · exact endP (.inr rfl) rfl (b_eq (by rw [← hn]; simp only [WIn, List.all_cons, h3, Bool.or_true, Bool.not_true, Bool.false_and])) trivial
    · refine ⟨k + 1, ⟨rfl, rfl, rfl, rfl, ?_, trivial⟩, rfl, ⟨h1, ?_⟩, ?_⟩
      · show some (i (IntKind.i64.wrap ((k : Int) + 1))) = _
        rw [wrap_id (by omega) (by omega)]
        rfl
      · rw [← hn]; simp only [WIn, List.all_cons, h2, h3, Bool.or_false, Bool.not_false, Bool.true_and]
      · show xs.length - (k + 1) < xs.length - k
        omega
  · have h1 : k = xs.length := by have := df h1; simp at this; omega
    refine endP (.inr rfl) rfl (b_eq ?_) trivial
    rw [← hn, h1, List.drop_length]; rfl
theorem win_ok (lo hi : Int) (t : Bool) (xs : List Int) (m : Mem) : ACall Tryz.prog 100 [i lo, i hi, il t xs] m (bools (WIn lo hi xs)) m := acall_pure (win_0 lo hi t xs) ⟨trivial, trivial, trivial, trivial⟩ m
theorem row_get {α : Type} {f : α → List PV} {xs : List α} {k : Nat} {x : α} (h : xs[k]? = some x) : (xs.map f)[((k : Nat) : Int).toNat]? = some (f x) := by
  simp [h]
theorem prow_len {S : Setup} {sz : Nat} {t : Bool} {α : Type} {f : α → List PV} {xs : List α} {y : Value} (h : VR S (.p (.list sz t (xs.map f))) y) : xs.length ≤ 281474976710656 := by
  obtain ⟨A, len, cap, _, rfl, _, h4, _⟩ := h
  simpa using h4
def prevOf (xs : List Leap) : Nat → Leap
  | 0 => ⟨0, 0⟩
  | k + 1 => xs[k]?.getD ⟨0, 0⟩
theorem table_0 (t : Bool) (xs : List Leap) : ACall Tryz.prog 85 [.p (.list 2 t (xs.map rLeap))] [] (bools (Table xs)) [] := by
  refine acall_fact (F := xs.length ≤ 281474976710656) (fun S vs _ _ hv => by obtain ⟨z, zs, _, hv, _⟩ := hv; exact prow_len hv) fun hlen => ?_
  refine acall_run R_wire_Table_ok ?_
  refine wloopc (σ := Nat × Int) (fun s => [(0, .p (.list 2 t (xs.map rLeap))), (3, i s.2), (6, .p (.list 2 t (xs.map rLeap))), (7, i (xs.map rLeap).length), (8, i s.1)]) (fun _ => []) (fun s => s.1 ≤ xs.length ∧ TabGo s.1 s.2 (prevOf xs s.1) (xs.drop s.1) = Table xs)
    (fun s => xs.length - s.1) (0, 0) ⟨rfl, rfl, rfl, rfl, rfl, trivial⟩ rfl ⟨Nat.zero_le _, rfl⟩ (fun _ _ => ⟨trivial, trivial, trivial, trivial, trivial, trivial⟩) (fun _ _ => trivial) (fun _ _ => Nat.le_refl _) ?_
  rintro ⟨k, off⟩ ⟨hk, hn⟩
  have hn : TabGo k off (prevOf xs k) (xs.drop k) = Table xs := hn
  refine ⟨fun h1 => ?_, fun h1 => ?_⟩
  · have h1 : k < xs.length := by have := dt h1; simp at this; exact this
    have hx := List.getElem?_eq_getElem h1
    rw [drop_get h1] at hn
    have bad : TabBad k off (prevOf xs k) xs[k] = true → Table xs = false := by
      intro h; rw [← hn]; simp only [TabGo, h, if_true]
    have good : TabBad k off (prevOf xs k) xs[k] = false → TabGo (k + 1) xs[k].off (prevOf xs (k + 1)) (xs.drop (k + 1)) = Table xs := by
      intro h; rw [← hn]; simp only [TabGo]; rw [h]; simp only [Bool.false_eq_true, if_false, prevOf, hx, Option.getD_some]
    have go : TabBad k off (prevOf xs k) xs[k] = false → some (i (IntKind.i64.wrap ((k : Int) + 1))) = some (i ((k + 1 : Nat) : Int)) ∧ (k + 1 ≤ xs.length ∧ TabGo (k + 1) xs[k].off (prevOf xs (k + 1)) (xs.drop (k + 1)) = Table xs) ∧ xs.length - (k + 1) < xs.length - k := by
      intro h
      refine ⟨?_, ⟨h1, good h⟩, by omega⟩
      rw [wrap_id (by omega) (by omega)]; rfl
    refine WOp.mk _ _ (iad_list rfl rfl (Int.natCast_nonneg k) (row_get hx)) trivial ⟨fun h2 => ?_, fun h2 => ?_⟩
    · have h2 : decide (32 ≤ (k : Int)) = true := h2
      exact endP (.inr rfl) rfl (b_eq (by rw [bad (by simp only [TabBad, h2, Bool.true_or])])) trivial
    have h2 : decide (32 ≤ (k : Int)) = false := h2
    refine WCall.any _ (win_ok _ _ true [xs[k].sec]) ⟨fun h3 => ?_, fun h3 => ?_⟩
    rotate_left
    · exact endP (.inr rfl) rfl (b_eq (by rw [bad (by simp only [TabBad, h3, Bool.not_false, Bool.true_or, Bool.or_true])])) trivial
    refine WCall.any _ (win_ok _ _ true [xs[k].off]) ⟨fun h4 => ?_, fun h4 => ?_⟩
    rotate_left
    · exact endP (.inr rfl) rfl (b_eq (by rw [bad (by simp only [TabBad, h4, Bool.not_false, Bool.true_or, Bool.or_true])])) trivial
    refine ⟨fun h5 => ?_, fun h5 => ?_⟩
    · have h5' : (0 : Int) < (k : Int) := dt h5
      have h5 : decide (0 < (k : Int)) = true := h5
      have hj : xs[k - 1]? = some xs[k - 1] := List.getElem?_eq_getElem (by omega)
      have hw : IntKind.i64.wrap ((k : Int) - 1) = ((k - 1 : Nat) : Int) := by rw [wrap_id (by omega) (by omega)]; omega
      refine WOp.mk _ _ (iad_list (n := IntKind.i64.wrap ((k : Int) - 1)) rfl rfl (by omega) (by rw [hw]; exact row_get hj)) trivial ?_
      have hp : prevOf xs k = xs[k - 1] := by
        obtain ⟨j, rfl⟩ : ∃ j, k = j + 1 := ⟨k - 1, by omega⟩
        simp only [Nat.add_sub_cancel] at hj ⊢
        simp only [prevOf, hj, Option.getD_some]
      rw [hp] at bad go
      refine ⟨fun h6 => ?_, fun h6 => ⟨fun h7 => ⟨fun h8 => ?_, fun h8 => ?_⟩, fun h7 => ?_⟩⟩
      · have h6 : decide (w64 (xs[k].sec - xs[k - 1].sec) < 86400) = true := h6
        exact endP (.inr rfl) rfl (b_eq (by rw [bad (by simp only [TabBad, h5, h6, Bool.and_self, Bool.true_or, Bool.or_true])])) trivial
      · have h7 : (!decide (w64 (xs[k].off - off) = 1)) = true := h7
        have h8 : (!decide (w64 (xs[k].off - off) = -1)) = true := h8
        exact endP (.inr rfl) rfl (b_eq (by rw [bad (by simp only [TabBad, h7, h8, Bool.and_self, Bool.or_true])])) trivial
      · have h6 : decide (w64 (xs[k].sec - xs[k - 1].sec) < 86400) = false := h6
        have h8 : (!decide (w64 (xs[k].off - off) = -1)) = false := h8
        obtain ⟨g1, g2, g3⟩ := go (by simp only [TabBad, h2, h3, h4, h6, h8, Bool.and_false, Bool.not_true, Bool.or_false])
        exact ⟨(k + 1, xs[k].off), ⟨rfl, rfl, rfl, rfl, g1, trivial⟩, rfl, g2, g3⟩
      · have h6 : decide (w64 (xs[k].sec - xs[k - 1].sec) < 86400) = false := h6
        have h7 : (!decide (w64 (xs[k].off - off) = 1)) = false := h7
        obtain ⟨g1, g2, g3⟩ := go (by simp only [TabBad, h2, h3, h4, h6, h7, Bool.and_false, Bool.false_and, Bool.not_true, Bool.or_false])
        exact ⟨(k + 1, xs[k].off), ⟨rfl, rfl, rfl, rfl, g1, trivial⟩, rfl, g2, g3⟩
    · have h5 : decide (0 < (k : Int)) = false := h5
      refine ⟨fun h7 => ⟨fun h8 => ?_, fun h8 => ?_⟩, fun h7 => ?_⟩
      · have h7 : (!decide (w64 (xs[k].off - off) = 1)) = true := h7
        have h8 : (!decide (w64 (xs[k].off - off) = -1)) = true := h8
        exact endP (.inr rfl) rfl (b_eq (by rw [bad (by simp only [TabBad, h7, h8, Bool.and_self, Bool.or_true])])) trivial
      · have h8 : (!decide (w64 (xs[k].off - off) = -1)) = false := h8
        obtain ⟨g1, g2, g3⟩ := go (by simp only [TabBad, h2, h3, h4, h5, h8, Bool.and_false, Bool.false_and, Bool.not_true, Bool.or_false])
        exact ⟨(k + 1, xs[k].off), ⟨rfl, rfl, rfl, rfl, g1, trivial⟩, rfl, g2, g3⟩
      · have h7 : (!decide (w64 (xs[k].off - off) = 1)) = false := h7
        obtain ⟨g1, g2, g3⟩ := go (by simp only [TabBad, h2, h3, h4, h5, h7, Bool.and_false, Bool.false_and, Bool.not_true, Bool.or_false])
        exact ⟨(k + 1, xs[k].off), ⟨rfl, rfl, rfl, rfl, g1, trivial⟩, rfl, g2, g3⟩
  · have h1 : k = xs.length := by have := df h1; simp at this; omega
    refine endP (.inr rfl) rfl (b_eq ?_) trivial
    rw [← hn, h1, List.drop_length]; rfl
theorem table_ok (t : Bool) (xs : List Leap) (m : Mem) : ACall Tryz.prog 85 [.p (.list 2 t (xs.map rLeap))] m (bools (Table xs)) m := acall_pure (table_0 t xs) ⟨trivial, trivial⟩ m
end Go.Proofs.YtlkphnhlibpngaaGreat.Abs
