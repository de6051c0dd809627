/- The document's functions, part 5: what is the same; health; the k-th least. -/
import Derived.Test.YtlkphnhlibpngaaGreatD3
import Derived.Test.YtlkphnhlibpngaaGreatPure6
set_option linter.unusedVariables false
set_option linter.unusedSimpArgs false
set_option maxRecDepth 100000
namespace Go.Proofs.YtlkphnhlibpngaaGreat.Abs
open Go

theorem tabGo_long : ∀ (xs : List Leap) (k : Nat) (off : Int) (prev : Leap), k ≤ 32 → 32 < k + xs.length → TabGo k off prev xs = false
  | [], k, off, prev, h1, h2 => by simp at h2; omega
  | x :: xs, k, off, prev, h1, h2 => by
    unfold TabGo
    split
    · rfl
    · rename_i hb
      refine tabGo_long xs (k + 1) x.off x ?_ (by simp at h2; omega)
      by_cases h : k = 32
      · exfalso; exact hb (by subst h; simp [TabBad])
      · omega
def TabBadR (k : Nat) (was : Int) (prev x : Leap) : Bool :=
  decide (x.sec < 0) || (decide (1099511627776 < x.sec) || (decide (x.off < -32) || (decide (32 < x.off) || ((decide (0 < (k : Int)) && decide (x.sec < w64 (prev.sec + 86400))) || (!decide (x.off = w64 (was + 1)) && !decide (x.off = w64 (was - 1)))))))
theorem tabBad_alt {k : Nat} {was : Int} {prev x : Leap} (hk : k < 32) (hp1 : 0 ≤ prev.sec) (hp2 : prev.sec ≤ 1099511627776) (hw1 : -32 ≤ was) (hw2 : was ≤ 32) : TabBad k was prev x = TabBadR k was prev x := by
  by_cases h1 : x.sec < 0
  · simp [TabBad, TabBadR, WIn, h1]
  by_cases h2 : 1099511627776 < x.sec
  · simp [TabBad, TabBadR, WIn, h2]
  by_cases h3 : x.off < -32
  · simp [TabBad, TabBadR, WIn, h3]
  by_cases h4 : 32 < x.off
  · simp [TabBad, TabBadR, WIn, h4]
  have e1 : w64 (x.sec - prev.sec) = x.sec - prev.sec := wrap_id (by omega) (by omega)
  have e2 : w64 (x.off - was) = x.off - was := wrap_id (by omega) (by omega)
  have e3 : w64 (prev.sec + 86400) = prev.sec + 86400 := wrap_id (by omega) (by omega)
  have e4 : w64 (was + 1) = was + 1 := wrap_id (by omega) (by omega)
  have e5 : w64 (was - 1) = was - 1 := wrap_id (by omega) (by omega)
  have h0 : ¬ 32 ≤ (k : Int) := by omega
  unfold TabBad TabBadR
  rw [e1, e2, e3, e4, e5]
  simp only [WIn, List.all_cons, List.all_nil, Bool.and_true, h0, h1, h2, h3, h4, decide_false, Bool.false_or, Bool.or_false, Bool.not_false, Bool.not_true]
  rw [Bool.eq_iff_iff]
  simp only [Bool.or_eq_true, Bool.and_eq_true, Bool.not_eq_true', decide_eq_true_eq, decide_eq_false_iff_not]
  omega
theorem tableR_0 (t : Bool) (xs : List Leap) : ACall Tryz.prog 55 [.p (.list 2 t (xs.map rLeap))] [] (bools (Table xs)) [] := by
  have ll : (xs.map rLeap).length = xs.length := List.length_map _
  refine acall_run R_ref06_Table_ok ⟨fun h0 => ?_, fun h0 => ?_⟩
  · rw [ll] at h0
    exact endP (.inr rfl) rfl (b_eq (by have := dt h0; exact (tabGo_long xs 0 0 ⟨0, 0⟩ (by omega) (by omega)).symm)) trivial
  rw [ll] at h0
  have h0 : xs.length ≤ 32 := by have := df h0; omega
  refine wloopc (σ := Nat × Int) (fun s => [(0, .p (.list 2 t (xs.map rLeap))), (3, i s.2), (9, .p (.list 2 t (xs.map rLeap))), (10, i (xs.map rLeap).length), (11, i s.1)]) (fun _ => []) (fun s => s.1 ≤ xs.length ∧ TabGo s.1 s.2 (prevOf xs s.1) (xs.drop s.1) = Table xs ∧ 0 ≤ (prevOf xs s.1).sec ∧ (prevOf xs s.1).sec ≤ 1099511627776 ∧ -32 ≤ s.2 ∧ s.2 ≤ 32)
    (fun s => xs.length - s.1) (0, 0) ⟨rfl, rfl, rfl, rfl, rfl, trivial⟩ rfl ⟨Nat.zero_le _, rfl, by show (0 : Int) ≤ 0; decide, by show (0 : Int) ≤ 1099511627776; decide, by decide, by decide⟩ (fun _ _ => ⟨trivial, trivial, trivial, trivial, trivial, trivial⟩) (fun _ _ => trivial) (fun _ _ => Nat.le_refl _) ?_
  rintro ⟨k, off⟩ ⟨hk, hn, p1, p2, w1, w2⟩
  have hn : TabGo k off (prevOf xs k) (xs.drop k) = Table xs := hn
  have p1 : 0 ≤ (prevOf xs k).sec := p1
  have p2 : (prevOf xs k).sec ≤ 1099511627776 := p2
  have w1 : -32 ≤ off := w1
  have w2 : off ≤ 32 := w2
  refine ⟨fun h1 => ?_, fun h1 => ?_⟩
  · have h1 : k < xs.length := by have := dt h1; simp at this; exact this
    have hx := List.getElem?_eq_getElem h1
    rw [drop_get h1] at hn
    have alt := tabBad_alt (x := xs[k]) (show k < 32 by omega) p1 p2 w1 w2
    have bad : TabBadR k off (prevOf xs k) xs[k] = true → Table xs = false := by
      intro h; rw [← alt] at h; rw [← hn]; simp only [TabGo, h, if_true]
    have hb : ∀ b, TabBadR k off (prevOf xs k) xs[k] = b → TabBadR k off (prevOf xs k) xs[k] = b := fun _ h => h
    have go : TabBadR k off (prevOf xs k) xs[k] = false → ¬ xs[k].sec < 0 → ¬ 1099511627776 < xs[k].sec → ¬ xs[k].off < -32 → ¬ 32 < xs[k].off → some (i (IntKind.i64.wrap ((k : Int) + 1))) = some (i ((k + 1 : Nat) : Int)) ∧ (k + 1 ≤ xs.length ∧ TabGo (k + 1) xs[k].off (prevOf xs (k + 1)) (xs.drop (k + 1)) = Table xs ∧ 0 ≤ (prevOf xs (k + 1)).sec ∧ (prevOf xs (k + 1)).sec ≤ 1099511627776 ∧ -32 ≤ xs[k].off ∧ xs[k].off ≤ 32) ∧ xs.length - (k + 1) < xs.length - k := by
      intro h g1 g2 g3 g4
      rw [← alt] at h
      have e : prevOf xs (k + 1) = xs[k] := by simp only [prevOf, hx, Option.getD_some]
      refine ⟨?_, ⟨h1, ?_, by rw [e]; omega, by rw [e]; omega, by omega, by omega⟩, by omega⟩
      · rw [wrap_id (by omega) (by omega)]; rfl
      · rw [← hn, e]; simp only [TabGo]; rw [h]; rfl
    refine WOp.mk _ _ (iad_list rfl rfl (Int.natCast_nonneg k) (row_get hx)) trivial ?_
    refine ⟨fun g1 => endP (.inr rfl) rfl (b_eq (by rw [bad (by simp only [TabBadR, g1, Bool.true_or])])) trivial, fun g1 => ⟨fun g2 => endP (.inr rfl) rfl (b_eq (by rw [bad (by simp only [TabBadR, g2, Bool.true_or, Bool.or_true])])) trivial, fun g2 => ⟨fun g3 => endP (.inr rfl) rfl (b_eq (by rw [bad (by simp only [TabBadR, g3, Bool.true_or, Bool.or_true])])) trivial, fun g3 => ⟨fun g4 => endP (.inr rfl) rfl (b_eq (by rw [bad (by simp only [TabBadR, g4, Bool.true_or, Bool.or_true])])) trivial, fun g4 => ?_⟩⟩⟩⟩
    refine ⟨fun h5 => ?_, fun h5 => ?_⟩
    · have h5' : (0 : Int) < (k : Int) := dt h5
      have h5 : decide (0 < (k : Int)) = true := h5
      have hj : xs[k - 1]? = some xs[k - 1] := List.getElem?_eq_getElem (by omega)
      have hw : IntKind.i64.wrap ((k : Int) - 1) = ((k - 1 : Nat) : Int) := by rw [wrap_id (by omega) (by omega)]; omega
      refine WOp.mk _ _ (iad_list (n := IntKind.i64.wrap ((k : Int) - 1)) rfl rfl (by omega) (by rw [hw]; exact row_get hj)) trivial ?_
      have hp : prevOf xs k = xs[k - 1] := by
        obtain ⟨j, rfl⟩ : ∃ j, k = j + 1 := ⟨k - 1, by omega⟩
        simp only [Nat.add_sub_cancel] at hj ⊢
        simp only [prevOf, hj, Option.getD_some]
      rw [hp] at bad go
      refine ⟨fun h6 => ?_, fun h6 => ⟨fun h7 => ⟨fun h8 => ?_, fun h8 => ?_⟩, fun h7 => ?_⟩⟩
      · have h6 : decide (xs[k].sec < w64 (xs[k - 1].sec + 86400)) = true := h6
        exact endP (.inr rfl) rfl (b_eq (by rw [bad (by simp only [TabBadR, h5, h6, Bool.and_self, Bool.true_or, Bool.or_true])])) trivial
      · have h7 : (!decide (xs[k].off = w64 (off + 1))) = true := h7
        have h8 : (!decide (xs[k].off = w64 (off - 1))) = true := h8
        exact endP (.inr rfl) rfl (b_eq (by rw [bad (by simp only [TabBadR, h7, h8, Bool.and_self, Bool.or_true])])) trivial
      · have h6 : decide (xs[k].sec < w64 (xs[k - 1].sec + 86400)) = false := h6
        have h8 : (!decide (xs[k].off = w64 (off - 1))) = false := h8
        obtain ⟨q1, q2, q3⟩ := go (by simp only [TabBadR, g1, g2, g3, g4, h6, h8, Bool.and_false, Bool.or_false]) (df g1) (df g2) (df g3) (df g4)
        exact ⟨(k + 1, xs[k].off), ⟨rfl, rfl, rfl, rfl, q1, trivial⟩, rfl, q2, q3⟩
      · have h6 : decide (xs[k].sec < w64 (xs[k - 1].sec + 86400)) = false := h6
        have h7 : (!decide (xs[k].off = w64 (off + 1))) = false := h7
        obtain ⟨q1, q2, q3⟩ := go (by simp only [TabBadR, g1, g2, g3, g4, h6, h7, Bool.and_false, Bool.false_and, Bool.or_false]) (df g1) (df g2) (df g3) (df g4)
        exact ⟨(k + 1, xs[k].off), ⟨rfl, rfl, rfl, rfl, q1, trivial⟩, rfl, q2, q3⟩
    · have h5 : decide (0 < (k : Int)) = false := h5
      refine ⟨fun h7 => ⟨fun h8 => ?_, fun h8 => ?_⟩, fun h7 => ?_⟩
      · have h7 : (!decide (xs[k].off = w64 (off + 1))) = true := h7
        have h8 : (!decide (xs[k].off = w64 (off - 1))) = true := h8
        exact endP (.inr rfl) rfl (b_eq (by rw [bad (by simp only [TabBadR, h7, h8, Bool.and_self, Bool.or_true])])) trivial
      · have h8 : (!decide (xs[k].off = w64 (off - 1))) = false := h8
        obtain ⟨q1, q2, q3⟩ := go (by simp only [TabBadR, g1, g2, g3, g4, h5, h8, Bool.and_false, Bool.false_and, Bool.or_false]) (df g1) (df g2) (df g3) (df g4)
        exact ⟨(k + 1, xs[k].off), ⟨rfl, rfl, rfl, rfl, q1, trivial⟩, rfl, q2, q3⟩
      · have h7 : (!decide (xs[k].off = w64 (off + 1))) = false := h7
        obtain ⟨q1, q2, q3⟩ := go (by simp only [TabBadR, g1, g2, g3, g4, h5, h7, Bool.and_false, Bool.false_and, Bool.or_false]) (df g1) (df g2) (df g3) (df g4)
        exact ⟨(k + 1, xs[k].off), ⟨rfl, rfl, rfl, rfl, q1, trivial⟩, rfl, q2, q3⟩
  · have h1 : k = xs.length := by have := df h1; simp at this; omega
    refine endP (.inr rfl) rfl (b_eq ?_) trivial
    rw [← hn, h1, List.drop_length]; rfl
theorem tableR (t : Bool) (xs : List Leap) (m : Mem) : ACall Tryz.prog 55 [.p (.list 2 t (xs.map rLeap))] m (bools (Table xs)) m := acall_pure (tableR_0 t xs) ⟨trivial, trivial⟩ m
theorem goodR_0 (t : Bool) (xs : List Leap) : ACall Tryz.prog 24 [.p (.list 2 t (xs.map rLeap))] [] (bools (LeapGood xs)) [] := by
  refine acall_fact (F := xs.length ≤ 281474976710656) (fun S vs _ _ hv => by obtain ⟨z, zs, _, hv, _⟩ := hv; exact prow_len hv) fun hlen => ?_
  refine acall_run R_ref18_Good_ok ?_
  refine WCall.any _ (tableR t xs) ⟨fun h0 => ?_, fun h0 => ?_⟩
  · have e : ∀ b, xs.any DayBad = b → LeapGood xs = !b := fun b h => by rw [LeapGood, h0, h]; rfl
    refine wloopc (σ := Nat) (fun k => [(0, .p (.list 2 t (xs.map rLeap))), (8, .p (.list 2 t (xs.map rLeap))), (9, i (xs.map rLeap).length), (10, i k)]) (fun _ => []) (fun k => k ≤ xs.length ∧ (xs.drop k).any DayBad = xs.any DayBad)
      (fun k => xs.length - k) 0 ⟨rfl, rfl, rfl, rfl, trivial⟩ rfl ⟨Nat.zero_le _, rfl⟩ (fun _ _ => ⟨trivial, trivial, trivial, trivial, trivial⟩) (fun _ _ => trivial) (fun _ _ => Nat.le_refl _) ?_
    rintro k ⟨hk, hn⟩
    refine ⟨fun h1 => ?_, fun h1 => ?_⟩
    · have h1 : k < xs.length := by have := dt h1; simp at this; exact this
      have hx := List.getElem?_eq_getElem h1
      rw [drop_get h1, List.any_cons] at hn
      refine WOp.mk _ _ (iad_list rfl rfl (Int.natCast_nonneg k) (row_get hx)) trivial (WOp.mk _ _ (rem_op rfl rfl (by decide)) trivial ⟨fun h2 => ?_, fun h2 => ?_⟩)
      · have h2 : DayBad xs[k] = true := h2
        exact endP (.inr rfl) rfl (b_eq (by rw [e true (by rw [← hn, h2]; rfl)]; rfl)) trivial
      · have h2 : DayBad xs[k] = false := h2
        refine ⟨k + 1, ⟨rfl, rfl, rfl, ?_, trivial⟩, rfl, ⟨h1, by rw [← hn, h2, Bool.false_or]⟩, by show xs.length - (k + 1) < _; omega⟩
        show some (i (IntKind.i64.wrap ((k : Int) + 1))) = _
        rw [wrap_id (by omega) (by omega)]; rfl
    · have h1 : k = xs.length := by have := df h1; simp at this; omega
      exact endP (.inr rfl) rfl (b_eq (by rw [e false (by rw [← hn, h1, List.drop_length]; rfl)]; rfl)) trivial
  · exact endP (.inr rfl) rfl (b_eq (by rw [LeapGood, h0]; rfl)) trivial
theorem goodR (t : Bool) (xs : List Leap) (m : Mem) : ACall Tryz.prog 24 [.p (.list 2 t (xs.map rLeap))] m (bools (LeapGood xs)) m := acall_pure (goodR_0 t xs) ⟨trivial, trivial⟩ m

theorem tablesR_0 (t t' : Bool) (xs : List Leap) : ACall Tryz.prog 16 [.p (.list 2 t (xs.map rLeap)), .p (.list 2 t' (xs.map rLeap))] [] (bools true) [] := by
  refine acall_fact (F := xs.length ≤ 281474976710656) (fun S vs _ _ hv => by obtain ⟨z, zs, _, hv, _⟩ := hv; exact prow_len hv) fun hlen => ?_
  refine acall_run R_ref06_Tables_ok ⟨fun h => by simp at h, fun _ => ?_⟩
  refine wloop (σ := Nat) (fun k => [(0, .p (.list 2 t (xs.map rLeap))), (1, .p (.list 2 t' (xs.map rLeap))), (11, .p (.list 2 t (xs.map rLeap))), (12, i (xs.map rLeap).length), (13, i k)]) (fun _ => []) (fun k => k ≤ xs.length)
    (fun k => xs.length - k) 0 ⟨rfl, rfl, rfl, rfl, rfl, trivial⟩ rfl (Nat.zero_le _) ?_
  rintro k hk
  refine ⟨fun h1 => ?_, fun h1 => ?_⟩
  · have h1 : k < xs.length := by have := dt h1; simp at this; exact this
    have hx := List.getElem?_eq_getElem h1
    refine WOp.mk _ _ (iad_list rfl rfl (Int.natCast_nonneg k) (row_get hx)) trivial (WOp.mk _ _ (iad_list rfl rfl (Int.natCast_nonneg k) (row_get hx)) trivial ⟨fun h => by simp at h, fun _ => ?_⟩)
    refine ⟨k + 1, ⟨rfl, rfl, rfl, rfl, ?_, trivial⟩, rfl, h1, by show xs.length - (k + 1) < _; omega⟩
    show some (i (IntKind.i64.wrap ((k : Int) + 1))) = _
    rw [wrap_id (by omega) (by omega)]; rfl
  · exact endP (.inr rfl) rfl (b_eq rfl) trivial
theorem tablesR (t t' : Bool) (xs : List Leap) (m : Mem) : ACall Tryz.prog 16 [.p (.list 2 t (xs.map rLeap)), .p (.list 2 t' (xs.map rLeap))] m (bools true) m := acall_pure (tablesR_0 t t' xs) ⟨trivial, trivial, trivial⟩ m
theorem same6_0 (m : Msg) : ACall Tryz.prog 12 [.agg (eMsg m), .agg (eMsg m)] [] (bools true) [] := by
  refine acall_run R_ref06_Same_ok ?_
  repeat first
    | refine ⟨fun _ => ?_, fun h => by (simp at h; done)⟩
    | refine WB.of ?_
    | refine WCall.any _ (tablesR false false m.table) ?_
  exact endP (.inr rfl) rfl rfl trivial
theorem same6 (m : Msg) (mm : Mem) : ACall Tryz.prog 12 [.agg (eMsg m), .agg (eMsg m)] mm (bools true) mm := acall_pure (same6_0 m) ⟨flatM m, flatM m, trivial⟩ mm
theorem same21_0 (s : State) : ACall Tryz.prog 9 [.agg (eState s), .agg (eState s)] [] (bools true) [] := by
  refine acall_run R_ref21_Same_ok ?_
  repeat first
    | refine ⟨fun _ => ?_, fun h => by (simp at h; done)⟩
    | refine WB.of ?_
    | refine WCall.any _ (tablesR false false s.table) ?_
  exact endP (.inr rfl) rfl rfl trivial
theorem same21 (s : State) (mm : Mem) : ACall Tryz.prog 9 [.agg (eState s), .agg (eState s)] mm (bools true) mm := acall_pure (same21_0 s) ⟨flatState s, flatState s, trivial⟩ mm

/-! health -/
theorem ofH_0 (p : Params) (s : State) : ACall Tryz.prog 75 [.agg (eP p), .agg (eState s)] [] (i (Of p s)) [] := by
  refine acall_run R_ref21_Of_ok ⟨fun h1 => ⟨fun h2 => ⟨fun h3 => ?_, fun h3 => ⟨fun h4 => ?_, fun h4 => ?_⟩⟩, fun h2 => ?_⟩, fun h1 => ?_⟩
  · exact endP (.inr rfl) rfl (i_eq (by simp only [Of, h1, h2, h3, Bool.not_true, Bool.false_or, if_true])) trivial
  · exact endP (.inr rfl) rfl (i_eq (by simp only [Of, h1, h2, h3, Bool.not_true, Bool.false_or, Bool.false_eq_true, if_false, dt h4, if_true])) trivial
  · exact endP (.inr rfl) rfl (i_eq (by simp only [Of, h1, h2, h3, Bool.not_true, Bool.false_or, Bool.false_eq_true, if_false, if_neg (df h4)])) trivial
  · exact endP (.inr rfl) rfl (i_eq (by simp only [Of, h1, h2, Bool.not_true, Bool.not_false, Bool.false_or, Bool.true_or, if_true])) trivial
  · exact endP (.inr rfl) rfl (i_eq (by simp only [Of, h1, Bool.not_false, Bool.true_or, if_true])) trivial
theorem ofH (p : Params) (s : State) (m : Mem) : ACall Tryz.prog 75 [.agg (eP p), .agg (eState s)] m (i (Of p s)) m := acall_pure (ofH_0 p s) ⟨flatP p, flatState s, trivial⟩ m
theorem farR_0 (p : Params) (held : Int) : ACall Tryz.prog 97 [.agg (eP p), i held] [] (i (Far p held)) [] := by
  refine acall_run R_ref21_Far_ok ?_
  refine WCall.any _ (maxR true [held, p.hold]) (WCall.any _ (widthR _ _ _) (WCall.any _ (mulR _ _) ?_))
  exact endP (.inr rfl) rfl (i_eq rfl) trivial
theorem farR (p : Params) (held : Int) (m : Mem) : ACall Tryz.prog 97 [.agg (eP p), i held] m (i (Far p held)) m := acall_pure (farR_0 p held) ⟨flatP p, trivial, trivial⟩ m
theorem mostR_0 (p : Params) (s : State) : ACall Tryz.prog 81 [.agg (eP p), .agg (eState s)] [] (i (MostT p s)) [] := by
  refine acall_run R_ref21_most_ok ?_
  refine WCall.any _ (farR _ _) (WCall.any _ (addR true [s.span.hi, Far p s.held]) ?_)
  exact endP (.inr rfl) rfl (i_eq rfl) trivial
theorem mostR (p : Params) (s : State) (m : Mem) : ACall Tryz.prog 81 [.agg (eP p), .agg (eState s)] m (i (MostT p s)) m := acall_pure (mostR_0 p s) ⟨flatP p, flatState s, trivial⟩ m
theorem jumpsR_0 (p : Params) (s : State) (ticks : Int) (next : State) : ACall Tryz.prog 80 [.agg (eP p), .agg (eState s), i ticks, .agg (eState next)] [] (bools (Jump p s ticks next)) [] := by
  have hr := sub_range (Mid next.span) (Add [s.time, ticks])
  have hc : Clip (Sub (Mid next.span) (Add [s.time, ticks])) = Sub (Mid next.span) (Add [s.time, ticks]) := clip_id hr.1 hr.2
  unfold Most at hr
  have hJ : Jump p s ticks next = (decide (Of p s = 0) || (decide (Far p next.held < Sub (Mid next.span) (Add [s.time, ticks])) || decide (Far p next.held < -Sub (Mid next.span) (Add [s.time, ticks])))) := by
    unfold Jump Abs Neg
    rw [hc]
    rw [Bool.eq_iff_iff]
    simp only [Bool.or_eq_true, decide_eq_true_eq]
    split <;> omega
  rw [hJ]
  have w : IntKind.i64.wrap (0 - Sub (Mid next.span) (Add [s.time, ticks])) = -Sub (Mid next.span) (Add [s.time, ticks]) := by rw [wrap_id (by omega) (by omega)]; omega
  refine acall_run R_ref21_Jumps_ok ?_
  refine WCall.any _ (midR next.span) (WCall.any _ (addR true [s.time, ticks]) (WCall.any _ (subR _ _) (WCall.any _ (farR _ _) (WCall.any _ (ofH p s) ?_))))
  refine ⟨fun h1 => ?_, fun h1 => ⟨fun h2 => ?_, fun h2 => ⟨fun h3 => ?_, fun h3 => ?_⟩⟩⟩
  · exact endP (.inr rfl) rfl (b_eq (by rw [h1]; rfl)) trivial
  · exact endP (.inr rfl) rfl (b_eq (by rw [h1, h2]; rfl)) trivial
  · rw [w] at h3
    exact endP (.inr rfl) rfl (b_eq (by rw [h1, h2, h3]; rfl)) trivial
  · rw [w] at h3
    exact endP (.inr rfl) rfl (b_eq (by rw [h1, h2, h3]; rfl)) trivial
theorem jumpsR (p : Params) (s : State) (ticks : Int) (next : State) (m : Mem) : ACall Tryz.prog 80 [.agg (eP p), .agg (eState s), i ticks, .agg (eState next)] m (bools (Jump p s ticks next)) m := acall_pure (jumpsR_0 p s ticks next) ⟨flatP p, flatState s, trivial, flatState next, trivial⟩ m
theorem stampedR_0 (s : State) : ACall Tryz.prog 77 [.agg (eState s)] [] (.agg (eState (StampF s))) [] := by
  refine acall_run R_ref21_Stamped_ok ?_
  refine WCall.any _ (tickR s.stamp s.time) ?_
  exact endP (.inr rfl) rfl rfl (flatState _)
theorem stampedR (s : State) (m : Mem) : ACall Tryz.prog 77 [.agg (eState s)] m (.agg (eState (StampF s))) m := acall_pure (stampedR_0 s) ⟨flatState s, trivial⟩ m
end Go.Proofs.YtlkphnhlibpngaaGreat.Abs
