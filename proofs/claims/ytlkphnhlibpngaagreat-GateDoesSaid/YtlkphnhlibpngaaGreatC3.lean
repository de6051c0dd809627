/- Contracts, part 3: slices, leap tables, states. -/
import Derived.Test.YtlkphnhlibpngaaGreatC2
set_option linter.unusedVariables false
set_option linter.unusedSimpArgs false
set_option maxRecDepth 100000
namespace Go.Proofs.YtlkphnhlibpngaaGreat.Abs
open Go

theorem good1_0 (l : Leap) : ACall Tryz.prog 87 [.agg [i l.sec, i l.off]] [] (bools (DayBad l)) [] := by
  refine acall_run R_leap_Good_1_ok ?_
  refine WOp.mk _ _ (rem_op rfl rfl (by decide)) trivial ⟨fun h => ?_, fun h => ?_⟩
  · exact endP (.inr rfl) rfl (b_eq (by rw [DayBad]; exact h.symm)) trivial
  · exact endP (.inr rfl) rfl (b_eq (by rw [DayBad]; exact h.symm)) trivial
theorem idxL_0 {g : FuncId} {caps : List AV} {pr : Leap → Bool} (hok : callOk Tryz.prog g = true) (hcaps : AV.unders 0 caps) (hf : ∀ l : Leap, ACall Tryz.prog g (.agg [i l.sec, i l.off] :: caps) [] (bools (pr l)) []) (t : Bool) (xs : List Leap) :
    ACall Tryz.prog 101 [.p (.list 2 t (xs.map rLeap)), .fn g caps] [] (i (Idx pr 0 xs)) [] := by
  refine acall_fact (F := xs.length ≤ 281474976710656) (fun S vs _ _ hv => by obtain ⟨z, zs, _, hv, _⟩ := hv; exact prow_len hv) fun hlen => ?_
  refine acall_run R_slices_IndexFunc_api_Leap_api_Leap_ok ?_
  refine wloop (σ := Nat) (fun k => [(0, .p (.list 2 t (xs.map rLeap))), (1, .fn g caps), (6, .p (.list 2 t (xs.map rLeap))), (7, i (xs.map rLeap).length), (8, i k)]) (fun _ => []) (fun k => k ≤ xs.length ∧ Idx pr k (xs.drop k) = Idx pr 0 xs)
    (fun k => xs.length - k) 0 ⟨rfl, rfl, rfl, rfl, rfl, trivial⟩ rfl ⟨Nat.zero_le _, rfl⟩ ?_
  rintro k ⟨hk, hn⟩
  refine ⟨fun h1 => ?_, fun h1 => ?_⟩
  · have h1 : k < xs.length := by have := dt h1; simp at this; exact this
    have hx := List.getElem?_eq_getElem h1
    rw [drop_get h1] at hn
    refine WOp.mk _ _ (iad_list rfl rfl (Int.natCast_nonneg k) (row_get hx)) trivial ?_
    refine WCallV.mk hok _ _ (acall_pure (hf xs[k]) ⟨⟨trivial, trivial, trivial⟩, hcaps⟩ _) trivial ⟨fun h2 => ?_, fun h2 => ?_⟩
    · refine endP (.inr rfl) rfl (i_eq ?_) trivial
      rw [← hn]; simp only [Idx, h2, if_true]
    · refine ⟨k + 1, ⟨rfl, rfl, rfl, rfl, ?_, trivial⟩, rfl, ⟨h1, ?_⟩, ?_⟩
      · show some (i (IntKind.i64.wrap ((k : Int) + 1))) = _
        rw [wrap_id (by omega) (by omega)]
        rfl
      · rw [← hn]; simp only [Idx, h2, Bool.false_eq_true, if_false]
      · show xs.length - (k + 1) < xs.length - k
        omega
  · have h1 : k = xs.length := by have := df h1; simp at this; omega
    refine endP (.inr rfl) rfl (i_eq ?_) trivial
    rw [← hn, h1, List.drop_length]; rfl
theorem containsL_0 {g : FuncId} {caps : List AV} {pr : Leap → Bool} (hok : callOk Tryz.prog g = true) (hcaps : AV.unders 0 caps) (hf : ∀ l : Leap, ACall Tryz.prog g (.agg [i l.sec, i l.off] :: caps) [] (bools (pr l)) []) (t : Bool) (xs : List Leap) :
    ACall Tryz.prog 86 [.p (.list 2 t (xs.map rLeap)), .fn g caps] [] (bools (xs.any pr)) [] := by
  refine acall_run R_slices_ContainsFunc_api_Leap_api_Leap_ok ?_
  refine WCall.any _ (fun m => acall_pure (idxL_0 hok hcaps hf t xs) ⟨trivial, hcaps, trivial⟩ m) ⟨fun h => ?_, fun h => ?_⟩
  · exact endP (.inr rfl) rfl (b_eq (by rw [← Idx_any pr xs 0]; exact h.symm)) trivial
  · exact endP (.inr rfl) rfl (b_eq (by rw [← Idx_any pr xs 0]; exact h.symm)) trivial
theorem idxH_0 {g : FuncId} {caps : List AV} {pr : Heard → Bool} (hok : callOk Tryz.prog g = true) (hcaps : AV.unders 0 caps) (hf : ∀ l : Heard, ACall Tryz.prog g (.agg ((rHeard l).map .p) :: caps) [] (bools (pr l)) []) (t : Bool) (xs : List Heard) :
    ACall Tryz.prog 56 [.p (.list 15 t (xs.map rHeard)), .fn g caps] [] (i (Idx pr 0 xs)) [] := by
  refine acall_fact (F := xs.length ≤ 281474976710656) (fun S vs _ _ hv => by obtain ⟨z, zs, _, hv, _⟩ := hv; exact prow_len hv) fun hlen => ?_
  refine acall_run R_slices_IndexFunc_api_Heard_api_Heard_ok ?_
  refine wloop (σ := Nat) (fun k => [(0, .p (.list 15 t (xs.map rHeard))), (1, .fn g caps), (6, .p (.list 15 t (xs.map rHeard))), (7, i (xs.map rHeard).length), (8, i k)]) (fun _ => []) (fun k => k ≤ xs.length ∧ Idx pr k (xs.drop k) = Idx pr 0 xs)
    (fun k => xs.length - k) 0 ⟨rfl, rfl, rfl, rfl, rfl, trivial⟩ rfl ⟨Nat.zero_le _, rfl⟩ ?_
  rintro k ⟨hk, hn⟩
  refine ⟨fun h1 => ?_, fun h1 => ?_⟩
  · have h1 : k < xs.length := by have := dt h1; simp at this; exact this
    have hx := List.getElem?_eq_getElem h1
    rw [drop_get h1] at hn
    refine WOp.mk _ _ (iad_list rfl rfl (Int.natCast_nonneg k) (row_get hx)) trivial ?_
    refine WCallV.mk hok _ _ (acall_pure (hf xs[k]) ⟨⟨trivial, trivial, trivial, trivial, trivial, trivial, trivial, trivial, trivial, trivial, trivial, trivial, trivial, trivial, trivial, trivial⟩, hcaps⟩ _) trivial ⟨fun h2 => ?_, fun h2 => ?_⟩
    · refine endP (.inr rfl) rfl (i_eq ?_) trivial
      rw [← hn]; simp only [Idx, h2, if_true]
    · refine ⟨k + 1, ⟨rfl, rfl, rfl, rfl, ?_, trivial⟩, rfl, ⟨h1, ?_⟩, ?_⟩
      · show some (i (IntKind.i64.wrap ((k : Int) + 1))) = _
        rw [wrap_id (by omega) (by omega)]
        rfl
      · rw [← hn]; simp only [Idx, h2, Bool.false_eq_true, if_false]
      · show xs.length - (k + 1) < xs.length - k
        omega
  · have h1 : k = xs.length := by have := df h1; simp at this; omega
    refine endP (.inr rfl) rfl (i_eq ?_) trivial
    rw [← hn, h1, List.drop_length]; rfl
theorem containsH_0 {g : FuncId} {caps : List AV} {pr : Heard → Bool} (hok : callOk Tryz.prog g = true) (hcaps : AV.unders 0 caps) (hf : ∀ l : Heard, ACall Tryz.prog g (.agg ((rHeard l).map .p) :: caps) [] (bools (pr l)) []) (t : Bool) (xs : List Heard) :
    ACall Tryz.prog 26 [.p (.list 15 t (xs.map rHeard)), .fn g caps] [] (bools (xs.any pr)) [] := by
  refine acall_run R_slices_ContainsFunc_api_Heard_api_Heard_ok ?_
  refine WCall.any _ (fun m => acall_pure (idxH_0 hok hcaps hf t xs) ⟨trivial, hcaps, trivial⟩ m) ⟨fun h => ?_, fun h => ?_⟩
  · exact endP (.inr rfl) rfl (b_eq (by rw [← Idx_any pr xs 0]; exact h.symm)) trivial
  · exact endP (.inr rfl) rfl (b_eq (by rw [← Idx_any pr xs 0]; exact h.symm)) trivial
theorem lgood_0 (t : Bool) (xs : List Leap) : ACall Tryz.prog 53 [.p (.list 2 t (xs.map rLeap))] [] (bools (LeapGood xs)) [] := by
  refine acall_run R_leap_Good_ok ?_
  refine WCall.any _ (table_ok t xs) ⟨fun h => ?_, fun h => ?_⟩
  · refine WCall.any _ (fun m => acall_pure (containsL_0 (caps := []) (by kernel_rfl) trivial good1_0 t xs) ⟨trivial, trivial, trivial⟩ m) ⟨fun h' => ?_, fun h' => ?_⟩
    · exact endP (.inr rfl) rfl (b_eq (by rw [LeapGood, h, h']; rfl)) trivial
    · exact endP (.inr rfl) rfl (b_eq (by rw [LeapGood, h, h']; rfl)) trivial
  · exact endP (.inr rfl) rfl (b_eq (by rw [LeapGood, h]; rfl)) trivial
theorem lgood_ok (t : Bool) (xs : List Leap) (m : Mem) : ACall Tryz.prog 53 [.p (.list 2 t (xs.map rLeap))] m (bools (LeapGood xs)) m := acall_pure (lgood_0 t xs) ⟨trivial, trivial⟩ m

/-! copies -/
theorem app_new {L : Env} {m : Mem} {sz bytes s : Nat} {x y : Operand} {t : Bool} {ys : List (List PV)} (hx : opd L x = some (.p (.list s true []))) (hy : opd L y = some (.p (.list sz t ys))) (h0 : ys ≠ []) (hb : 0 < bytes) (hl : ys.length * bytes ≤ 140737488355328) :
    aop L m (.app sz bytes x y) = some (.sl m.length 0 0 ys.length sz, m ++ [.box ((ys.flatten).map .p)]) := by
  have : ys.length ≠ 0 := by simpa using h0
  simp [aop, hx, hy, appendAV, srcCells, h0, this, hb, hl]
theorem one_p {cs : List PV} : ∀ {c : AV}, c ∈ cs.map AV.p → (∀ q ∈ cs, (AV.p q).one = true) → c.one = true := by
  intro c hc h
  obtain ⟨q, hq, rfl⟩ := List.mem_map.1 hc
  exact h q hq
theorem one_leaps (xs : List Leap) : ∀ q ∈ ((xs.map rLeap).flatten), (AV.p q).one = true := by
  intro q hq
  obtain ⟨r, hr, hq⟩ := List.mem_flatten.1 hq
  obtain ⟨l, _, rfl⟩ := List.mem_map.1 hr
  simp only [rLeap, List.mem_cons, List.not_mem_nil, or_false] at hq
  rcases hq with rfl | rfl <;> rfl
theorem clone_0 (t : Bool) (xs : List Leap) (hlen : xs.length ≤ 1048576) : ACall Tryz.prog 45 [.p (.list 2 t (xs.map rLeap))] [] (.p (tb xs)) [] := by
  cases xs with
  | nil =>
    refine acall_nil fun a c => ?_
    cases a with
    | none =>
      refine acall_run R_slices_Clone_api_Leap_api_Leap_ok ?_
      refine WOp.mk _ _ rfl trivial ?_
      exact endW (.inr rfl) rfl rfl (le_nil _ _ _) trivial
    | some a =>
      refine acall_run R_slices_Clone_api_Leap_api_Leap_ok ?_
      refine WOp.mk _ _ rfl trivial ?_
      refine WOp.mk _ _ rfl trivial ?_
      exact endW (.inr rfl) rfl rfl (le_nil _ _ _) trivial
  | cons x xs =>
    refine acall_run R_slices_Clone_api_Leap_api_Leap_ok ?_
    refine WOp.mk _ _ rfl trivial ?_
    refine WOp.mk _ _ (app_new rfl rfl (by simp) (by decide) (by simp at hlen ⊢; omega)) trivial ?_
    exact endL (.inr rfl) rfl rfl rfl rfl rfl rfl rfl (by intro r hr; obtain ⟨l, _, rfl⟩ := List.mem_map.1 hr; rfl) (fun c hc => one_p hc (one_leaps (x :: xs)))
theorem clone_ok (t : Bool) (xs : List Leap) (hlen : xs.length ≤ 1048576) (m : Mem) : ACall Tryz.prog 45 [.p (.list 2 t (xs.map rLeap))] m (.p (tb xs)) m := acall_pure (clone_0 t xs hlen) ⟨trivial, trivial⟩ m

/-! states -/
theorem flatState (s : State) : (AV.agg (eState s)).under 0 := ⟨trivial, trivial, trivial, trivial, trivial, trivial, trivial, trivial, trivial, trivial, trivial, trivial⟩
theorem sane_0 (p : Params) (s : State) (hlen : s.table.length ≤ 1048576) : ACall Tryz.prog 19 [.agg (eP p), .agg (eState s)] [] (.agg (eState (Sane p s))) [] := by
  have fin : ∀ {s' : State} {x : PV}, (AV.p x).le (.p (tb (Sane p s).table)) → s'.span = (Sane p s).span → s'.time = (Sane p s).time → s'.set = (Sane p s).set → s'.held = (Sane p s).held → s'.hops = (Sane p s).hops → s'.good = (Sane p s).good → s'.stamp = (Sane p s).stamp → s'.life = (Sane p s).life →
      (AV.agg [i s'.span.lo, i s'.span.hi, i s'.time, bools s'.set, i s'.held, i s'.hops, bools s'.good, .p x, i s'.stamp.time, i s'.stamp.num, i s'.life]).le (.agg (eState (Sane p s))) := by
    intro s' x hx h1 h2 h3 h4 h5 h6 h7 h8
    rw [h1, h2, h3, h4, h5, h6, h7, h8]
    exact AV.le.agg (.cons (.refl _) (.cons (.refl _) (.cons (.refl _) (.cons (.refl _) (.cons (.refl _) (.cons (.refl _) (.cons (.refl _) (.cons hx (.cons (.refl _) (.cons (.refl _) (.cons (.refl _) .nil)))))))))))
  have bad : LeapGood s.table = false → (AV.p (.list 0 true [])).le (.p (tb (Sane p s).table)) := by
    intro h
    have : (Sane p s).table = [] := by simp only [Sane, h, Bool.false_eq_true, if_false]
    rw [this]; exact le_nil _ _ _
  have good : LeapGood s.table = true → (AV.p (tb s.table)).le (.p (tb (Sane p s).table)) := by
    intro h
    have : (Sane p s).table = s.table := by simp only [Sane, h, if_true]
    rw [this]; exact .refl _
  refine acall_run R_health_Sane_ok ?_
  refine WCall.any _ (of_ok _ _) (WCall.any _ (empty_ok (SpanOf s.span.lo s.span.hi)) ⟨fun h1 => WCall.any _ all_ok ?_, fun h1 => ?_⟩)
  all_goals refine WCall.any _ (clip_ok _) (WCall.any _ (bound_ok _ _ _) (WCall.any _ (add_ok true [p.d, 1]) (WCall.any _ (bound_ok _ _ _) (WCall.any _ (bound_ok _ _ _) (WCall.any _ (clone_ok false s.table hlen) (WCall.any _ (lgood_ok false s.table) ⟨fun h2 => WCall.any _ (right_ok s.stamp) ⟨fun h3 => ?_, fun h3 => ?_⟩, fun h2 => WCall.any _ (right_ok s.stamp) ⟨fun h3 => ?_, fun h3 => ?_⟩⟩))))))
  · exact endW (.inr rfl) rfl rfl (fin (s' := ⟨SpanAll, Clip s.time, s.set, Bound s.held 0 1073741824, Bound s.hops 0 (Add [p.d, 1]), false, [], s.stamp, Bound s.life 0 Most⟩) (good h2) (by simp [Sane, h1]) rfl rfl rfl rfl (by simp [Sane, h1]) (by simp [Sane, h3]) rfl) (flatState _)
  · exact endW (.inr rfl) rfl rfl (fin (s' := ⟨SpanAll, Clip s.time, s.set, Bound s.held 0 1073741824, Bound s.hops 0 (Add [p.d, 1]), false, [], ⟨Clip s.time, 0⟩, Bound s.life 0 Most⟩) (good h2) (by simp [Sane, h1]) rfl rfl rfl rfl (by simp [Sane, h1]) (by simp [Sane, h3]) rfl) (flatState _)
  · exact endW (.inr rfl) rfl rfl (fin (s' := ⟨SpanAll, Clip s.time, s.set, Bound s.held 0 1073741824, Bound s.hops 0 (Add [p.d, 1]), false, [], s.stamp, Bound s.life 0 Most⟩) (bad h2) (by simp [Sane, h1]) rfl rfl rfl rfl (by simp [Sane, h1]) (by simp [Sane, h3]) rfl) (flatState _)
  · exact endW (.inr rfl) rfl rfl (fin (s' := ⟨SpanAll, Clip s.time, s.set, Bound s.held 0 1073741824, Bound s.hops 0 (Add [p.d, 1]), false, [], ⟨Clip s.time, 0⟩, Bound s.life 0 Most⟩) (bad h2) (by simp [Sane, h1]) rfl rfl rfl rfl (by simp [Sane, h1]) (by simp [Sane, h3]) rfl) (flatState _)
  · exact endW (.inr rfl) rfl rfl (fin (s' := ⟨SpanOf s.span.lo s.span.hi, Clip s.time, s.set, Bound s.held 0 1073741824, Bound s.hops 0 (Add [p.d, 1]), s.good, [], s.stamp, Bound s.life 0 Most⟩) (good h2) (by simp [Sane, h1]) rfl rfl rfl rfl (by simp [Sane, h1]) (by simp [Sane, h3]) rfl) (flatState _)
  · exact endW (.inr rfl) rfl rfl (fin (s' := ⟨SpanOf s.span.lo s.span.hi, Clip s.time, s.set, Bound s.held 0 1073741824, Bound s.hops 0 (Add [p.d, 1]), s.good, [], ⟨Clip s.time, 0⟩, Bound s.life 0 Most⟩) (good h2) (by simp [Sane, h1]) rfl rfl rfl rfl (by simp [Sane, h1]) (by simp [Sane, h3]) rfl) (flatState _)
  · exact endW (.inr rfl) rfl rfl (fin (s' := ⟨SpanOf s.span.lo s.span.hi, Clip s.time, s.set, Bound s.held 0 1073741824, Bound s.hops 0 (Add [p.d, 1]), s.good, [], s.stamp, Bound s.life 0 Most⟩) (bad h2) (by simp [Sane, h1]) rfl rfl rfl rfl (by simp [Sane, h1]) (by simp [Sane, h3]) rfl) (flatState _)
  · exact endW (.inr rfl) rfl rfl (fin (s' := ⟨SpanOf s.span.lo s.span.hi, Clip s.time, s.set, Bound s.held 0 1073741824, Bound s.hops 0 (Add [p.d, 1]), s.good, [], ⟨Clip s.time, 0⟩, Bound s.life 0 Most⟩) (bad h2) (by simp [Sane, h1]) rfl rfl rfl rfl (by simp [Sane, h1]) (by simp [Sane, h3]) rfl) (flatState _)
theorem sane_ok (p : Params) (s : State) (hlen : s.table.length ≤ 1048576) (m : Mem) : ACall Tryz.prog 19 [.agg (eP p), .agg (eState s)] m (.agg (eState (Sane p s))) m := acall_pure (sane_0 p s hlen) ⟨flatP p, flatState s, trivial⟩ m
theorem hof_0 (p : Params) (s : State) : ACall Tryz.prog 64 [.agg (eP p), .agg (eState s)] [] (i (Of p s)) [] := by
  refine acall_run R_health_Of_ok ⟨fun h1 => ⟨fun h2 => ⟨fun h3 => ?_, fun h3 => ⟨fun h4 => ?_, fun h4 => ?_⟩⟩, fun h2 => ?_⟩, fun h1 => ?_⟩
  · exact endP (.inr rfl) rfl (i_eq (by simp only [Of, h1, h2, h3, Bool.not_true, Bool.false_or, if_true])) trivial
  · exact endP (.inr rfl) rfl (i_eq (by simp only [Of, h1, h2, h3, Bool.not_true, Bool.false_or, Bool.false_eq_true, if_false, dt h4, if_true])) trivial
  · exact endP (.inr rfl) rfl (i_eq (by simp only [Of, h1, h2, h3, Bool.not_true, Bool.false_or, Bool.false_eq_true, if_false, if_neg (df h4)])) trivial
  · exact endP (.inr rfl) rfl (i_eq (by simp only [Of, h1, h2, Bool.not_true, Bool.not_false, Bool.false_or, Bool.true_or, if_true])) trivial
  · exact endP (.inr rfl) rfl (i_eq (by simp only [Of, h1, Bool.not_false, Bool.true_or, if_true])) trivial
theorem hof_ok (p : Params) (s : State) (m : Mem) : ACall Tryz.prog 64 [.agg (eP p), .agg (eState s)] m (i (Of p s)) m := acall_pure (hof_0 p s) ⟨flatP p, flatState s, trivial⟩ m
end Go.Proofs.YtlkphnhlibpngaaGreat.Abs
