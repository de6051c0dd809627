/- The document's functions, part 3: spans, limits, stamps, ways. -/
import Derived.Test.YtlkphnhlibpngaaGreatD2
set_option linter.unusedVariables false
set_option linter.unusedSimpArgs false
set_option maxRecDepth 100000
namespace Go.Proofs.YtlkphnhlibpngaaGreat.Abs
open Go

theorem ofR_0 (a b : Int) : ACall Tryz.prog 20 [i a, i b] [] (.agg (eSpan (SpanOf a b))) [] := by
  refine acall_run R_ref03_Of_ok ?_
  refine WCall.any _ (clipR _) (WCall.any _ (clipR _) ?_)
  exact endP (.inr rfl) rfl (span_eq rfl rfl) ⟨trivial, trivial, trivial⟩
theorem ofR (a b : Int) (m : Mem) : ACall Tryz.prog 20 [i a, i b] m (.agg (eSpan (SpanOf a b))) m := acall_pure (ofR_0 a b) ⟨trivial, trivial, trivial⟩ m
theorem shiftR_0 (s : Span) (a b : Int) : ACall Tryz.prog 71 [.agg (eSpan s), i a, i b] [] (.agg (eSpan (Shift s a b))) [] := by
  refine acall_run R_ref03_Shift_ok ?_
  refine WCall.any _ (addR true [s.lo, a]) (WCall.any _ (addR true [s.hi, b]) ?_)
  exact endP (.inr rfl) rfl (span_eq rfl rfl) ⟨trivial, trivial, trivial⟩
theorem shiftR (s : Span) (a b : Int) (m : Mem) : ACall Tryz.prog 71 [.agg (eSpan s), i a, i b] m (.agg (eSpan (Shift s a b))) m := acall_pure (shiftR_0 s a b) ⟨⟨trivial, trivial, trivial⟩, trivial, trivial, trivial⟩ m
theorem midR_0 (s : Span) : ACall Tryz.prog 78 [.agg (eSpan s)] [] (i (Mid s)) [] := by
  have h1 := clip_range s.lo
  have h2 := clip_range s.hi
  unfold Most at h1 h2
  have w1 : IntKind.i64.wrap (Clip s.lo + Clip s.hi) = Clip s.lo + Clip s.hi := wrap_id (by omega) (by omega)
  have w2 : IntKind.i64.wrap (Clip s.lo + Clip s.hi - 1) = Clip s.lo + Clip s.hi - 1 := wrap_id (by omega) (by omega)
  have hm := mid_eq (Clip s.lo + Clip s.hi)
  have hr : -4611686018427387905 ≤ (Clip s.lo + Clip s.hi).fdiv 2 ∧ (Clip s.lo + Clip s.hi).fdiv 2 ≤ 4611686018427387905 := by
    rw [Int.fdiv_eq_ediv_of_nonneg _ (by decide)]
    omega
  refine acall_run R_ref03_Mid_ok ?_
  refine WCall.any _ (clipR _) (WCall.any _ (clipR _) (WOp.mk _ _ (rem_op rfl rfl (by decide)) trivial ⟨fun h => ?_, fun h => ?_⟩))
  · have h := ndt h
    rw [w1] at h
    rw [if_pos h] at hm
    refine WOp.mk _ _ (quo_op rfl rfl (by decide)) trivial ?_
    refine endP (.inr rfl) rfl (i_eq ?_) trivial
    rw [w1, w2, hm, wrap_id (by omega) (by omega)]; rfl
  · have h := ndf h
    rw [w1] at h
    rw [if_neg (fun hh => hh h)] at hm
    refine WOp.mk _ _ (quo_op rfl rfl (by decide)) trivial ?_
    refine endP (.inr rfl) rfl (i_eq ?_) trivial
    rw [w1, hm, wrap_id (by omega) (by omega)]; rfl
theorem midR (s : Span) (m : Mem) : ACall Tryz.prog 78 [.agg (eSpan s)] m (i (Mid s)) m := acall_pure (midR_0 s) ⟨⟨trivial, trivial, trivial⟩, trivial⟩ m
theorem add4_0 (a b : Int) : ACall Tryz.prog 115 [i a, i b] [] (i (Add [a, b])) [] := by
  refine acall_run R_ref04_add_ok ?_
  refine WCall.any _ (addR true [a, b]) ?_
  exact endP (.inr rfl) rfl (i_eq rfl) trivial
theorem add4 (a b : Int) (m : Mem) : ACall Tryz.prog 115 [i a, i b] m (i (Add [a, b])) m := acall_pure (add4_0 a b) ⟨trivial, trivial, trivial⟩ m
theorem hopR_0 (p : Params) : ACall Tryz.prog 117 [.agg (eP p)] [] (i (Hop p)) [] := by
  refine acall_run R_ref04_Hop_ok ?_
  refine WCall.any _ (mulR _ _) (WCall.any _ (add4 _ _) ?_)
  exact endP (.inr rfl) rfl (i_eq rfl) trivial
theorem hopR (p : Params) (m : Mem) : ACall Tryz.prog 117 [.agg (eP p)] m (i (Hop p)) m := acall_pure (hopR_0 p) ⟨flatP p, trivial⟩ m
theorem gateR_0 (p : Params) : ACall Tryz.prog 116 [.agg (eP p)] [] (i (LGate p)) [] := by
  refine acall_run R_ref04_Gate_ok ?_
  refine WCall.any _ (mulR _ _) (WCall.any _ (hopR _) (WCall.any _ (add4 _ _) (WCall.any _ (mulR _ _) ?_)))
  exact endP (.inr rfl) rfl (i_eq rfl) trivial
theorem gateR (p : Params) (m : Mem) : ACall Tryz.prog 116 [.agg (eP p)] m (i (LGate p)) m := acall_pure (gateR_0 p) ⟨flatP p, trivial⟩ m
theorem addR_addR (a b c : Int) : Add [Add [a, b], c] = Add [a, b, c] := by
  simp only [Add, List.foldl_cons, List.foldl_nil, Int.zero_add]
  have h := clip_range (Clip (Clip a) + Clip b)
  rw [clip_id h.1 h.2, clip_id h.1 h.2]
theorem widthR_0 (p : Params) (held hops : Int) : ACall Tryz.prog 109 [.agg (eP p), i held, i hops] [] (i (Width p held hops)) [] := by
  refine acall_run R_ref04_Width_ok ?_
  refine WCall.any _ (mulR _ _) (WCall.any _ (mulR _ _) (WCall.any _ (gateR _) (WCall.any _ (add4 _ _) (WCall.any _ (add4 _ _) (WCall.any _ (hopR _) (WCall.any _ (mulR _ _) (WCall.any _ (add4 _ _) ?_)))))))
  exact endP (.inr rfl) rfl (i_eq (by rw [addR_addR]; rfl)) trivial
theorem widthR (p : Params) (held hops : Int) (m : Mem) : ACall Tryz.prog 109 [.agg (eP p), i held, i hops] m (i (Width p held hops)) m := acall_pure (widthR_0 p held hops) ⟨flatP p, trivial, trivial, trivial⟩ m
theorem wayR_0 (p : Params) (s : Span) (a : Int) : ACall Tryz.prog 37 [.agg (eP p), .agg (eSpan s), i a] [] (.agg (eSpan (Way p s a))) [] := by
  have hr := clip_range p.rho
  unfold Most at hr
  have w : IntKind.i64.wrap (0 - Clip p.rho) = Neg p.rho := by rw [wrap_id (by omega) (by omega), Neg]; omega
  refine acall_run R_ref11_Way_ok ?_
  refine WCall.any _ (subR _ _) (WCall.any _ (clipR _) (WCall.any _ (addR true [Sub p.delay p.jitter, a, IntKind.i64.wrap (0 - Clip p.rho)]) (WCall.any _ (addR true [p.delay, a, p.rho]) (WCall.any _ (shiftR s _ _) ?_))))
  exact endP (.inr rfl) rfl (by rw [w]; exact span_eq (s := Way p s a) rfl rfl) (flatS _)
theorem wayR (p : Params) (s : Span) (a : Int) (m : Mem) : ACall Tryz.prog 37 [.agg (eP p), .agg (eSpan s), i a] m (.agg (eSpan (Way p s a))) m := acall_pure (wayR_0 p s a) ⟨flatP p, flatS s, trivial, trivial⟩ m
theorem holdR_0 (p : Params) (s : Span) (a : Int) : ACall Tryz.prog 39 [.agg (eP p), .agg (eSpan s), i a] [] (.agg (eSpan (Hold p s a))) [] := by
  refine acall_run R_ref11_Hold_ok ?_
  refine WCall.any _ (subR _ _) (WCall.any _ (addR true [a, p.rho]) (WCall.any _ (shiftR s _ _) ?_))
  exact endP (.inr rfl) rfl (span_eq (s := Hold p s a) rfl rfl) (flatS _)
theorem holdR (p : Params) (s : Span) (a : Int) (m : Mem) : ACall Tryz.prog 39 [.agg (eP p), .agg (eSpan s), i a] m (.agg (eSpan (Hold p s a))) m := acall_pure (holdR_0 p s a) ⟨flatP p, flatS s, trivial, trivial⟩ m
def SlewR (p : Params) (time ticks to : Int) : Int := Add [Add [time, ticks], Bound (Sub to (Add [time, ticks])) (Neg p.mu) p.mu]
theorem slewR_0 (p : Params) (time ticks to : Int) : ACall Tryz.prog 79 [.agg (eP p), i time, i ticks, i to] [] (i (SlewR p time ticks to)) [] := by
  have hr := clip_range p.mu
  unfold Most at hr
  have w : IntKind.i64.wrap (0 - Clip p.mu) = Neg p.mu := by rw [wrap_id (by omega) (by omega), Neg]; omega
  refine acall_run R_ref12_Step_ok ?_
  refine WCall.any _ (addR true [time, ticks]) (WCall.any _ (subR _ _) (WCall.any _ (clipR _) (WCall.any _ (boundR _ _ _) ?_)))
  refine WCall.any _ (addR true [Add [time, ticks], Bound (Sub to (Add [time, ticks])) (IntKind.i64.wrap (0 - Clip p.mu)) p.mu]) ?_
  exact endP (.inr rfl) rfl (i_eq (by rw [w]; rfl)) trivial
theorem slewR (p : Params) (time ticks to : Int) (m : Mem) : ACall Tryz.prog 79 [.agg (eP p), i time, i ticks, i to] m (i (SlewR p time ticks to)) m := acall_pure (slewR_0 p time ticks to) ⟨flatP p, trivial, trivial, trivial, trivial⟩ m
theorem numberR_0 (p : Params) (t : Int) : ACall Tryz.prog 76 [.agg (eP p), i t] [] (i (Number p t)) [] := by
  refine acall_run R_ref13_Number_ok ?_
  refine WCall.any _ (divR _ _) ?_
  exact endP (.inr rfl) rfl (i_eq rfl) trivial
theorem numberR (p : Params) (t : Int) (m : Mem) : ACall Tryz.prog 76 [.agg (eP p), i t] m (i (Number p t)) m := acall_pure (numberR_0 p t) ⟨flatP p, trivial, trivial⟩ m
theorem seenR_0 (p : Params) (r : Int) : ACall Tryz.prog 36 [.agg (eP p), i r] [] (.tup [.agg (eSpan (Seen p r).1), bools (Seen p r).2]) [] := by
  refine acall_run R_ref16_Seen_ok ⟨fun h1 => ?_, fun h1 => ⟨fun h2 => ?_, fun h2 => ⟨fun h3 => ?_, fun h3 => ?_⟩⟩⟩
  · have e : Seen p r = (⟨0, 0⟩, false) := by simp only [Seen, h1, Bool.or_true, if_true]
    exact endP (.inr rfl) rfl (by rw [e]; rfl) ⟨⟨trivial, trivial, trivial⟩, trivial, trivial⟩
  · have e : Seen p r = (⟨0, 0⟩, false) := by simp only [Seen, h2, Bool.true_or, if_true]
    exact endP (.inr rfl) rfl (by rw [e]; rfl) ⟨⟨trivial, trivial, trivial⟩, trivial, trivial⟩
  · have e : Seen p r = (⟨0, 0⟩, false) := by simp only [Seen, h3, Bool.true_or, Bool.or_true, if_true]
    exact endP (.inr rfl) rfl (by rw [e]; rfl) ⟨⟨trivial, trivial, trivial⟩, trivial, trivial⟩
  · have e : Seen p r = (⟨Sub r p.eps, Add [r, p.eps]⟩, true) := by simp only [Seen, h1, h2, h3, Bool.or_false, Bool.false_eq_true, if_false]
    refine WCall.any _ (subR _ _) (WCall.any _ (addR true [r, p.eps]) ?_)
    exact endP (.inr rfl) rfl (by rw [e]; rfl) ⟨⟨trivial, trivial, trivial⟩, trivial, trivial⟩
theorem seenR (p : Params) (r : Int) (m : Mem) : ACall Tryz.prog 36 [.agg (eP p), i r] m (.tup [.agg (eSpan (Seen p r).1), bools (Seen p r).2]) m := acall_pure (seenR_0 p r) ⟨flatP p, trivial, trivial⟩ m
theorem moreR_0 (h : Int) : ACall Tryz.prog 40 [i h] [] (i (More h)) [] := by
  refine acall_run R_ref16_More_ok ?_
  refine WCall.any _ (addR true [h, 1]) (WCall.any _ (boundR _ _ _) ?_)
  exact endP (.inr rfl) rfl (i_eq rfl) trivial
theorem moreR (h : Int) (m : Mem) : ACall Tryz.prog 40 [i h] m (i (More h)) m := acall_pure (moreR_0 h) ⟨trivial, trivial⟩ m
theorem right_alt (s : Stamp) : Right s = (decide (Clip s.time = s.time) && (decide (0 ≤ s.num) && decide (s.num ≤ 1073741824))) := by
  have e : Clip s.time = s.time ↔ (-Most ≤ s.time ∧ s.time ≤ Most) := by
    constructor
    · intro h; rw [← h]; exact clip_range _
    · rintro ⟨h1, h2⟩; exact clip_id h1 h2
  unfold Right
  rw [Bool.eq_iff_iff]
  simp only [Bool.and_eq_true, decide_eq_true_eq, e]
  constructor <;> (intro h; simp only [h, and_self])
theorem rightR_0 (s : Stamp) : ACall Tryz.prog 25 [.agg (eStamp s)] [] (bools (Right s)) [] := by
  rw [right_alt]
  refine acall_run R_ref20_Right_ok ?_
  refine WCall.any _ (clipR _) ⟨fun h1 => ⟨fun h2 => ⟨fun h3 => ?_, fun h3 => ?_⟩, fun h2 => ?_⟩, fun h1 => ?_⟩
  · exact endP (.inr rfl) rfl (b_eq (by rw [h1, h2, h3]; rfl)) trivial
  · exact endP (.inr rfl) rfl (b_eq (by rw [h1, h2, h3]; rfl)) trivial
  · exact endP (.inr rfl) rfl (b_eq (by rw [h1, h2]; rfl)) trivial
  · exact endP (.inr rfl) rfl (b_eq (by rw [h1]; rfl)) trivial
theorem rightR (s : Stamp) (m : Mem) : ACall Tryz.prog 25 [.agg (eStamp s)] m (bools (Right s)) m := acall_pure (rightR_0 s) ⟨flatSt s, trivial⟩ m
theorem nextR_0 (s : Stamp) : ACall Tryz.prog 98 [.agg (eStamp s)] [] (.agg (eStamp (Next s))) [] := by
  refine acall_run R_ref20_Next_ok ⟨fun h1 => ?_, fun h1 => ⟨fun h2 => ?_, fun h2 => ?_⟩⟩
  · refine WCall.any _ (addR true [s.time, 1]) ?_
    have e : Next s = ⟨Add [s.time, 1], 0⟩ := by rw [Next, if_pos (dt h1)]
    exact endP (.inr rfl) rfl (by rw [e]; rfl) (flatSt _)
  · have h1 := df h1
    have h2 := dt h2
    have e : Next s = ⟨Clip s.time, s.num + 1⟩ := by rw [Next, if_neg h1, show mx s.num 0 = s.num by unfold mx; split <;> omega]
    refine WCall.any _ (clipR _) ?_
    refine endP (.inr rfl) rfl (stamp_eq ?_ ?_) (flatSt _)
    · rw [e]
    · rw [e]
      show IntKind.i64.wrap (s.num + 1) = s.num + 1
      exact wrap_id (by omega) (by omega)
  · have h1 := df h1
    have h2 := df h2
    have e : Next s = ⟨Clip s.time, 1⟩ := by rw [Next, if_neg h1, show mx s.num 0 = 0 by unfold mx; split <;> omega]; rfl
    refine WCall.any _ (clipR _) ?_
    exact endP (.inr rfl) rfl (stamp_eq (by rw [e]) (by rw [e])) (flatSt _)
theorem nextR (s : Stamp) (m : Mem) : ACall Tryz.prog 98 [.agg (eStamp s)] m (.agg (eStamp (Next s))) m := acall_pure (nextR_0 s) ⟨flatSt s, trivial⟩ m
theorem tickR_0 (c : Stamp) (now : Int) : ACall Tryz.prog 82 [.agg (eStamp c), i now] [] (.agg (eStamp (Tick c now))) [] := by
  refine acall_run R_ref20_Tick_ok ?_
  refine WCall.any _ (clipR _) ⟨fun h1 => ?_, fun h1 => ?_⟩
  · refine WCall.any _ (clipR _) ?_
    have e : Tick c now = ⟨Clip now, 0⟩ := by rw [Tick, if_pos (dt h1)]
    exact endP (.inr rfl) rfl (by rw [e]; rfl) (flatSt _)
  · refine WCall.any _ (nextR c) ?_
    have e : Tick c now = Next c := by rw [Tick, if_neg (df h1)]
    exact endP (.inr rfl) rfl (by rw [e]; rfl) (flatSt _)
theorem tickR (c : Stamp) (now : Int) (m : Mem) : ACall Tryz.prog 82 [.agg (eStamp c), i now] m (.agg (eStamp (Tick c now))) m := acall_pure (tickR_0 c now) ⟨flatSt c, trivial, trivial⟩ m
end Go.Proofs.YtlkphnhlibpngaaGreat.Abs
