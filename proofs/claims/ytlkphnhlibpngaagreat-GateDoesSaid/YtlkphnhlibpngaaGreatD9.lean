/- The document's functions, part 9: a beat's end; what is said. -/
import Derived.Test.YtlkphnhlibpngaaGreatD8
set_option linter.unusedVariables false
set_option linter.unusedSimpArgs false
set_option maxRecDepth 100000
namespace Go.Proofs.YtlkphnhlibpngaaGreat.Abs
open Go

def Keep (p : Params) (s : State) (v : Int) (next : State) : Bool := Right s.stamp && decide (s.stamp.time ≤ MostT p (StepA p s v next))
def StepX (p : Params) (next : State) (v : Int) (st : Stamp) (li : Int) : State := { Sane p next with time := v, set := true, stamp := st, life := li }
theorem stepF_new {p : Params} {s next : State} {ticks v : Int} (hct : Ct p s ticks next = v) (ha : Keep p s v next = false) : StepF p s ticks next = StepX p next v (Tick ⟨Clip v, 0⟩ v) (Bound (Add [Bound s.life 0 Most, 1]) 0 Most) := by
  have hm : Mend s.stamp v (MostT p (StepA p s v next)) = (⟨Clip v, 0⟩, true) := by
    unfold Keep at ha
    simp only [Mend, ha, Bool.false_eq_true, if_false]
  unfold StepF StepC StepB
  rw [hct, hm]
  rfl
theorem stepF_old {p : Params} {s next : State} {ticks v : Int} (hct : Ct p s ticks next = v) (ha : Keep p s v next = true) : StepF p s ticks next = StepX p next v (Tick s.stamp v) (if v < s.time then Bound (Add [Bound s.life 0 Most, 1]) 0 Most else Bound s.life 0 Most) := by
  have hm : Mend s.stamp v (MostT p (StepA p s v next)) = (s.stamp, false) := by
    unfold Keep at ha
    simp only [Mend, ha, if_true]
  unfold StepF StepC StepB
  rw [hct, hm]
  by_cases hb : v < s.time
  · rw [if_pos (by simp [hb]), if_pos hb]; rfl
  · rw [if_neg (by simp [hb]), if_neg hb]; rfl
theorem stepR_0 (p : Params) (s : State) (ticks : Int) (next : State) (hlen : next.table.length ≤ 1048576) : ACall Tryz.prog 42 [.agg (eP p), .agg (eState s), i ticks, .agg (eState next)] [] (.agg (eState (StepF p s ticks next))) [] := by
  refine acall_run R_ref21_Step_ok ?_
  refine WCall.any _ (midR next.span) (WCall.any _ (slewR p s.time ticks (Mid next.span)) (WCall.any _ (jumpsR p s ticks next) ⟨fun hj => WCall.any _ (clipR _) ?_, fun hj => ⟨fun hs => ?_, fun hs => WCall.any _ (clipR _) ?_⟩⟩))
  · have hct : Ct p s ticks next = Clip (Mid next.span) := by simp [Ct, Slew, hj]
    refine WCall.any _ (saneR p next hlen) (WCall.any _ (boundR _ _ _) (WCall.any _ (rightR s.stamp) ⟨fun hr => ?_, fun hr => ?_⟩))
    · have hM : MostT p (StepX p next (Clip (Mid next.span)) (Sane p next).stamp (Bound s.life 0 Most)) = MostT p (StepA p s (Clip (Mid next.span)) next) := rfl
      refine WCall.any _ (mostR p (StepX p next (Clip (Mid next.span)) (Sane p next).stamp (Bound s.life 0 Most))) ⟨fun hm => ?_, fun hm => ?_⟩
      · have ha : Keep p s (Clip (Mid next.span)) next = false := by
          have := dt hm
          rw [hM] at this
          simp only [Keep, hr, Bool.true_and]
          exact decide_eq_false (by omega)
        refine WCall.any _ (clipR _) (WCall.any _ (tickR ⟨Clip (Clip (Mid next.span)), 0⟩ (Clip (Mid next.span))) (WCall.any _ (addR true [Bound s.life 0 Most, 1]) (WCall.any _ (boundR _ _ _) ?_)))
        exact endP (.inr rfl) rfl (by rw [stepF_new hct ha]; rfl) (flatState _)
      · have ha : Keep p s (Clip (Mid next.span)) next = true := by
          have := df hm
          rw [hM] at this
          simp only [Keep, hr, Bool.true_and]
          exact decide_eq_true (by omega)
        refine WCall.any _ (tickR s.stamp (Clip (Mid next.span))) ⟨fun hb => ?_, fun hb => ?_⟩
        · refine WCall.any _ (addR true [Bound s.life 0 Most, 1]) (WCall.any _ (boundR _ _ _) ?_)
          exact endP (.inr rfl) rfl (by rw [stepF_old hct ha, if_pos (dt hb)]; rfl) (flatState _)
        · exact endP (.inr rfl) rfl (by rw [stepF_old hct ha, if_neg (df hb)]; rfl) (flatState _)
    · have ha : Keep p s (Clip (Mid next.span)) next = false := by simp only [Keep, hr, Bool.false_and]
      refine WCall.any _ (clipR _) (WCall.any _ (tickR ⟨Clip (Clip (Mid next.span)), 0⟩ (Clip (Mid next.span))) (WCall.any _ (addR true [Bound s.life 0 Most, 1]) (WCall.any _ (boundR _ _ _) ?_)))
      exact endP (.inr rfl) rfl (by rw [stepF_new hct ha]; rfl) (flatState _)
  · have hct : Ct p s ticks next = SlewR p s.time ticks (Mid next.span) := by simp [Ct, Slew, hj, hs, SlewR]
    refine WCall.any _ (saneR p next hlen) (WCall.any _ (boundR _ _ _) (WCall.any _ (rightR s.stamp) ⟨fun hr => ?_, fun hr => ?_⟩))
    · have hM : MostT p (StepX p next (SlewR p s.time ticks (Mid next.span)) (Sane p next).stamp (Bound s.life 0 Most)) = MostT p (StepA p s (SlewR p s.time ticks (Mid next.span)) next) := rfl
      refine WCall.any _ (mostR p (StepX p next (SlewR p s.time ticks (Mid next.span)) (Sane p next).stamp (Bound s.life 0 Most))) ⟨fun hm => ?_, fun hm => ?_⟩
      · have ha : Keep p s (SlewR p s.time ticks (Mid next.span)) next = false := by
          have := dt hm
          rw [hM] at this
          simp only [Keep, hr, Bool.true_and]
          exact decide_eq_false (by omega)
        refine WCall.any _ (clipR _) (WCall.any _ (tickR ⟨Clip (SlewR p s.time ticks (Mid next.span)), 0⟩ (SlewR p s.time ticks (Mid next.span))) (WCall.any _ (addR true [Bound s.life 0 Most, 1]) (WCall.any _ (boundR _ _ _) ?_)))
        exact endP (.inr rfl) rfl (by rw [stepF_new hct ha]; rfl) (flatState _)
      · have ha : Keep p s (SlewR p s.time ticks (Mid next.span)) next = true := by
          have := df hm
          rw [hM] at this
          simp only [Keep, hr, Bool.true_and]
          exact decide_eq_true (by omega)
        refine WCall.any _ (tickR s.stamp (SlewR p s.time ticks (Mid next.span))) ⟨fun hb => ?_, fun hb => ?_⟩
        · refine WCall.any _ (addR true [Bound s.life 0 Most, 1]) (WCall.any _ (boundR _ _ _) ?_)
          exact endP (.inr rfl) rfl (by rw [stepF_old hct ha, if_pos (dt hb)]; rfl) (flatState _)
        · exact endP (.inr rfl) rfl (by rw [stepF_old hct ha, if_neg (df hb)]; rfl) (flatState _)
    · have ha : Keep p s (SlewR p s.time ticks (Mid next.span)) next = false := by simp only [Keep, hr, Bool.false_and]
      refine WCall.any _ (clipR _) (WCall.any _ (tickR ⟨Clip (SlewR p s.time ticks (Mid next.span)), 0⟩ (SlewR p s.time ticks (Mid next.span))) (WCall.any _ (addR true [Bound s.life 0 Most, 1]) (WCall.any _ (boundR _ _ _) ?_)))
      exact endP (.inr rfl) rfl (by rw [stepF_new hct ha]; rfl) (flatState _)
  · have hct : Ct p s ticks next = Clip (Mid next.span) := by simp [Ct, Slew, hs]
    refine WCall.any _ (saneR p next hlen) (WCall.any _ (boundR _ _ _) (WCall.any _ (rightR s.stamp) ⟨fun hr => ?_, fun hr => ?_⟩))
    · have hM : MostT p (StepX p next (Clip (Mid next.span)) (Sane p next).stamp (Bound s.life 0 Most)) = MostT p (StepA p s (Clip (Mid next.span)) next) := rfl
      refine WCall.any _ (mostR p (StepX p next (Clip (Mid next.span)) (Sane p next).stamp (Bound s.life 0 Most))) ⟨fun hm => ?_, fun hm => ?_⟩
      · have ha : Keep p s (Clip (Mid next.span)) next = false := by
          have := dt hm
          rw [hM] at this
          simp only [Keep, hr, Bool.true_and]
          exact decide_eq_false (by omega)
        refine WCall.any _ (clipR _) (WCall.any _ (tickR ⟨Clip (Clip (Mid next.span)), 0⟩ (Clip (Mid next.span))) (WCall.any _ (addR true [Bound s.life 0 Most, 1]) (WCall.any _ (boundR _ _ _) ?_)))
        exact endP (.inr rfl) rfl (by rw [stepF_new hct ha]; rfl) (flatState _)
      · have ha : Keep p s (Clip (Mid next.span)) next = true := by
          have := df hm
          rw [hM] at this
          simp only [Keep, hr, Bool.true_and]
          exact decide_eq_true (by omega)
        refine WCall.any _ (tickR s.stamp (Clip (Mid next.span))) ⟨fun hb => ?_, fun hb => ?_⟩
        · refine WCall.any _ (addR true [Bound s.life 0 Most, 1]) (WCall.any _ (boundR _ _ _) ?_)
          exact endP (.inr rfl) rfl (by rw [stepF_old hct ha, if_pos (dt hb)]; rfl) (flatState _)
        · exact endP (.inr rfl) rfl (by rw [stepF_old hct ha, if_neg (df hb)]; rfl) (flatState _)
    · have ha : Keep p s (Clip (Mid next.span)) next = false := by simp only [Keep, hr, Bool.false_and]
      refine WCall.any _ (clipR _) (WCall.any _ (tickR ⟨Clip (Clip (Mid next.span)), 0⟩ (Clip (Mid next.span))) (WCall.any _ (addR true [Bound s.life 0 Most, 1]) (WCall.any _ (boundR _ _ _) ?_)))
      exact endP (.inr rfl) rfl (by rw [stepF_new hct ha]; rfl) (flatState _)
theorem stepR (p : Params) (s : State) (ticks : Int) (next : State) (hlen : next.table.length ≤ 1048576) (m : Mem) : ACall Tryz.prog 42 [.agg (eP p), .agg (eState s), i ticks, .agg (eState next)] m (.agg (eState (StepF p s ticks next))) m := acall_pure (stepR_0 p s ticks next hlen) ⟨flatP p, flatState s, trivial, flatState next, trivial⟩ m
theorem tr_eS {m : Mem} {os : List Nat} (s : State) : Tr m os (.agg (eState s)) (.agg (eState s)) :=
  .agg (.cons (.p _) (.cons (.p _) (.cons (.p _) (.cons (.p _) (.cons (.p _) (.cons (.p _) (.cons (.p _) (.cons (.p _) (.cons (.p _) (.cons (.p _) (.cons (.p _) .nil)))))))))))
theorem tr_eM {mm : Mem} {m : Msg} {x : AV} {n : Int} (hn : n = m.pulse) (hx : Tr mm [] x (.p (tb m.table))) : Tr mm [] (.agg [i m.kind, i m.frm, i m.span.lo, i m.span.hi, i m.held, i m.hops, bools m.good, bools m.ref, i m.seen.lo, i m.seen.hi, i n, i m.stamp.time, i m.stamp.num, x]) (.agg (eMsg m)) := by
  rw [hn]
  exact .agg (.cons (.p _) (.cons (.p _) (.cons (.p _) (.cons (.p _) (.cons (.p _) (.cons (.p _) (.cons (.p _) (.cons (.p _) (.cons (.p _) (.cons (.p _) (.cons (.p _) (.cons (.p _) (.cons (.p _) (.cons hx .nil))))))))))))))
theorem app_zero {L : Env} {m : Mem} {sz bytes s : Nat} {x y : Operand} {t : Bool} {ys : List (List PV)} (hx : opd L x = some (.p (.list s true []))) (hy : opd L y = some (.p (.list sz t ys))) (h0 : ys = []) :
    aop L m (.app sz bytes x y) = some (.p (.list s true []), m) := by
  subst h0
  simp [aop, hx, hy, appendAV, srcCells]
set_option maxHeartbeats 4000000 in
theorem sayR_0 (p : Params) (s : State) (kind me : Int) (read : Bool) (seen : Span) (hlen : s.table.length ≤ 1048576) : ACall Tryz.prog 41 [.agg (eP p), .agg (eState s), i kind, i me, bools read, .agg (eSpan seen)] [] (.tup [.agg (eState (StampF s)), .agg (eMsg (SayF p s kind me read seen))]) [] := by
  have hT : s.table = [] ∨ s.table ≠ [] := by cases s.table <;> simp
  refine acall_run R_ref22_Say_ok ?_
  refine WCall.any _ (ofH p s) ⟨fun h1 => ?_, fun h1 => ?_⟩
  · have h1 := ndt h1
    have hp : Number p s.time = (SayF p s kind me read seen).pulse := by
      simp only [SayF, PulseF, if_neg h1]
    refine WCall.any _ (numberR _ _) (WCall.any _ (stampedR s) (WReg.mk [1, 2] (WB.of ?_)))
    rcases hT with h0 | h0
    · refine WOp.mk _ _ (app_zero rfl rfl (by rw [List.map_eq_nil_iff]; exact h0)) ⟨rfl, rfl, trivial⟩ ?_
      refine ⟨⟨rfl, rfl, trivial⟩, ⟨rfl, rfl, trivial⟩, ?_⟩
      exact endT (.inr rfl) rfl rfl (.tup (.cons (tr_eS (StampF s)) (.cons (tr_eM (m := SayF p s kind me read seen) hp (.le (.p _) (by rw [show (SayF p s kind me read seen).table = [] from h0]; exact le_nil _ _ _))) .nil)))
    · refine WOp.mk _ _ (app_new rfl rfl (by rw [ne_eq, List.map_eq_nil_iff]; exact h0) (by decide) (by rw [List.length_map]; show s.table.length * 16 ≤ _; omega)) ⟨rfl, rfl, trivial⟩ ?_
      refine ⟨⟨rfl, rfl, trivial⟩, ⟨rfl, rfl, trivial⟩, ?_⟩
      exact endT (.inr rfl) rfl rfl (.tup (.cons (tr_eS (StampF s)) (.cons (tr_eM (m := SayF p s kind me read seen) hp (tr_leaps (xs := s.table) rfl)) .nil)))
  · have h1 := ndf h1
    have hp : 0 = (SayF p s kind me read seen).pulse := by
      simp only [SayF, PulseF, if_pos h1]
    refine WCall.any _ (stampedR s) (WReg.mk [1, 2] (WB.of ?_))
    rcases hT with h0 | h0
    · refine WOp.mk _ _ (app_zero rfl rfl (by rw [List.map_eq_nil_iff]; exact h0)) ⟨rfl, rfl, trivial⟩ ?_
      refine ⟨⟨rfl, rfl, trivial⟩, ⟨rfl, rfl, trivial⟩, ?_⟩
      exact endT (.inr rfl) rfl rfl (.tup (.cons (tr_eS (StampF s)) (.cons (tr_eM (m := SayF p s kind me read seen) hp (.le (.p _) (by rw [show (SayF p s kind me read seen).table = [] from h0]; exact le_nil _ _ _))) .nil)))
    · refine WOp.mk _ _ (app_new rfl rfl (by rw [ne_eq, List.map_eq_nil_iff]; exact h0) (by decide) (by rw [List.length_map]; show s.table.length * 16 ≤ _; omega)) ⟨rfl, rfl, trivial⟩ ?_
      refine ⟨⟨rfl, rfl, trivial⟩, ⟨rfl, rfl, trivial⟩, ?_⟩
      exact endT (.inr rfl) rfl rfl (.tup (.cons (tr_eS (StampF s)) (.cons (tr_eM (m := SayF p s kind me read seen) hp (tr_leaps (xs := s.table) rfl)) .nil)))
theorem sayR (p : Params) (s : State) (kind me : Int) (read : Bool) (seen : Span) (hlen : s.table.length ≤ 1048576) (m : Mem) : ACall Tryz.prog 41 [.agg (eP p), .agg (eState s), i kind, i me, bools read, .agg (eSpan seen)] m (.tup [.agg (eState (StampF s)), .agg (eMsg (SayF p s kind me read seen))]) m := acall_pure (sayR_0 p s kind me read seen hlen) ⟨flatP p, flatState s, trivial, trivial, trivial, flatS seen, trivial⟩ m
end Go.Proofs.YtlkphnhlibpngaaGreat.Abs
