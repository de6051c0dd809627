/- Contracts, part 4: a state and the numbers of its fabric, in a gate. -/
import Derived.Test.YtlkphnhlibpngaaGreatC3
set_option linter.unusedVariables false
set_option linter.unusedSimpArgs false
set_option maxRecDepth 100000
namespace Go.Proofs.YtlkphnhlibpngaaGreat.Abs
open Go

theorem nof {F : Prop} (h : false = true) : F := Bool.noConfusion h
theorem not {F : Prop} (h : true = false) : F := Bool.noConfusion h
theorem flatG0 (p : Params) (s : State) (me : Int) : AV.unders 0 (gb p s me).cells :=
  ⟨trivial, trivial, trivial, trivial, trivial, trivial, trivial, trivial, trivial, trivial, trivial, trivial, trivial, trivial, trivial, trivial, trivial, trivial, trivial, trivial, trivial, trivial, trivial, trivial, trivial⟩
theorem flatG1 (p : Params) (s : State) (me : Int) : AV.unders 1 (gb p s me).cells :=
  ⟨trivial, trivial, trivial, trivial, trivial, trivial, trivial, trivial, trivial, trivial, trivial, trivial, trivial, trivial, trivial, trivial, trivial, trivial, trivial, trivial, trivial, trivial, trivial, trivial, trivial⟩
theorem health_1 (p : Params) (s : State) (me : Int) : ACall Tryz.prog 84 [.ptr 0 0 0] [gb p s me] (i (Of p s)) [gb p s me] := by
  refine acall_run R_health_Front_Health_ok ⟨nof, fun _ => ?_⟩
  refine WCall.any _ (hof_ok p s) ?_
  exact end1 rfl (.inr rfl) rfl (i_eq rfl) trivial rfl (flatG1 _ _ _)
theorem synced_1 (p : Params) (s : State) (me : Int) : ACall Tryz.prog 46 [.ptr 0 0 0] [gb p s me] (i (Synced p s)) [gb p s me] := by
  refine acall_run R_health_Front_synced_ok ⟨nof, fun _ => ?_⟩
  refine WCall.here rfl _ _ (health_1 p s me) trivial ⟨fun h => ?_, fun h => ?_⟩
  · exact end1 rfl (.inr rfl) rfl (i_eq (by rw [Synced, if_pos (dt h)])) trivial rfl (flatG1 _ _ _)
  · exact end1 rfl (.inr rfl) rfl (i_eq (by rw [Synced, if_neg (df h)])) trivial rfl (flatG1 _ _ _)
theorem synced_b {p : Params} {s : State} (h0 : Of p s = 0) (me : Int) : ACall Tryz.prog 46 [.ptr 0 0 0] [gb p s me] (i 20) [gb p s me] := by
  have e : Synced p s = 20 := by rw [Synced, if_pos h0]
  rw [← e]; exact synced_1 p s me
theorem synced_o {p : Params} {s : State} (h0 : ¬ Of p s = 0) (me : Int) : ACall Tryz.prog 46 [.ptr 0 0 0] [gb p s me] (i 0) [gb p s me] := by
  have e : Synced p s = 0 := by rw [Synced, if_neg h0]
  rw [← e]; exact synced_1 p s me
theorem now_1 (p : Params) (s : State) (me : Int) : ACall Tryz.prog 18 [.ptr 0 0 0] [gb p s me] (.tup [i (NowF p s).1, i (NowF p s).2]) [gb p s me] := by
  refine acall_run R_health_Front_Now_ok ?_
  by_cases h0 : Of p s = 0
  · refine WCall.here rfl _ _ (synced_b h0 me) trivial ⟨fun h => ?_, fun h => absurd h (by decide)⟩
    exact end1 rfl (.inr rfl) rfl (tup2_eq (by rw [NowF, if_pos h0]) (by rw [NowF, if_pos h0])) ⟨trivial, trivial, trivial⟩ rfl (flatG1 _ _ _)
  · refine WCall.here rfl _ _ (synced_o h0 me) trivial ⟨fun h => absurd h (by decide), fun h => ?_⟩
    exact end1 rfl (.inr rfl) rfl (tup2_eq (by rw [NowF, if_neg h0]) (by rw [NowF, if_neg h0])) ⟨trivial, trivial, trivial⟩ rfl (flatG1 _ _ _)
theorem pulse_1 (p : Params) (s : State) (me : Int) : ACall Tryz.prog 43 [.ptr 0 0 0] [gb p s me] (.tup [i (PulseF p s).1, i (PulseF p s).2]) [gb p s me] := by
  refine acall_run R_health_Front_Pulse_ok ?_
  by_cases h0 : Of p s = 0
  · refine WCall.here rfl _ _ (synced_b h0 me) trivial ⟨fun h => ?_, fun h => absurd h (by decide)⟩
    exact end1 rfl (.inr rfl) rfl (tup2_eq (by rw [PulseF, if_pos h0]) (by rw [PulseF, if_pos h0])) ⟨trivial, trivial, trivial⟩ rfl (flatG1 _ _ _)
  · refine WCall.here rfl _ _ (synced_o h0 me) trivial ⟨fun h => absurd h (by decide), fun h => ?_⟩
    refine WCall.any _ (number_ok p s.time) ?_
    exact end1 rfl (.inr rfl) rfl (tup2_eq (by rw [PulseF, if_neg h0]) (by rw [PulseF, if_neg h0])) ⟨trivial, trivial, trivial⟩ rfl (flatG1 _ _ _)
theorem most_1 (p : Params) (s : State) (me : Int) : ACall Tryz.prog 68 [.ptr 0 0 0] [gb p s me] (i (MostT p s)) [gb p s me] := by
  refine acall_run R_health_Front_most_ok ?_
  refine WCall.any _ (far_ok p s.held) (WCall.any _ (add_ok true [s.span.hi, Far p s.held]) ?_)
  exact end1 rfl (.inr rfl) rfl (i_eq rfl) trivial rfl (flatG1 _ _ _)
theorem stampi_eq {a b c d : Int} {s : Stamp} (h1 : a = s.time) (h2 : b = s.num) (h3 : c = d) : tupled [.agg [i a, i b], i c] = .tup [.agg (eStamp s), i d] := by rw [h1, h2, h3]; rfl
theorem stamp_1 (p : Params) (s : State) (me : Int) : ACall Tryz.prog 44 [.ptr 0 0 0] [gb p s me] (.tup [.agg (eStamp (Tick s.stamp s.time)), i 0]) [gb p (StampF s) me] := by
  refine acall_run R_health_Front_Stamp_ok ⟨nof, fun _ => ?_⟩
  refine WCall.any _ (tick_ok s.stamp s.time) ?_
  exact end1 rfl (.inr rfl) rfl (stampi_eq (s := Tick s.stamp s.time) rfl rfl rfl) ⟨flatSt (Tick s.stamp s.time), trivial, trivial⟩ rfl (flatG1 p (StampF s) me)

/-! a beat's end -/
theorem sane_ok' (p : Params) (s : State) (hlen : s.table.length ≤ 1048576) (m : Mem) : ACall Tryz.prog 19 [.agg (eP p), .agg (eState s)] m (.agg (eState (Sane p s))) m := sane_ok p s hlen m
theorem step_1 (p : Params) (s : State) (me ticks : Int) (next : State) (hlen : next.table.length ≤ 1048576) :
    ACall Tryz.prog 35 [.ptr 0 0 0, i ticks, .agg (eState next)] [gb p s me] (.tup []) [gb p (StepF p s ticks next) me] := by
  have fin : ∀ {c : Int} {t : State} {L : Env} {mm : Mem} {e : Exit}, Ct p s ticks next = c → StepC p s c next = t → (e = .normal ∨ e = .ret) → mm.take 1 = [gb p t me] → Ends R_health_Front_Step [gb p s me] (.tup []) [gb p (StepF p s ticks next) me] e L mm := by
    intro c t L mm e h1 h2 he hm
    subst h1
    subst h2
    exact end1 rfl he rfl rfl trivial hm (flatG1 _ _ _)
  refine acall_run R_health_Front_Step_ok ⟨nof, fun _ => ?_⟩
  refine WCall.any _ (mid_ok next.span) (WCall.any _ (add_ok true [s.time, ticks]) (WCall.any _ (sub_ok _ _) (WCall.any _ (abs_ok _) (WCall.any _ (hof_ok p s) ⟨fun h1 => ?_, fun h1 => ?_⟩))))
  · skip
    have hj : Jump p s ticks next = true := by simp only [Jump, h1, Bool.true_or]
    refine WReg.mk [0, 2] ⟨fun h2 => ?_, fun h2 => ?_⟩
    · have hc : Ct p s ticks next = (Slew s.time true p ticks (Mid next.span) true) := by rw [Ct, hj, h2]
      refine WCall.any _ (slew_ok s.time true p ticks (Mid next.span) true) ⟨⟨rfl, rfl, trivial⟩, ⟨⟨rfl, rfl, trivial⟩, ?_⟩⟩
      refine WCall.any _ (sane_ok p next hlen) (WReg.mk [2, 3] ⟨fun _ => ?_, not⟩)
      refine WCall.any _ (bound_ok s.life 0 Most) ⟨⟨rfl, rfl, trivial⟩, ⟨⟨rfl, rfl, trivial⟩, ⟨⟨rfl, rfl, trivial⟩, ⟨⟨rfl, rfl, trivial⟩, WReg.mk [0, 2, 3] ?_⟩⟩⟩⟩
      refine WCall.look _ (fun m2 hk => acall_look (most_1 p (StepA p s (Slew s.time true p ticks (Mid next.span) true) next) me) ⟨Nat.one_pos, trivial⟩ (flatG0 _ _ _) 0 m2 (hk.1.trans rfl)) ?_
      refine WCall.any _ (mend_ok s.stamp (Slew s.time true p ticks (Mid next.span) true) (MostT p (StepA p s (Slew s.time true p ticks (Mid next.span) true) next))) ⟨fun h8 => ⟨⟨rfl, rfl, rfl, trivial⟩, ⟨⟨rfl, rfl, rfl, trivial⟩, ?_⟩⟩, fun h8 => ⟨⟨rfl, rfl, rfl, trivial⟩, ⟨⟨rfl, rfl, rfl, trivial⟩, ?_⟩⟩⟩
      · refine WCall.any _ (tick_ok (Mend s.stamp (Slew s.time true p ticks (Mid next.span) true) (MostT p (StepA p s (Slew s.time true p ticks (Mid next.span) true) next))).1 (Slew s.time true p ticks (Mid next.span) true)) ?_
        refine WCall.any _ (add_ok true [Bound s.life 0 Most, 1]) (WCall.any _ (bound_ok _ _ _) ?_)
        exact fin (t := { StepB p s (Slew s.time true p ticks (Mid next.span) true) next with life := Bound (Add [Bound s.life 0 Most, 1]) 0 Most }) hc (by rw [StepC, h8]; rfl) (.inl rfl) rfl
      · refine WCall.any _ (tick_ok (Mend s.stamp (Slew s.time true p ticks (Mid next.span) true) (MostT p (StepA p s (Slew s.time true p ticks (Mid next.span) true) next))).1 (Slew s.time true p ticks (Mid next.span) true)) ⟨fun h9 => ?_, fun h9 => ?_⟩
        · refine WCall.any _ (add_ok true [Bound s.life 0 Most, 1]) (WCall.any _ (bound_ok _ _ _) ?_)
          exact fin (t := { StepB p s (Slew s.time true p ticks (Mid next.span) true) next with life := Bound (Add [Bound s.life 0 Most, 1]) 0 Most }) hc (by rw [StepC, h8, if_pos (by simp only [Bool.false_or]; exact h9)]) (.inl rfl) rfl
        · exact fin (t := StepB p s (Slew s.time true p ticks (Mid next.span) true) next) hc (by rw [StepC, h8, if_neg (by simp only [Bool.false_or]; intro h; exact absurd (h.symm.trans h9) (by decide))]) (.inl rfl) rfl
    · have hc : Ct p s ticks next = (Slew s.time false p ticks (Mid next.span) true) := by rw [Ct, hj, h2]
      refine WCall.any _ (slew_ok s.time false p ticks (Mid next.span) true) ⟨⟨rfl, rfl, trivial⟩, ⟨⟨rfl, rfl, trivial⟩, ?_⟩⟩
      refine WCall.any _ (sane_ok p next hlen) (WReg.mk [2, 3] ⟨fun _ => ?_, not⟩)
      refine WCall.any _ (bound_ok s.life 0 Most) ⟨⟨rfl, rfl, trivial⟩, ⟨⟨rfl, rfl, trivial⟩, ⟨⟨rfl, rfl, trivial⟩, ⟨⟨rfl, rfl, trivial⟩, WReg.mk [0, 2, 3] ?_⟩⟩⟩⟩
      refine WCall.look _ (fun m2 hk => acall_look (most_1 p (StepA p s (Slew s.time false p ticks (Mid next.span) true) next) me) ⟨Nat.one_pos, trivial⟩ (flatG0 _ _ _) 0 m2 (hk.1.trans rfl)) ?_
      refine WCall.any _ (mend_ok s.stamp (Slew s.time false p ticks (Mid next.span) true) (MostT p (StepA p s (Slew s.time false p ticks (Mid next.span) true) next))) ⟨fun h8 => ⟨⟨rfl, rfl, rfl, trivial⟩, ⟨⟨rfl, rfl, rfl, trivial⟩, ?_⟩⟩, fun h8 => ⟨⟨rfl, rfl, rfl, trivial⟩, ⟨⟨rfl, rfl, rfl, trivial⟩, ?_⟩⟩⟩
      · refine WCall.any _ (tick_ok (Mend s.stamp (Slew s.time false p ticks (Mid next.span) true) (MostT p (StepA p s (Slew s.time false p ticks (Mid next.span) true) next))).1 (Slew s.time false p ticks (Mid next.span) true)) ?_
        refine WCall.any _ (add_ok true [Bound s.life 0 Most, 1]) (WCall.any _ (bound_ok _ _ _) ?_)
        exact fin (t := { StepB p s (Slew s.time false p ticks (Mid next.span) true) next with life := Bound (Add [Bound s.life 0 Most, 1]) 0 Most }) hc (by rw [StepC, h8]; rfl) (.inl rfl) rfl
      · refine WCall.any _ (tick_ok (Mend s.stamp (Slew s.time false p ticks (Mid next.span) true) (MostT p (StepA p s (Slew s.time false p ticks (Mid next.span) true) next))).1 (Slew s.time false p ticks (Mid next.span) true)) ⟨fun h9 => ?_, fun h9 => ?_⟩
        · refine WCall.any _ (add_ok true [Bound s.life 0 Most, 1]) (WCall.any _ (bound_ok _ _ _) ?_)
          exact fin (t := { StepB p s (Slew s.time false p ticks (Mid next.span) true) next with life := Bound (Add [Bound s.life 0 Most, 1]) 0 Most }) hc (by rw [StepC, h8, if_pos (by simp only [Bool.false_or]; exact h9)]) (.inl rfl) rfl
        · exact fin (t := StepB p s (Slew s.time false p ticks (Mid next.span) true) next) hc (by rw [StepC, h8, if_neg (by simp only [Bool.false_or]; intro h; exact absurd (h.symm.trans h9) (by decide))]) (.inl rfl) rfl
  · refine WCall.any _ (far_ok p next.held) ⟨fun h3 => ?_, fun h3 => ?_⟩
    · skip
      have hj : Jump p s ticks next = true := by rw [Jump, h3, Bool.or_true]
      refine WReg.mk [0, 2] ⟨fun h2 => ?_, fun h2 => ?_⟩
      · have hc : Ct p s ticks next = (Slew s.time true p ticks (Mid next.span) true) := by rw [Ct, hj, h2]
        refine WCall.any _ (slew_ok s.time true p ticks (Mid next.span) true) ⟨⟨rfl, rfl, trivial⟩, ⟨⟨rfl, rfl, trivial⟩, ?_⟩⟩
        refine WCall.any _ (sane_ok p next hlen) (WReg.mk [2, 3] ⟨fun _ => ?_, not⟩)
        refine WCall.any _ (bound_ok s.life 0 Most) ⟨⟨rfl, rfl, trivial⟩, ⟨⟨rfl, rfl, trivial⟩, ⟨⟨rfl, rfl, trivial⟩, ⟨⟨rfl, rfl, trivial⟩, WReg.mk [0, 2, 3] ?_⟩⟩⟩⟩
        refine WCall.look _ (fun m2 hk => acall_look (most_1 p (StepA p s (Slew s.time true p ticks (Mid next.span) true) next) me) ⟨Nat.one_pos, trivial⟩ (flatG0 _ _ _) 0 m2 (hk.1.trans rfl)) ?_
        refine WCall.any _ (mend_ok s.stamp (Slew s.time true p ticks (Mid next.span) true) (MostT p (StepA p s (Slew s.time true p ticks (Mid next.span) true) next))) ⟨fun h8 => ⟨⟨rfl, rfl, rfl, trivial⟩, ⟨⟨rfl, rfl, rfl, trivial⟩, ?_⟩⟩, fun h8 => ⟨⟨rfl, rfl, rfl, trivial⟩, ⟨⟨rfl, rfl, rfl, trivial⟩, ?_⟩⟩⟩
        · refine WCall.any _ (tick_ok (Mend s.stamp (Slew s.time true p ticks (Mid next.span) true) (MostT p (StepA p s (Slew s.time true p ticks (Mid next.span) true) next))).1 (Slew s.time true p ticks (Mid next.span) true)) ?_
          refine WCall.any _ (add_ok true [Bound s.life 0 Most, 1]) (WCall.any _ (bound_ok _ _ _) ?_)
          exact fin (t := { StepB p s (Slew s.time true p ticks (Mid next.span) true) next with life := Bound (Add [Bound s.life 0 Most, 1]) 0 Most }) hc (by rw [StepC, h8]; rfl) (.inl rfl) rfl
        · refine WCall.any _ (tick_ok (Mend s.stamp (Slew s.time true p ticks (Mid next.span) true) (MostT p (StepA p s (Slew s.time true p ticks (Mid next.span) true) next))).1 (Slew s.time true p ticks (Mid next.span) true)) ⟨fun h9 => ?_, fun h9 => ?_⟩
          · refine WCall.any _ (add_ok true [Bound s.life 0 Most, 1]) (WCall.any _ (bound_ok _ _ _) ?_)
            exact fin (t := { StepB p s (Slew s.time true p ticks (Mid next.span) true) next with life := Bound (Add [Bound s.life 0 Most, 1]) 0 Most }) hc (by rw [StepC, h8, if_pos (by simp only [Bool.false_or]; exact h9)]) (.inl rfl) rfl
          · exact fin (t := StepB p s (Slew s.time true p ticks (Mid next.span) true) next) hc (by rw [StepC, h8, if_neg (by simp only [Bool.false_or]; intro h; exact absurd (h.symm.trans h9) (by decide))]) (.inl rfl) rfl
      · have hc : Ct p s ticks next = (Slew s.time false p ticks (Mid next.span) true) := by rw [Ct, hj, h2]
        refine WCall.any _ (slew_ok s.time false p ticks (Mid next.span) true) ⟨⟨rfl, rfl, trivial⟩, ⟨⟨rfl, rfl, trivial⟩, ?_⟩⟩
        refine WCall.any _ (sane_ok p next hlen) (WReg.mk [2, 3] ⟨fun _ => ?_, not⟩)
        refine WCall.any _ (bound_ok s.life 0 Most) ⟨⟨rfl, rfl, trivial⟩, ⟨⟨rfl, rfl, trivial⟩, ⟨⟨rfl, rfl, trivial⟩, ⟨⟨rfl, rfl, trivial⟩, WReg.mk [0, 2, 3] ?_⟩⟩⟩⟩
        refine WCall.look _ (fun m2 hk => acall_look (most_1 p (StepA p s (Slew s.time false p ticks (Mid next.span) true) next) me) ⟨Nat.one_pos, trivial⟩ (flatG0 _ _ _) 0 m2 (hk.1.trans rfl)) ?_
        refine WCall.any _ (mend_ok s.stamp (Slew s.time false p ticks (Mid next.span) true) (MostT p (StepA p s (Slew s.time false p ticks (Mid next.span) true) next))) ⟨fun h8 => ⟨⟨rfl, rfl, rfl, trivial⟩, ⟨⟨rfl, rfl, rfl, trivial⟩, ?_⟩⟩, fun h8 => ⟨⟨rfl, rfl, rfl, trivial⟩, ⟨⟨rfl, rfl, rfl, trivial⟩, ?_⟩⟩⟩
        · refine WCall.any _ (tick_ok (Mend s.stamp (Slew s.time false p ticks (Mid next.span) true) (MostT p (StepA p s (Slew s.time false p ticks (Mid next.span) true) next))).1 (Slew s.time false p ticks (Mid next.span) true)) ?_
          refine WCall.any _ (add_ok true [Bound s.life 0 Most, 1]) (WCall.any _ (bound_ok _ _ _) ?_)
          exact fin (t := { StepB p s (Slew s.time false p ticks (Mid next.span) true) next with life := Bound (Add [Bound s.life 0 Most, 1]) 0 Most }) hc (by rw [StepC, h8]; rfl) (.inl rfl) rfl
        · refine WCall.any _ (tick_ok (Mend s.stamp (Slew s.time false p ticks (Mid next.span) true) (MostT p (StepA p s (Slew s.time false p ticks (Mid next.span) true) next))).1 (Slew s.time false p ticks (Mid next.span) true)) ⟨fun h9 => ?_, fun h9 => ?_⟩
          · refine WCall.any _ (add_ok true [Bound s.life 0 Most, 1]) (WCall.any _ (bound_ok _ _ _) ?_)
            exact fin (t := { StepB p s (Slew s.time false p ticks (Mid next.span) true) next with life := Bound (Add [Bound s.life 0 Most, 1]) 0 Most }) hc (by rw [StepC, h8, if_pos (by simp only [Bool.false_or]; exact h9)]) (.inl rfl) rfl
          · exact fin (t := StepB p s (Slew s.time false p ticks (Mid next.span) true) next) hc (by rw [StepC, h8, if_neg (by simp only [Bool.false_or]; intro h; exact absurd (h.symm.trans h9) (by decide))]) (.inl rfl) rfl
    · skip
      have hj : Jump p s ticks next = false := by rw [Jump, h1, h3]; rfl
      refine WReg.mk [0, 2] ⟨fun h2 => ?_, fun h2 => ?_⟩
      · have hc : Ct p s ticks next = (Slew s.time true p ticks (Mid next.span) false) := by rw [Ct, hj, h2]
        refine WCall.any _ (slew_ok s.time true p ticks (Mid next.span) false) ⟨⟨rfl, rfl, trivial⟩, ⟨⟨rfl, rfl, trivial⟩, ?_⟩⟩
        refine WCall.any _ (sane_ok p next hlen) (WReg.mk [2, 3] ⟨fun _ => ?_, not⟩)
        refine WCall.any _ (bound_ok s.life 0 Most) ⟨⟨rfl, rfl, trivial⟩, ⟨⟨rfl, rfl, trivial⟩, ⟨⟨rfl, rfl, trivial⟩, ⟨⟨rfl, rfl, trivial⟩, WReg.mk [0, 2, 3] ?_⟩⟩⟩⟩
        refine WCall.look _ (fun m2 hk => acall_look (most_1 p (StepA p s (Slew s.time true p ticks (Mid next.span) false) next) me) ⟨Nat.one_pos, trivial⟩ (flatG0 _ _ _) 0 m2 (hk.1.trans rfl)) ?_
        refine WCall.any _ (mend_ok s.stamp (Slew s.time true p ticks (Mid next.span) false) (MostT p (StepA p s (Slew s.time true p ticks (Mid next.span) false) next))) ⟨fun h8 => ⟨⟨rfl, rfl, rfl, trivial⟩, ⟨⟨rfl, rfl, rfl, trivial⟩, ?_⟩⟩, fun h8 => ⟨⟨rfl, rfl, rfl, trivial⟩, ⟨⟨rfl, rfl, rfl, trivial⟩, ?_⟩⟩⟩
        · refine WCall.any _ (tick_ok (Mend s.stamp (Slew s.time true p ticks (Mid next.span) false) (MostT p (StepA p s (Slew s.time true p ticks (Mid next.span) false) next))).1 (Slew s.time true p ticks (Mid next.span) false)) ?_
          refine WCall.any _ (add_ok true [Bound s.life 0 Most, 1]) (WCall.any _ (bound_ok _ _ _) ?_)
          exact fin (t := { StepB p s (Slew s.time true p ticks (Mid next.span) false) next with life := Bound (Add [Bound s.life 0 Most, 1]) 0 Most }) hc (by rw [StepC, h8]; rfl) (.inl rfl) rfl
        · refine WCall.any _ (tick_ok (Mend s.stamp (Slew s.time true p ticks (Mid next.span) false) (MostT p (StepA p s (Slew s.time true p ticks (Mid next.span) false) next))).1 (Slew s.time true p ticks (Mid next.span) false)) ⟨fun h9 => ?_, fun h9 => ?_⟩
          · refine WCall.any _ (add_ok true [Bound s.life 0 Most, 1]) (WCall.any _ (bound_ok _ _ _) ?_)
            exact fin (t := { StepB p s (Slew s.time true p ticks (Mid next.span) false) next with life := Bound (Add [Bound s.life 0 Most, 1]) 0 Most }) hc (by rw [StepC, h8, if_pos (by simp only [Bool.false_or]; exact h9)]) (.inl rfl) rfl
          · exact fin (t := StepB p s (Slew s.time true p ticks (Mid next.span) false) next) hc (by rw [StepC, h8, if_neg (by simp only [Bool.false_or]; intro h; exact absurd (h.symm.trans h9) (by decide))]) (.inl rfl) rfl
      · have hc : Ct p s ticks next = (Slew s.time false p ticks (Mid next.span) false) := by rw [Ct, hj, h2]
        refine WCall.any _ (slew_ok s.time false p ticks (Mid next.span) false) ⟨⟨rfl, rfl, trivial⟩, ⟨⟨rfl, rfl, trivial⟩, ?_⟩⟩
        refine WCall.any _ (sane_ok p next hlen) (WReg.mk [2, 3] ⟨fun _ => ?_, not⟩)
        refine WCall.any _ (bound_ok s.life 0 Most) ⟨⟨rfl, rfl, trivial⟩, ⟨⟨rfl, rfl, trivial⟩, ⟨⟨rfl, rfl, trivial⟩, ⟨⟨rfl, rfl, trivial⟩, WReg.mk [0, 2, 3] ?_⟩⟩⟩⟩
        refine WCall.look _ (fun m2 hk => acall_look (most_1 p (StepA p s (Slew s.time false p ticks (Mid next.span) false) next) me) ⟨Nat.one_pos, trivial⟩ (flatG0 _ _ _) 0 m2 (hk.1.trans rfl)) ?_
        refine WCall.any _ (mend_ok s.stamp (Slew s.time false p ticks (Mid next.span) false) (MostT p (StepA p s (Slew s.time false p ticks (Mid next.span) false) next))) ⟨fun h8 => ⟨⟨rfl, rfl, rfl, trivial⟩, ⟨⟨rfl, rfl, rfl, trivial⟩, ?_⟩⟩, fun h8 => ⟨⟨rfl, rfl, rfl, trivial⟩, ⟨⟨rfl, rfl, rfl, trivial⟩, ?_⟩⟩⟩
        · refine WCall.any _ (tick_ok (Mend s.stamp (Slew s.time false p ticks (Mid next.span) false) (MostT p (StepA p s (Slew s.time false p ticks (Mid next.span) false) next))).1 (Slew s.time false p ticks (Mid next.span) false)) ?_
          refine WCall.any _ (add_ok true [Bound s.life 0 Most, 1]) (WCall.any _ (bound_ok _ _ _) ?_)
          exact fin (t := { StepB p s (Slew s.time false p ticks (Mid next.span) false) next with life := Bound (Add [Bound s.life 0 Most, 1]) 0 Most }) hc (by rw [StepC, h8]; rfl) (.inl rfl) rfl
        · refine WCall.any _ (tick_ok (Mend s.stamp (Slew s.time false p ticks (Mid next.span) false) (MostT p (StepA p s (Slew s.time false p ticks (Mid next.span) false) next))).1 (Slew s.time false p ticks (Mid next.span) false)) ⟨fun h9 => ?_, fun h9 => ?_⟩
          · refine WCall.any _ (add_ok true [Bound s.life 0 Most, 1]) (WCall.any _ (bound_ok _ _ _) ?_)
            exact fin (t := { StepB p s (Slew s.time false p ticks (Mid next.span) false) next with life := Bound (Add [Bound s.life 0 Most, 1]) 0 Most }) hc (by rw [StepC, h8, if_pos (by simp only [Bool.false_or]; exact h9)]) (.inl rfl) rfl
          · exact fin (t := StepB p s (Slew s.time false p ticks (Mid next.span) false) next) hc (by rw [StepC, h8, if_neg (by simp only [Bool.false_or]; intro h; exact absurd (h.symm.trans h9) (by decide))]) (.inl rfl) rfl
end Go.Proofs.YtlkphnhlibpngaaGreat.Abs
