/- GateForgets: the walk. -/
import Derived.Test.YtlkphnhlibpngaaL1
import Derived.Test.YtlkphnhlibpngaaPure4
import Derived.Test.YtlkphnhlibpngaaAbsRegF
set_option linter.unusedVariables false
set_option linter.unusedSimpArgs false
set_option maxRecDepth 100000
namespace Go.Proofs.Ytlkphnhlibpngaa.Abs
open Go

theorem great_x (s : State) (x : Input) (t : Bool) : ACall Try.prog 8 [.agg (eState s), .p (.list 6 t [rInput x])] [] (bools (GreatF s [x])) [] := great_0 s t [x]
theorem great_n (s : State) (m : Mem) : ACall Try.prog 8 [.agg (eState s), zl] m (bools (GreatF s [])) m :=
  acall_pure (acall_args (.cons (.refl _) (.cons (le_nil _ _ _) .nil)) (great_0 s false [])) ⟨flatState s, trivial, trivial⟩ m
theorem forgets_0 (p : Params) (a b : State) (x : Input) :
    ACall Try.prog 5 [.agg (eP p), .agg (eState a), .agg (eState b), .agg (eInput x)] [] (bools true) [] := by
  have yes : ∀ {L : Env} {mm : Mem}, aress L mm R_law22_GateForgets.res = some [bools true] → Ends R_law22_GateForgets [] (bools true) [] .ret L mm := fun h => endP (.inr rfl) h rfl trivial
  refine acall_run R_law22_GateForgets_ok ?_
  refine WCall.any _ (acall_pure alive_0 trivial) ⟨fun _ => ?_, fun h => absurd h (by decide)⟩
  refine WCall.any _ (check_ok p) ⟨fun _ => yes rfl, fun h1 => ?_⟩
  refine WCall.any _ (acall_pure (great_x a x true) ⟨flatState a, trivial, trivial⟩) ⟨fun _ => yes rfl, fun h2 => ?_⟩
  refine WCall.any _ (great_n b) ⟨fun _ => yes rfl, fun h3 => ?_⟩
  have hA : a.table.length ≤ 1048576 ∧ x.heard.length ≤ 1048576 ∧ x.table.length ≤ 1048576 := by
    simp only [GreatF, GreatX, List.any_cons, List.any_nil, Bool.or_eq_false_iff, decide_eq_false_iff_not] at h2
    omega
  have hB : b.table.length ≤ 1048576 := by
    simp only [GreatF, List.any_nil, Bool.or_eq_false_iff, decide_eq_false_iff_not] at h3
    omega
  obtain ⟨hA, hX, hT⟩ := hA
  have ba := beat_1 p (Sane p a) 0 x hX (sane_tab p a hA) hT
  have bb := beat_1 p (Sane p b) 0 x hX (sane_tab p b hB) hT
  have F := forgets_pure (p := p) (a := a) (b := b) (x := x)
  generalize BeatS p 0 (Sane p a) x = sa at *
  generalize BeatM p 0 (Sane p a) x = ma at *
  generalize BeatS p 0 (Sane p b) x = sb at *
  generalize BeatM p 0 (Sane p b) x = mb at *
  have fa : ∀ m2 : Mem, m2[4]? = some (gb p (Sane p a) 0) → ACall Try.prog 10 [.ptr 4 0 0, .agg (eInput x)] m2 (.agg (eMsg ma)) (m2.set 4 (gb p sa 0)) := fun m2 h => by
    have := acall_frame ba ⟨Nat.one_pos, ⟨trivial, trivial, trivial, trivial, trivial, trivial, trivial⟩, trivial⟩ (flatG0 _ _ _) (flatG0 _ _ _) 4 m2 h
    exact this
  have fb : ∀ m2 : Mem, m2[5]? = some (gb p (Sane p b) 0) → ACall Try.prog 10 [.ptr 5 0 0, .agg (eInput x)] m2 (.agg (eMsg mb)) (m2.set 5 (gb p sb 0)) := fun m2 h => by
    have := acall_frame bb ⟨Nat.one_pos, ⟨trivial, trivial, trivial, trivial, trivial, trivial, trivial⟩, trivial⟩ (flatG0 _ _ _) (flatG0 _ _ _) 5 m2 h
    exact this
  refine WReg.mk [0, 2] ?_
  refine WCall.here rfl _ _ (new_ok p 0 a hA _) ⟨rfl, rfl, trivial⟩ ?_
  refine WCall.here rfl _ _ (new_ok p 0 b hB _) ⟨rfl, rfl, trivial⟩ ?_
  refine wregfs 2 [⟨o 34 (.mov (T 9)), .ptr 4 0 0, [], []⟩, ⟨o 35 (.ld (some 6) (T 7)), .agg (eInput x), [3], []⟩, ⟨o 36 (.call 10 [T 34, T 35]), .agg (eMsg ma), [4], [(4, gb p sa 0)]⟩,
    ⟨o 37 (.mov (T 10)), .ptr 5 0 0, [], []⟩, ⟨o 38 (.ld (some 6) (T 7)), .agg (eInput x), [3], []⟩, ⟨o 39 (.call 10 [T 37, T 38]), .agg (eMsg mb), [5], [(5, gb p sb 0)]⟩,
    ⟨o 11 (.new [zi, zi, zi, zi, zi, zi, zb, zb, zi, zi, zi, zi, zi, zl]), .ptr 6 1 0, [6], [(6, ⟨[zi, zi, zi, zi, zi, zi, zb, zb, zi, zi, zi, zi, zi, zl], 1, true⟩)]⟩, ⟨o 12 (.new [zi, zi, zi, zi, zi, zi, zb, zb, zi, zi, zi, zi, zi, zl]), .ptr 7 1 0, [7], [(7, ⟨[zi, zi, zi, zi, zi, zi, zb, zb, zi, zi, zi, zi, zi, zl], 1, true⟩)]⟩,
    ⟨o' (.st 14 (T 11) (T 36)), .p (.v undef), [6], [(6, ⟨eMsg ma, 1, true⟩)]⟩, ⟨o' (.st 14 (T 12) (T 39)), .p (.v undef), [7], [(7, ⟨eMsg mb, 1, true⟩)]⟩] [(9, .ptr 4 0 0), (10, .ptr 5 0 0), (11, .ptr 6 1 0), (12, .ptr 7 1 0)] [.box (eP p), .box (eState a), .box (eState b), .box (eInput x), gb p sa 0, gb p sb 0, ⟨eMsg ma, 1, true⟩, ⟨eMsg mb, 1, true⟩] rfl rfl ?_ ⟨rfl, rfl, rfl, rfl, trivial⟩ rfl ?_
  · refine ⟨tok_free rfl rfl rfl, tok_ld rfl rfl rfl, tok_call rfl rfl rfl fa, tok_free rfl rfl rfl, tok_ld rfl rfl rfl, tok_call rfl rfl rfl fb, tok_new (c := 0) rfl rfl, tok_new (c := 0) rfl rfl, tok_st rfl rfl rfl rfl rfl rfl rfl, tok_st rfl rfl rfl rfl rfl rfl rfl, trivial⟩
  refine ⟨fun h4 => ⟨fun _ => yes rfl, fun h5 => ?_⟩, fun h4 => ?_⟩
  · obtain ⟨f1, f2, f3, f4, f5, f6⟩ := F (.inr (ndf h5))
    refine ⟨fun _ => ⟨fun _ => ⟨fun _ => ⟨fun _ => ⟨fun g1 => ⟨fun g2 => ⟨fun _ => ⟨fun _ => yes rfl, fun h => ?_⟩, fun h => absurd h (by decide)⟩, fun g2 => ?_⟩, fun g1 => ⟨fun g2 => ?_, fun g2 => ⟨fun _ => ⟨fun _ => yes rfl, fun h => ?_⟩, fun h => absurd h (by decide)⟩⟩⟩, fun h => absurd (f4.symm.trans h) (by decide)⟩, fun h => absurd (f3.symm.trans h) (by decide)⟩, fun h => absurd f2 (df h)⟩, fun h => ?_⟩
    · rw [f6] at h; simp at h
    · rw [← f5, g1] at g2; cases g2
    · rw [← f5, g1] at g2; cases g2
    · rw [f6] at h; simp at h
    · rw [f1] at h; simp at h
  · obtain ⟨f1, f2, f3, f4, f5, f6⟩ := F (.inl (ndf h4))
    refine ⟨fun _ => ⟨fun _ => ⟨fun _ => ⟨fun _ => ⟨fun g1 => ⟨fun g2 => ⟨fun _ => ⟨fun _ => yes rfl, fun h => ?_⟩, fun h => absurd h (by decide)⟩, fun g2 => ?_⟩, fun g1 => ⟨fun g2 => ?_, fun g2 => ⟨fun _ => ⟨fun _ => yes rfl, fun h => ?_⟩, fun h => absurd h (by decide)⟩⟩⟩, fun h => absurd (f4.symm.trans h) (by decide)⟩, fun h => absurd (f3.symm.trans h) (by decide)⟩, fun h => absurd f2 (df h)⟩, fun h => ?_⟩
    · rw [f6] at h; simp at h
    · rw [← f5, g1] at g2; cases g2
    · rw [← f5, g1] at g2; cases g2
    · rw [f6] at h; simp at h
    · rw [f1] at h; simp at h
theorem forgets_con {x0 x1 x2 x3 : List PV} (e0 : FitAll x0 cP) (e1 : FitAll x1 cState) (e2 : FitAll x2 cState) (e3 : FitAll x3 cInput) :
    ACall Try.prog 5 [.agg (x0.map .p), .agg (x1.map .p), .agg (x2.map .p), .agg (x3.map .p)] [] (bools true) [] := by
  obtain ⟨p, hp, okp⟩ := fit_P e0
  obtain ⟨a, ha, oka⟩ := fit_state e1
  obtain ⟨b, hb, okb⟩ := fit_state e2
  obtain ⟨x, rfl, okx⟩ := fit_input e3
  rw [hp, ha, hb]
  exact forgets_0 p a b x
end Go.Proofs.Ytlkphnhlibpngaa.Abs
