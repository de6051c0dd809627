/- Plain laws, part 4: GateForgets: what is fused hangs on what is heard alone. -/
import Derived.Test.YtlkphnhlibpngaaPure1
set_option linter.unusedVariables false
set_option linter.unusedSimpArgs false
namespace Go.Proofs.Ytlkphnhlibpngaa.Abs
open Go

theorem clip_lo (x : Int) : -2305843009213693952 ≤ Clip x := by
  simp only [Clip, Bound, Most]; repeat' split
  all_goals omega
theorem clip_hi (x : Int) : Clip x ≤ 2305843009213693952 := by
  simp only [Clip, Bound, Most]; repeat' split
  all_goals omega
theorem clip_mono {x y : Int} (h : x ≤ y) : Clip x ≤ Clip y := by
  simp only [Clip, Bound, Most]; repeat' split
  all_goals omega
theorem bound_pos {x : Int} (h : 1 ≤ x) : 1 ≤ Bound x 0 1073741824 := by
  simp only [Bound]; repeat' split
  all_goals omega
theorem more_pos {h : Int} (h1 : 0 ≤ h) (h2 : h ≤ 1073741824) : 1 ≤ More h := by
  unfold More
  rw [add2 (by omega) (by omega) (by omega) (by omega) (by omega) (by omega)]
  exact bound_pos (by omega)
theorem sane_held (p : Params) (s : State) : 0 ≤ (Sane p s).held ∧ (Sane p s).held ≤ 1073741824 := by
  have : (Sane p s).held = Bound s.held 0 1073741824 := rfl
  rw [this]
  constructor <;> (simp only [Bound]; repeat' split) <;> omega
theorem step_good {p : Params} {s next : State} {t : Int} : (StampF (StepF p s t next)).good = (Sane p next).good := by
  have : (StepF p s t next).good = (Sane p next).good := by
    unfold StepF StepC StepB StepA
    split <;> rfl
  unfold StampF
  exact this
theorem stampF_span (s : State) : (StampF s).span = s.span := rfl

theorem beat_unfused {p : Params} {me : Int} {s : State} {x : Input} (h : (FuseF p.f (SpansB p me x)).2 = false) : (BeatS p me (Sane p s) x).held ≠ 0 := by
  have e : (NextC p (Sane p s) x (SpansB p me x)).held = More (Sane p s).held := by
    unfold NextC NextB NextA
    rw [h]
    split <;> rfl
  unfold BeatS StepG
  rw [step_held, e]
  have := bound_pos (more_pos (sane_held p s).1 (sane_held p s).2)
  omega
theorem beat_fused {p : Params} {me : Int} {s : State} {x : Input} (h : (FuseF p.f (SpansB p me x)).2 = true) :
    (BeatS p me (Sane p s) x).held = 0 ∧ (BeatS p me (Sane p s) x).good = true ∧ (BeatM p me (Sane p s) x).span = (FuseF p.f (SpansB p me x)).1 := by
  have e : (NextC p (Sane p s) x (SpansB p me x)).span = (FuseF p.f (SpansB p me x)).1 ∧ (NextC p (Sane p s) x (SpansB p me x)).held = 0 ∧ (NextC p (Sane p s) x (SpansB p me x)).good = true := by
    unfold NextC NextB
    rw [h]
    split <;> exact ⟨rfl, rfl, rfl⟩
  obtain ⟨e1, e2, e3⟩ := e
  obtain ⟨f0, f1, f2⟩ : (FuseF p.f (SpansB p me x)).1.lo ≤ (FuseF p.f (SpansB p me x)).1.hi ∧ -2305843009213693952 ≤ (FuseF p.f (SpansB p me x)).1.lo ∧ (FuseF p.f (SpansB p me x)).1.hi ≤ 2305843009213693952 := by
    unfold FuseF at h ⊢
    split
    · rename_i hh; rw [if_pos hh] at h; cases h
    · rename_i hh
      rw [if_neg hh] at h
      split
      · rename_i h2; rw [if_pos h2] at h; cases h
      · rename_i h2
        exact ⟨clip_mono (by omega), clip_lo _, clip_hi _⟩
  have hs := step_span (p := p) (s := Sane p s) (next := NextC p (Sane p s) x (SpansB p me x)) (t := x.ticks) (by rw [e1]; exact f0) (by rw [e1]; exact f1) (by rw [e1]; exact f2)
  have hg := (sane_span (p := p) (s := NextC p (Sane p s) x (SpansB p me x)) (by rw [e1]; exact f0) (by rw [e1]; exact f1) (by rw [e1]; exact f2)).2
  refine ⟨?_, ?_, ?_⟩
  · unfold BeatS StepG
    rw [step_held, e2]; decide
  · unfold BeatS StepG
    rw [step_good, hg, e3]
  · rw [← e1, ← hs]
    rfl
theorem forgets_pure {p : Params} {a b : State} {x : Input} (h : (BeatS p 0 (Sane p a) x).held = 0 ∨ (BeatS p 0 (Sane p b) x).held = 0) :
    (BeatM p 0 (Sane p a) x).span = (BeatM p 0 (Sane p b) x).span ∧ (BeatS p 0 (Sane p a) x).held = (BeatS p 0 (Sane p b) x).held ∧ (BeatS p 0 (Sane p a) x).good = true ∧ (BeatS p 0 (Sane p b) x).good = true ∧
      (BeatM p 0 (Sane p a) x).ref = (BeatM p 0 (Sane p b) x).ref ∧ (BeatM p 0 (Sane p a) x).seen = (BeatM p 0 (Sane p b) x).seen := by
  cases hf : (FuseF p.f (SpansB p 0 x)).2 with
  | false => rcases h with h | h <;> exact absurd h (beat_unfused hf)
  | true =>
    obtain ⟨a1, a2, a3⟩ := beat_fused (s := a) hf
    obtain ⟨b1, b2, b3⟩ := beat_fused (s := b) hf
    exact ⟨a3.trans b3.symm, a1.trans b1.symm, a2, b2, rfl, rfl⟩
end Go.Proofs.Ytlkphnhlibpngaa.Abs
