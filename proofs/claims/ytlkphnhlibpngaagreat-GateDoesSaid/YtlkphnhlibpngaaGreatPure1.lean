/- Plain laws, part 1: what numbers a fabric may have; a gate that fuses nothing. -/
import Derived.Test.YtlkphnhlibpngaaGreatSpec
set_option linter.unusedVariables false
set_option linter.unusedSimpArgs false
namespace Go.Proofs.YtlkphnhlibpngaaGreat.Abs
open Go

structure Fit (p : Params) : Prop where
  n1 : 1 ≤ p.n
  n2 : p.n ≤ 16
  f1 : 0 ≤ p.f
  f2 : 3 * p.f ≤ p.n - 1
  d1 : 0 ≤ p.d
  d2 : p.d ≤ 16
  b1 : 1 ≤ p.beat
  b2 : p.beat ≤ 1099511627776
  r1 : 0 ≤ p.rho
  r2 : 8 * p.rho ≤ p.beat
  w1 : 0 ≤ p.delay
  w2 : 2 * p.delay ≤ p.beat
  j1 : 0 ≤ p.jitter
  j2 : p.jitter ≤ p.delay
  e1 : 0 ≤ p.eps
  e2 : p.eps ≤ 1099511627776
  m1 : p.rho + 1 ≤ p.mu
  m2 : 4 * p.mu ≤ p.beat
  h1 : p.d + 2 ≤ p.hold
  h2 : p.hold ≤ 1048576
  p1 : 1 ≤ p.pulse
  p2 : p.pulse ≤ 1099511627776
  s1 : 1 ≤ p.second
  s2 : p.second ≤ 1099511627776
theorem w64_id {n : Int} (h1 : -9223372036854775808 ≤ n) (h2 : n ≤ 9223372036854775807) : w64 n = n := wrap_id h1 h2
theorem tdiv_pos {a b : Int} (ha : 0 ≤ a) : a.tdiv b = a / b := Int.tdiv_eq_ediv_of_nonneg ha
theorem In_iff {x lo hi : Int} : In x lo hi = true ↔ lo ≤ x ∧ x ≤ hi := by simp [In]
theorem check_fit {p : Params} (h : Check p = 0) : Fit p := by
  unfold Check at h
  split at h
  case isFalse => exact absurd h (by decide)
  rename_i hc
  simp only [Bool.and_eq_true, Nodes, Ways, In_iff] at hc
  obtain ⟨⟨⟨a1, a2⟩, ⟨a3, a4⟩, a5, a6⟩, ⟨⟨a7, a8⟩, ⟨a9, a10⟩, ⟨a11, a12⟩, a13, a14⟩, ⟨a15, a16⟩, ⟨a17, a18⟩, ⟨a19, a20⟩, ⟨a21, a22⟩, a23, a24⟩ := hc
  rw [w64_id (n := p.n - 1) (by omega) (by omega), tdiv_pos (by omega), w64_id (by omega) (by omega)] at a4
  rw [tdiv_pos (by omega), w64_id (by omega) (by omega)] at a10
  rw [tdiv_pos (by omega), w64_id (by omega) (by omega)] at a12
  rw [w64_id (by omega) (by omega)] at a17
  rw [tdiv_pos (by omega), w64_id (by omega) (by omega)] at a18
  rw [w64_id (by omega) (by omega)] at a19
  constructor <;> omega

theorem clip' {x : Int} (h1 : -2305843009213693952 ≤ x) (h2 : x ≤ 2305843009213693952) : Clip x = x := clip_id h1 h2
theorem add2 {a b : Int} (ha1 : -2305843009213693952 ≤ a) (ha2 : a ≤ 2305843009213693952) (hb1 : -2305843009213693952 ≤ b) (hb2 : b ≤ 2305843009213693952) (h1 : -2305843009213693952 ≤ a + b) (h2 : a + b ≤ 2305843009213693952) : Add [a, b] = a + b := by
  simp only [Add, List.foldl_cons, List.foldl_nil, Int.zero_add]
  rw [clip' ha1 ha2, clip' hb1 hb2, clip' ha1 ha2, clip' h1 h2]
theorem sub2 {a b : Int} (ha1 : -2305843009213693952 ≤ a) (ha2 : a ≤ 2305843009213693952) (hb1 : -2305843009213693952 ≤ b) (hb2 : b ≤ 2305843009213693952) (h1 : -2305843009213693952 ≤ a - b) (h2 : a - b ≤ 2305843009213693952) : Sub a b = a - b := by
  simp only [Sub]
  rw [clip' ha1 ha2, clip' hb1 hb2, clip' h1 h2]
theorem neg1 {a : Int} (ha1 : -2305843009213693952 ≤ a) (ha2 : a ≤ 2305843009213693952) : Neg a = -a := by rw [Neg, clip' ha1 ha2]
theorem add3 {a b c : Int} (ha1 : -1152921504606846976 ≤ a) (ha2 : a ≤ 1152921504606846976) (hb1 : -576460752303423488 ≤ b) (hb2 : b ≤ 576460752303423488) (hc1 : -576460752303423488 ≤ c) (hc2 : c ≤ 576460752303423488) : Add [a, b, c] = a + b + c := by
  simp only [Add, List.foldl_cons, List.foldl_nil, Int.zero_add]
  rw [clip' (x := a) (by omega) (by omega), clip' (x := b) (by omega) (by omega), clip' (x := c) (by omega) (by omega), clip' (x := a) (by omega) (by omega), clip' (x := a + b) (by omega) (by omega), clip' (by omega) (by omega)]
theorem mul2 {a b : Int} (ha : 0 ≤ a) (hb : 0 ≤ b) (h : a * b ≤ 2305843009213693952) (ha2 : a ≤ 2305843009213693952) (hb2 : b ≤ 2305843009213693952) : Mul a b = a * b := by
  have e1 : Abs a = a := by rw [Abs, if_neg (by omega), clip' (by omega) ha2]
  have e2 : Abs b = b := by rw [Abs, if_neg (by omega), clip' (by omega) hb2]
  have h1 : decide (a < 0) = false := decide_eq_false (by omega)
  have h2 : decide (b < 0) = false := decide_eq_false (by omega)
  unfold Mul
  simp only [e1, e2, h1, h2, bne_self_eq_false, Bool.false_eq_true, if_false]
  rw [if_pos]
  by_cases h0 : a = 0
  · exact .inl h0
  · right
    rw [tdiv_pos (by unfold Most; omega)]
    exact (Int.le_ediv_iff_mul_le (by omega)).2 (by rw [Int.mul_comm]; exact h)

/-! a span that can be -/
theorem sane_span {p : Params} {s : State} (h0 : s.span.lo ≤ s.span.hi) (h1 : -2305843009213693952 ≤ s.span.lo) (h2 : s.span.hi ≤ 2305843009213693952) : (Sane p s).span = s.span ∧ (Sane p s).good = s.good := by
  have e : SpanOf s.span.lo s.span.hi = s.span := by
    unfold SpanOf
    rw [clip' (by omega) (by omega), clip' (by omega) (by omega)]
  have e2 : Empty s.span = false := by unfold Empty; exact decide_eq_false (by omega)
  constructor
  · simp only [Sane, e, e2, Bool.false_eq_true, if_false]
  · simp only [Sane, e, e2, Bool.false_eq_true, if_false]
theorem step_span {p : Params} {s next : State} {t : Int} (h0 : next.span.lo ≤ next.span.hi) (h1 : -2305843009213693952 ≤ next.span.lo) (h2 : next.span.hi ≤ 2305843009213693952) : (StampF (StepF p s t next)).span = next.span := by
  have e := (sane_span (p := p) h0 h1 h2).1
  have : (StepF p s t next).span = (Sane p next).span := by
    unfold StepF StepC StepB StepA
    split <;> rfl
  unfold StampF
  rw [← e, ← this]
theorem step_held {p : Params} {s next : State} {t : Int} : (StampF (StepF p s t next)).held = Bound next.held 0 1073741824 := by
  have : (StepF p s t next).held = (Sane p next).held := by
    unfold StepF StepC StepB StepA
    split <;> rfl
  unfold StampF
  exact this
theorem step_hops {p : Params} {s next : State} {t : Int} : (StampF (StepF p s t next)).hops = Bound next.hops 0 (Add [p.d, 1]) := by
  have : (StepF p s t next).hops = (Sane p next).hops := by
    unfold StepF StepC StepB StepA
    split <;> rfl
  unfold StampF
  exact this

/-! GateWaits -/
theorem told_le (p : Params) (me : Int) (l : List Heard) : (Told p me l).length ≤ l.length := by
  unfold Told
  rw [(sortBy_perm hlt _).length_eq]
  have : ∀ (l out : List Heard), (Firsts p me out l).length ≤ out.length + l.length := by
    intro l
    induction l with
    | nil => intro out; simp [Firsts]
    | cons h l ih =>
      intro out
      unfold Firsts
      have := ih (if Takes p me out h = true then out ++ [h] else out)
      split at this
      · rename_i ht; rw [if_pos ht]; simp at this ⊢; omega
      · rename_i ht; rw [if_neg ht]; simp at this ⊢; omega
  simpa using this l []
theorem spans_le (p : Params) (l : List Heard) : (spansOf p l).length ≤ l.length := by
  unfold spansOf; rw [List.length_map]; exact List.length_filter_le _ _
theorem waits_pure {p : Params} {s : State} {now err : Int} {lies : List Heard} (hc : Check p = 0) (hn1 : -1125899906842624 ≤ now) (hn2 : now ≤ 1125899906842624) (hl : (lies.length : Int) ≤ 2 * p.f) (he1 : -p.rho ≤ err) (he2 : err ≤ p.rho) (hh1 : 0 ≤ s.held) (hh2 : s.held ≤ 1048576)
    (hs1 : s.span.lo ≤ now) (hs2 : now ≤ s.span.hi) (hs3 : -36028797018963968 ≤ s.span.lo) (hs4 : s.span.hi ≤ 36028797018963968) (me : Int) :
    let st := BeatS p me (Sane p s) ⟨w64 (p.beat + err), lies, false, 0, false, []⟩
    st.span.lo ≤ w64 (now + p.beat) ∧ w64 (now + p.beat) ≤ st.span.hi ∧ w64 (st.span.hi - st.span.lo) = w64 (w64 (s.span.hi - s.span.lo) + w64 (2 * p.rho)) ∧ st.held = w64 (s.held + 1) ∧ st.hops = 0 := by
  have P := check_fit hc
  obtain ⟨n1, n2, f1, f2, d1, d2, b1, b2, r1, r2, _⟩ := P
  have hx : SpansB p me ⟨w64 (p.beat + err), lies, false, 0, false, []⟩ = spansOf p (Told p me lies) := by
    simp [SpansB, ReadB]
  have hlen : (((spansOf p (Told p me lies)).length : Nat) : Int) ≤ 2 * p.f := by
    have h1 := spans_le p (Told p me lies)
    have h2 := told_le p me lies
    omega
  have hf : FuseF p.f (spansOf p (Told p me lies)) = (⟨0, 0⟩, false) := by
    have : FewF p.f (spansOf p (Told p me lies)).length = true := by
      unfold FewF
      simp only [Bool.or_eq_true, decide_eq_true_eq]
      omega
    simp only [FuseF, this, if_true]
  have hss := (sane_span (p := p) (s := s) (by omega) (by omega) (by omega)).1
  have hw : w64 (p.beat + err) = p.beat + err := w64_id (by omega) (by omega)
  have hsh : (Sane p s).held = s.held := bound_id hh1 (by omega)
  have hN : NextC p (Sane p s) ⟨w64 (p.beat + err), lies, false, 0, false, []⟩ (spansOf p (Told p me lies)) = { Sane p s with span := Hold p s.span (p.beat + err), held := More s.held, hops := 0 } := by
    simp only [NextC, NextB, NextA, hf, Bool.false_eq_true, if_false, hss, hw, hsh]
  have hH : Hold p s.span (p.beat + err) = ⟨s.span.lo + (p.beat + err - p.rho), s.span.hi + (p.beat + err + p.rho)⟩ := by
    unfold Hold Shift
    rw [sub2 (by omega) (by omega) (by omega) (by omega) (by omega) (by omega), add2 (a := p.beat + err) (by omega) (by omega) (by omega) (by omega) (by omega) (by omega)]
    rw [add2 (by omega) (by omega) (by omega) (by omega) (by omega) (by omega), add2 (by omega) (by omega) (by omega) (by omega) (by omega) (by omega)]
  have hM : More s.held = s.held + 1 := by
    unfold More
    rw [add2 (by omega) (by omega) (by omega) (by omega) (by omega) (by omega)]
    exact bound_id (by omega) (by omega)
  intro st
  have hst : st = StampF (StepF p (Sane p s) (p.beat + err) { Sane p s with span := ⟨s.span.lo + (p.beat + err - p.rho), s.span.hi + (p.beat + err + p.rho)⟩, held := s.held + 1, hops := 0 }) := by
    show BeatS _ _ _ _ = _
    rw [BeatS, StepG, hx, hN, hH, hM, hw]
  have e1 : st.span = ⟨s.span.lo + (p.beat + err - p.rho), s.span.hi + (p.beat + err + p.rho)⟩ := by
    rw [hst]; exact step_span (by show s.span.lo + _ ≤ s.span.hi + _; omega) (by show _ ≤ s.span.lo + _; omega) (by show s.span.hi + _ ≤ _; omega)
  have e2 : st.held = s.held + 1 := by rw [hst, step_held]; exact bound_id (by show 0 ≤ s.held + 1; omega) (by show s.held + 1 ≤ _; omega)
  have e3 : st.hops = 0 := by
    rw [hst, step_hops, add2 (by omega) (by omega) (by omega) (by omega) (by omega) (by omega)]
    exact bound_id (Int.le_refl _) (by show 0 ≤ p.d + 1; omega)
  rw [e1, e2, e3]
  rw [w64_id (n := now + p.beat) (by omega) (by omega), w64_id (n := s.span.hi - s.span.lo) (by omega) (by omega), w64_id (n := 2 * p.rho) (by omega) (by omega), w64_id (n := s.held + 1) (by omega) (by omega)]
  rw [w64_id (by simp only; omega) (by simp only; omega), w64_id (by omega) (by omega)]
  refine ⟨?_, ?_, ?_, rfl, rfl⟩ <;> simp only <;> omega
end Go.Proofs.YtlkphnhlibpngaaGreat.Abs
