/- Plain laws, part 3: GateHolds. -/
import Derived.Test.YtlkphnhlibpngaaPure2
set_option linter.unusedVariables false
set_option linter.unusedSimpArgs false
namespace Go.Proofs.Ytlkphnhlibpngaa.Abs
open Go

theorem firsts_append (p : Params) (me : Int) : ∀ (l out : List Heard), ∃ y : List Heard, Firsts p me out l = out ++ y ∧ y.length ≤ l.length
  | [], out => ⟨[], by simp [Firsts], by simp⟩
  | h :: l, out => by
    unfold Firsts
    split
    · obtain ⟨y, h1, h2⟩ := firsts_append p me l (out ++ [h])
      exact ⟨h :: y, by rw [h1, List.append_assoc]; rfl, by simp; omega⟩
    · obtain ⟨y, h1, h2⟩ := firsts_append p me l out
      exact ⟨y, h1, by simp; omega⟩
theorem firsts_told (p : Params) (now : Int) (l2 : List Heard) (hn : p.n ≤ 16) : ∀ (xs : List TRow) (j : Nat) (out : List Heard), 1 ≤ j → (j : Int) + xs.length ≤ p.n → (∀ o ∈ out, o.msg.frm < j) →
    Firsts p 0 out (toldsH p now j xs ++ l2) = Firsts p 0 (out ++ toldsH p now j xs) l2
  | [], j, out, _, _, _ => by simp [toldsH]
  | x :: xs, j, out, hj, hl, ho => by
    have hl' : (j : Int) + (xs.length + 1) ≤ p.n := by simpa using hl
    have hany : (out.any fun y => decide (y.msg.frm = (j : Int))) = false := by
      rw [List.any_eq_false]
      intro o hoo
      have := ho o hoo
      simp; omega
    have hmn : (j : Int) < mn p.n 16 := by unfold mn; split <;> omega
    have ht : Takes p 0 out (tH p now j x) = true := by
      have e1 : (tH p now j x).msg.kind = 1 := rfl
      have e2 : (tH p now j x).msg.frm = (j : Int) := rfl
      unfold Takes
      rw [e1, e2, hany, decide_eq_true (p := (0 : Int) ≤ j) (by omega), decide_eq_true hmn, decide_eq_false (p := (j : Int) = 0) (by omega)]
      rfl
    simp only [toldsH, List.cons_append]
    rw [Firsts, if_pos ht]
    rw [firsts_told p now l2 hn xs (j + 1) (out ++ [tH p now j x]) (by omega) (by push_cast; omega) (fun o hoo => by
      rcases List.mem_append.1 hoo with h | h
      · have := ho o h; push_cast; omega
      · simp at h; subst h; show ((j : Nat) : Int) < _; push_cast; omega)]
    rw [List.append_assoc]; rfl
theorem spansOf_append (p : Params) (a b : List Heard) : spansOf p (a ++ b) = spansOf p a ++ spansOf p b := by simp [spansOf]
theorem spansOf_perm (p : Params) {a b : List Heard} (h : a.Perm b) : (spansOf p a).Perm (spansOf p b) := (h.filter _).map _
theorem hop_eq {p : Params} (P : Fit p) : Hop p = p.jitter + 2 * p.rho := by
  obtain ⟨n1, n2, f1, f2, d1, d2, b1, b2, r1, r2, w1, w2, j1, j2, _⟩ := P
  unfold Hop
  rw [mul2 (by omega) r1 (by omega) (by omega) (by omega), add2 (by omega) (by omega) (by omega) (by omega) (by omega) (by omega)]
theorem way_eq {p : Params} (P : Fit p) {s : Span} {age : Int} (h1 : -4503599627370496 ≤ s.lo) (h2 : s.lo ≤ 4503599627370496) (h3 : -4503599627370496 ≤ s.hi) (h4 : s.hi ≤ 4503599627370496) (h5 : -4503599627370496 ≤ age) (h6 : age ≤ 4503599627370496) :
    Way p s age = ⟨s.lo + (p.delay - p.jitter + age - p.rho), s.hi + (p.delay + age + p.rho)⟩ := by
  obtain ⟨n1, n2, f1, f2, d1, d2, b1, b2, r1, r2, w1, w2, j1, j2, _⟩ := P
  unfold Way Shift
  rw [sub2 (by omega) (by omega) (by omega) (by omega) (by omega) (by omega), neg1 (by omega) (by omega), add3 (by omega) (by omega) (by omega) (by omega) (by omega) (by omega), add3 (by omega) (by omega) (by omega) (by omega) (by omega) (by omega)]
  rw [add2 (by omega) (by omega) (by omega) (by omega) (by omega) (by omega), add2 (by omega) (by omega) (by omega) (by omega) (by omega) (by omega)]
  congr 1 <;> omega
/-- As good as a right one. -/
def goodT (p : Params) (t : Int) (s : Span) : Bool := decide (s.lo ≤ t ∧ t ≤ s.hi ∧ s.hi - s.lo ≤ 2 * p.eps + (p.jitter + 2 * p.rho) ∧ -4503599627370496 ≤ s.lo ∧ s.hi ≤ 4503599627370496)
theorem told_good {p : Params} (P : Fit p) {now : Int} (hn1 : -1125899906842624 ≤ now) (hn2 : now ≤ 1125899906842624) {j : Nat} {x : TRow} (hx : OkT p x) : goodT p (now + p.beat) (Way p (tH p now j x).msg.seen (tH p now j x).age) = true := by
  have P' := P
  obtain ⟨n1, n2, f1, f2, d1, d2, b1, b2, r1, r2, w1, w2, j1, j2, e1, e2, _⟩ := P'
  obtain ⟨g1, g2, g3, g4, g5, g6⟩ := hx
  have hs : (tH p now j x).msg.seen = ⟨now + x.err - p.eps, now + x.err + p.eps⟩ := by
    simp only [tH]
    rw [w64_id (n := now + x.err) (by omega) (by omega), w64_id (by omega) (by omega), w64_id (by omega) (by omega)]
  have ha : (tH p now j x).age = p.beat - x.way + x.off := by
    simp only [tH]
    rw [w64_id (n := p.beat - x.way) (by omega) (by omega), w64_id (by omega) (by omega)]
  rw [hs, ha, way_eq P (by simp only; omega) (by simp only; omega) (by simp only; omega) (by simp only; omega) (by omega) (by omega)]
  unfold goodT
  apply decide_eq_true
  simp only
  omega
theorem told_spans {p : Params} (P : Fit p) {now : Int} (hn1 : -1125899906842624 ≤ now) (hn2 : now ≤ 1125899906842624) : ∀ (xs : List TRow) (j : Nat), (∀ x ∈ xs, OkT p x) → (spansOf p (toldsH p now j xs)).length = xs.length ∧ ∀ s ∈ spansOf p (toldsH p now j xs), goodT p (now + p.beat) s = true
  | [], j, _ => by simp [toldsH, spansOf]
  | x :: xs, j, h => by
    obtain ⟨h1, h2⟩ := told_spans P hn1 hn2 xs (j + 1) (fun y hy => h y (by simp [hy]))
    have e : spansOf p (toldsH p now j (x :: xs)) = Way p (tH p now j x).msg.seen (tH p now j x).age :: spansOf p (toldsH p now (j + 1) xs) := by
      simp [toldsH, spansOf, tH]
    rw [e]
    refine ⟨by simp [h1], fun s hs => ?_⟩
    rcases List.mem_cons.1 hs with rfl | hs
    · exact told_good P hn1 hn2 (h x (by simp))
    · exact h2 s hs
theorem countP_all {l : List Span} {g : Span → Bool} (h : ∀ s ∈ l, g s = true) : l.countP g = l.length := List.countP_eq_length.2 h
theorem mid_in {L H : Int} (h0 : L ≤ H) (h1 : -4503599627370496 ≤ L) (h2 : H ≤ 4503599627370496) : L ≤ Clip (Mid ⟨L, H⟩) ∧ Clip (Mid ⟨L, H⟩) ≤ H := by
  have e : Mid ⟨L, H⟩ = (L + H) / 2 := by
    unfold Mid
    show (Clip L + Clip H).fdiv 2 = _
    rw [clip' (by omega) (by omega), clip' (by omega) (by omega), Int.fdiv_eq_ediv_of_nonneg _ (by omega)]
  rw [e, clip' (by omega) (by omega)]
  omega
theorem holds_pure {p : Params} {s : State} {now err : Int} {x0 : TRow} {xs : List TRow} {lies : List Heard} (hc : Check p = 0) (hn1 : -1125899906842624 ≤ now) (hn2 : now ≤ 1125899906842624) (hl : ((x0 :: xs).length : Int) = p.n - p.f) (hlies : (lies.length : Int) ≤ p.f)
    (he1 : -p.rho ≤ err) (he2 : err ≤ p.rho) (hok : ∀ x ∈ x0 :: xs, OkT p x) {x : Input} (hx : x = ⟨w64 (p.beat + err), toldsH p now 1 xs ++ liesH (x0 :: xs).length 0 lies, true, w64 (w64 (now + p.beat) + x0.err), false, []⟩) :
    let st := BeatS p 0 (Sane p s) x
    let m := BeatM p 0 (Sane p s) x
    st.span.lo ≤ w64 (now + p.beat) ∧ w64 (now + p.beat) ≤ st.span.hi ∧ w64 (st.span.hi - st.span.lo) ≤ w64 (w64 (2 * p.eps) + Hop p) ∧ st.held = 0 ∧ Of p st = 1 ∧ m.span = st.span ∧ m.ref = true ∧ (Of p (Sane p s) = 0 → st.span.lo ≤ st.time ∧ st.time ≤ st.span.hi) := by
  have P := check_fit hc
  have P' := P
  obtain ⟨n1, n2, f1, f2, d1, d2, b1, b2, r1, r2, w1, w2, j1, j2, e1, e2, m1, m2, h1, h2, _⟩ := P'
  have hl' : ((xs.length : Nat) : Int) + 1 = p.n - p.f := by simpa using hl
  have ok0 := hok x0 (by simp)
  obtain ⟨g1, g2, _⟩ := ok0
  have hthen : w64 (now + p.beat) = now + p.beat := w64_id (by omega) (by omega)
  have hread : w64 (w64 (now + p.beat) + x0.err) = now + p.beat + x0.err := by rw [hthen]; exact w64_id (by omega) (by omega)
  rw [hread] at hx
  have hw : w64 (p.beat + err) = p.beat + err := w64_id (by omega) (by omega)
  rw [hw] at hx
  have hSeen : Seen p x.reading = (⟨now + p.beat + x0.err - p.eps, now + p.beat + x0.err + p.eps⟩, true) := by
    rw [hx]
    unfold Seen
    rw [if_neg (by simp; omega)]
    simp only
    rw [sub2 (by omega) (by omega) (by omega) (by omega) (by omega) (by omega), add2 (by omega) (by omega) (by omega) (by omega) (by omega) (by omega)]
  have hRead : ReadB p x = true := by unfold ReadB; rw [hSeen, hx]; rfl
  obtain ⟨y, hy, hyl⟩ := firsts_append p 0 (liesH (x0 :: xs).length 0 lies) ([] ++ toldsH p now 1 xs)
  rw [liesH_length] at hyl
  have hTold : (Told p 0 x.heard).Perm (toldsH p now 1 xs ++ y) := by
    unfold Told
    refine (sortBy_perm hlt _).trans ?_
    have : x.heard = toldsH p now 1 xs ++ liesH (x0 :: xs).length 0 lies := by rw [hx]
    rw [this, firsts_told p now _ (by omega) xs 1 [] (Nat.le_refl _) (by omega) (by simp), hy]
    simp
  have hspans := (spansOf_perm p hTold)
  rw [spansOf_append] at hspans
  obtain ⟨t1, t2⟩ := told_spans P hn1 hn2 xs 1 (fun z hz => hok z (by simp [hz]))
  have hSp : SpansB p 0 x = (Seen p x.reading).1 :: spansOf p (Told p 0 x.heard) := by simp [SpansB, hRead]
  have hseen0 : goodT p (now + p.beat) (Seen p x.reading).1 = true := by
    rw [hSeen]
    unfold goodT
    apply decide_eq_true
    simp only
    omega
  have hspy := spans_le p y
  have hgood : (SpansB p 0 x).countP (goodT p (now + p.beat)) ≥ xs.length + 1 := by
    rw [hSp, List.countP_cons, if_pos hseen0, hspans.countP_eq, List.countP_append, countP_all t2, t1]
    omega
  have hbad : (SpansB p 0 x).countP (fun s => !goodT p (now + p.beat) s) ≤ lies.length := by
    rw [hSp, List.countP_cons, if_neg (by simp [hseen0]), hspans.countP_eq, List.countP_append]
    have z1 : (spansOf p (toldsH p now 1 xs)).countP (fun s => !goodT p (now + p.beat) s) = 0 := List.countP_eq_zero.2 fun s hs => by simp [t2 s hs]
    have z2 : (spansOf p y).countP (fun s => !goodT p (now + p.beat) s) ≤ (spansOf p y).length := List.countP_le_length
    omega
  obtain ⟨S, hS, s1, s2, s3, s4, s5⟩ := fuse_spec (f := p.f) (l := SpansB p 0 x) (good := goodT p (now + p.beat)) (t := now + p.beat) (w := 2 * p.eps + (p.jitter + 2 * p.rho)) (a := -4503599627370496) (b := 4503599627370496) f1 (by omega) (by omega)
    (fun s hs hg => by unfold goodT at hg; exact of_decide_eq_true hg) (by unfold Most; omega) (by unfold Most; omega)
  have hN : NextC p (Sane p s) x (SpansB p 0 x) = { NextA p (Sane p s) x with span := S, held := 0, good := true } := by
    have hgv : x.given = false := by rw [hx]
    simp only [NextC, NextB, hS, hgv, if_true, Bool.false_eq_true, if_false]
  intro st m
  have hst : st = StampF (StepF p (Sane p s) x.ticks { NextA p (Sane p s) x with span := S, held := 0, good := true }) := by
    show BeatS _ _ _ _ = _
    rw [BeatS, StepG, hN]
  have hspan : st.span = S := by rw [hst]; exact step_span (by show S.lo ≤ S.hi; omega) (by show _ ≤ S.lo; omega) (by show S.hi ≤ _; omega)
  have hheld : st.held = 0 := by rw [hst, step_held]; exact bound_id (Int.le_refl _) (by show (0 : Int) ≤ 1073741824; decide)
  have hhops : st.hops = 0 := by
    rw [hst, step_hops, add2 (by omega) (by omega) (by omega) (by omega) (by omega) (by omega)]
    exact bound_id (Int.le_refl _) (by show 0 ≤ p.d + 1; omega)
  have hgd : st.good = true := by
    rw [hst]
    have : (StepF p (Sane p s) x.ticks { NextA p (Sane p s) x with span := S, held := 0, good := true }).good = (Sane p { NextA p (Sane p s) x with span := S, held := 0, good := true }).good := by
      unfold StepF StepC StepB StepA
      split <;> rfl
    unfold StampF
    exact this.trans (sane_span (by show S.lo ≤ S.hi; omega) (by show _ ≤ S.lo; omega) (by show S.hi ≤ _; omega)).2
  have hset : st.set = true := by
    rw [hst]
    unfold StampF StepF StepC StepB StepA
    split <;> rfl
  have htime : st.time = Ct p (Sane p s) x.ticks { NextA p (Sane p s) x with span := S, held := 0, good := true } := by
    rw [hst]
    unfold StampF StepF StepC StepB StepA
    split <;> rfl
  have hmspan : m.span = st.span := by
    show (BeatM _ _ _ _).span = (BeatS _ _ _ _).span
    rfl
  rw [hspan]
  refine ⟨by rw [hthen]; exact s1, by rw [hthen]; exact s2, ?_, hheld, ?_, hmspan.trans hspan, ?_, fun h0 => ?_⟩
  · rw [w64_id (n := S.hi - S.lo) (by omega) (by omega), hop_eq P, w64_id (n := 2 * p.eps) (by omega) (by omega), w64_id (by omega) (by omega)]
    exact s3
  · unfold Of
    rw [hgd, hset, hhops, hheld, if_neg (by simp; omega), if_neg (by omega)]
  · show (BeatM _ _ _ _).ref = true
    exact hRead
  · rw [htime]
    have hj : Jump p (Sane p s) x.ticks { NextA p (Sane p s) x with span := S, held := 0, good := true } = true := by
      unfold Jump
      rw [decide_eq_true h0, Bool.true_or]
    unfold Ct Slew
    rw [hj, if_pos (by simp)]
    exact mid_in (by omega) s4 s5
end Go.Proofs.Ytlkphnhlibpngaa.Abs
