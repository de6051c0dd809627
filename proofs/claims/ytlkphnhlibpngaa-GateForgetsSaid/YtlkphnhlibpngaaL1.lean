/- GateWaits: the walk. -/
import Derived.Test.YtlkphnhlibpngaaC10
import Derived.Test.YtlkphnhlibpngaaPure1
import Derived.Test.YtlkphnhlibpngaaShapes
set_option linter.unusedVariables false
set_option linter.unusedSimpArgs false
set_option maxRecDepth 100000
namespace Go.Proofs.Ytlkphnhlibpngaa.Abs
open Go

theorem le_input {t r : Int} {hs tb' : PV} {h : List Heard} {g : Bool} (hh : (AV.p hs).le (.p (hd h))) (ht : (AV.p tb').le (.p (tb []))) (rf : Bool) : (AV.agg [i t, .p hs, bools rf, i r, bools g, .p tb']).le (.agg (eInput ⟨t, h, rf, r, g, []⟩)) :=
  AV.le.agg (.cons (.refl _) (.cons hh (.cons (.refl _) (.cons (.refl _) (.cons (.refl _) (.cons ht .nil))))))
/-- The heard alone. -/
theorem le_heard (h : List Heard) (t b : Bool) : (AV.p (.list 6 true [[iv 0, .list 15 t (h.map rHeard), bv b, iv 0, bv false, .list 0 true []]])).le (.p (.list 6 true ([(⟨0, h, b, 0, false, []⟩ : Input)].map rInput))) :=
  AV.le.p (PV.le.list (.cons (.cons (.refl _) (.cons (PV.le.loose _ _ _) (.cons (.refl _) (.cons (.refl _) (.cons (.refl _) (.cons (PV.le.nil _ _ _) .nil)))))) .nil))
/-- The heard alone. -/
theorem great_1 (s : State) (h : List Heard) (t : Bool) (m : Mem) : ACall Try.prog 8 [.agg (eState s), .p (.list 6 true [[iv 0, .list 15 t (h.map rHeard), bv false, iv 0, bv false, .list 0 true []]])] m (bools (GreatF s [⟨0, h, false, 0, false, []⟩])) m :=
  acall_args (.cons (.refl _) (.cons (le_heard h t false) .nil)) (great_ok s true [⟨0, h, false, 0, false, []⟩] m)
theorem great_h {s : State} {h : List Heard} {x : Input} (hx : x.heard = h) (hg : GreatF s [x] = false) : s.table.length ≤ 128 ∧ h.length ≤ 40 := by
  simp only [GreatF, GreatX, List.any_cons, List.any_nil, Bool.or_eq_false_iff, decide_eq_false_iff_not, hx] at hg
  omega
theorem acall_new_ok (p : Params) (me : Int) (s : State) (hlen : s.table.length ≤ 1048576) (m : Mem) : ACall Try.prog 9 [.agg (eP p), i me, .agg (eState s)] m (.ptr m.length 0 0) (m ++ [gb p (Sane p s) me]) :=
  new_ok p me s hlen m
theorem le_xI (t : Int) (tt b : Bool) (h : List Heard) : (AV.agg [i t, .p (.list 15 tt (h.map rHeard)), bools b, i 0, bools false, zl]).le (.agg (eInput ⟨t, h, b, 0, false, []⟩)) :=
  AV.le.agg (.cons (.refl _) (.cons (AV.le.p (PV.le.loose _ _ _)) (.cons (.refl _) (.cons (.refl _) (.cons (.refl _) (.cons (le_nil _ _ _) .nil))))))
theorem sane_tab (p : Params) (s : State) (h : s.table.length ≤ 1048576) : (Sane p s).table.length ≤ 1048576 := by
  unfold Sane; simp only; split
  · exact h
  · simp
theorem waits_0 (p : Params) (s : State) (now : Int) (t : Bool) (lies : List Heard) (err : Int) (hr : -9223372036854775808 ≤ p.rho ∧ p.rho ≤ 9223372036854775807) (hf : -9223372036854775808 ≤ p.f ∧ p.f ≤ 9223372036854775807) :
    ACall Try.prog 4 [.agg (eP p), .agg (eState s), i now, .p (.list 15 t (lies.map rHeard)), i err] [] (bools true) [] := by
  have yes : ∀ {L : Env} {mm : Mem}, aress L mm R_law22_GateWaits.res = some [bools true] → Ends R_law22_GateWaits [] (bools true) [] .ret L mm := fun h => endP (.inr rfl) h rfl trivial
  have ln : (lies.map rHeard).length = lies.length := List.length_map _
  refine acall_run R_law22_GateWaits_ok ?_
  refine WCall.any _ (acall_pure alive_0 trivial) ⟨fun _ => ?_, fun h => absurd h (by decide)⟩
  refine WCall.any _ (check_ok p) ⟨fun _ => yes rfl, fun h1 => ?_⟩
  refine WCall.any _ (great_1 s lies t) ⟨fun _ => yes rfl, fun h2 => ?_⟩
  refine ⟨fun _ => yes rfl, fun h3 => ⟨fun _ => yes rfl, fun h4 => ⟨fun _ => yes rfl, fun h5 => ⟨fun _ => yes rfl, fun h6 => ⟨fun _ => yes rfl, fun h7 => ⟨fun _ => yes rfl, fun h8 => ⟨fun _ => yes rfl, fun h9 => ?_⟩⟩⟩⟩⟩⟩⟩
  refine ⟨fun _ => yes rfl, fun h10 => ⟨fun _ => yes rfl, fun h11 => ⟨fun _ => yes rfl, fun h12 => ⟨fun _ => yes rfl, fun h13 => ?_⟩⟩⟩⟩
  rw [ln] at h5
  have hc : Check p = 0 := ndf h1
  obtain ⟨g1, g2⟩ := great_h rfl h2
  have P := check_fit hc
  obtain ⟨_, n2, f1, f2, _, _, b1, b2, r1, r2, _⟩ := P
  have h3 := df h3; have h4 := df h4; have h5 := df h5; have h6 := df h6; have h7 := df h7; have h8 := df h8; have h9 := df h9; have h10 := df h10; have h11 := df h11; have h12 := df h12; have h13 := df h13
  rw [wrap_id (by omega) (by omega)] at h5 h7
  have W := waits_pure (p := p) (s := s) (now := now) (err := err) (lies := lies) hc (by omega) (by omega) (by omega) (by omega) (by omega) (by omega) (by omega) (by omega) (by omega) (by omega) (by omega) 0
  obtain ⟨w1, w2, w3, w4, w5⟩ := W
  refine WCall.here rfl _ _ (acall_new_ok p 0 s (by omega) _) trivial ?_
  refine WCall.here rfl _ _ (acall_args (.cons (.refl _) (.cons (le_xI (w64 (p.beat + err)) t false lies) .nil)) (acall_frame (beat_1 p (Sane p s) 0 ⟨w64 (p.beat + err), lies, false, 0, false, []⟩ (by show lies.length ≤ _; omega) (sane_tab p s (by omega)) (Nat.zero_le _)) ⟨Nat.one_pos, ⟨trivial, trivial, trivial, trivial, trivial, trivial, trivial⟩, trivial⟩ (flatG0 _ _ _) (flatG0 _ _ _) 2 _ rfl)) trivial ?_
  refine ⟨fun _ => ⟨fun _ => ⟨fun _ => ⟨fun _ => ⟨fun _ => yes rfl, fun h => ?_⟩, fun h => ?_⟩, fun h => ?_⟩, fun h => ?_⟩, fun h => ?_⟩
  · exact absurd w5 (df h)
  · exact absurd w4 (df h)
  · exact absurd w3 (df h)
  · exact absurd w2 (df h)
  · exact absurd w1 (df h)
theorem waits_con {x0 x1 : List PV} {x2 x4 : Int} {x3 : PV} (e0 : FitAll x0 cP) (e1 : FitAll x1 cState) (e2 : (Lit.int .i64 x2).wf = true) (e3 : Fits x3 (.slice cHeard)) (e4 : (Lit.int .i64 x4).wf = true) :
    ACall Try.prog 4 [.agg (x0.map .p), .agg (x1.map .p), i x2, .p x3, i x4] [] (bools true) [] := by
  obtain ⟨p, hp, okp⟩ := fit_P e0
  obtain ⟨s, hs, oks⟩ := fit_state e1
  obtain ⟨l, rfl, okl⟩ := fit_heards e3
  rw [hp, hs]
  exact waits_0 p s x2 false l x4 okp.2.2.2.2.1 okp.2.1
end Go.Proofs.Ytlkphnhlibpngaa.Abs
