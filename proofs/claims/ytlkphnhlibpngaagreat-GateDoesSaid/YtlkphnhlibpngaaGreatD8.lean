/- The document's functions, part 8: a state that can be; a beat's end; what is said. -/
import Derived.Test.YtlkphnhlibpngaaGreatD7
set_option linter.unusedVariables false
set_option linter.unusedSimpArgs false
set_option maxRecDepth 100000
namespace Go.Proofs.YtlkphnhlibpngaaGreat.Abs
open Go

theorem gives_tr {m : Mem} {v r : AV} (h : Tr m [] v r) : Gives 0 m v [] r := by
  intro S y h1 h2 h3
  have ht : TellsK 1 0 [(0, v)] m [(0, r)] [] := tells [] List.nodup_nil trivial trivial ⟨⟨v, rfl, h⟩, trivial⟩
  obtain ⟨S', g1, g2, g3, g4, g5⟩ := ht S ⟨#[y], []⟩ h1 h2 ⟨rfl, rfl, fun t x hx => by
    simp only [Env.get_cons] at hx
    split at hx
    · rename_i e; subst e; obtain rfl := Option.some.inj hx; exact h3
    · simp [Env.get] at hx⟩
  exact ⟨S', g1, g2, g3, g4.get 0 r rfl, g5⟩
theorem endT {R : RFn} {L : Env} {mm : Mem} {r x : AV} {vs : List AV} {e : Exit} (he : e = .normal ∨ e = .ret) (hv : aress L mm R.res = some vs) (hx : tupled vs = x) (h : Tr mm [] x r) : Ends R [] r [] e L mm :=
  ⟨he, vs, hv, by rw [hx]; exact gives_tr h⟩
theorem tr_state {mm : Mem} {p : Params} {s s' : State} {x : AV} (hx : Tr mm [] x (.p (tb (Sane p s).table))) (h1 : s'.span = (Sane p s).span) (h2 : s'.time = (Sane p s).time) (h3 : s'.set = (Sane p s).set) (h4 : s'.held = (Sane p s).held) (h5 : s'.hops = (Sane p s).hops) (h6 : s'.good = (Sane p s).good) (h7 : s'.stamp = (Sane p s).stamp) (h8 : s'.life = (Sane p s).life) :
    Tr mm [] (.agg [i s'.span.lo, i s'.span.hi, i s'.time, bools s'.set, i s'.held, i s'.hops, bools s'.good, x, i s'.stamp.time, i s'.stamp.num, i s'.life]) (.agg (eState (Sane p s))) := by
  rw [h1, h2, h3, h4, h5, h6, h7, h8]
  exact .agg (.cons (.p _) (.cons (.p _) (.cons (.p _) (.cons (.p _) (.cons (.p _) (.cons (.p _) (.cons (.p _) (.cons hx (.cons (.p _) (.cons (.p _) (.cons (.p _) .nil)))))))))))
theorem tr_leaps {mm : Mem} {b : Nat} {xs : List Leap} (hb : mm[b]? = some (.box (((xs.map rLeap).flatten).map .p))) : Tr mm [] (.sl b 0 0 (xs.map rLeap).length 2) (.p (tb xs)) :=
  .list (by simp) hb rfl rfl rfl rfl (by intro r hr; obtain ⟨l, _, rfl⟩ := List.mem_map.1 hr; rfl) (fun c hc => one_p hc (one_leaps xs))
theorem saneR_0 (p : Params) (s : State) (hlen : s.table.length ≤ 1048576) : ACall Tryz.prog 8 [.agg (eP p), .agg (eState s)] [] (.agg (eState (Sane p s))) [] := by
  obtain ⟨sp, ti, se, he, ho, go, ta, st, li⟩ := s
  have hlen : ta.length ≤ 1048576 := hlen
  have bad : ∀ {mm : Mem}, LeapGood ta = false → Tr mm [] zl (.p (tb (Sane p ⟨sp, ti, se, he, ho, go, ta, st, li⟩).table)) := by
    intro mm h
    have : (Sane p ⟨sp, ti, se, he, ho, go, ta, st, li⟩).table = [] := by simp only [Sane, h, Bool.false_eq_true, if_false]
    rw [this]; exact .le (.p _) (le_nil _ _ _)
  have good : LeapGood ta = true → (Sane p ⟨sp, ti, se, he, ho, go, ta, st, li⟩).table = ta := by
    intro h
    simp only [Sane, h, if_true]
  refine acall_run R_ref21_Sane_ok ?_
  refine WCall.any _ (ofR _ _) ⟨fun h1 => ?_, fun h1 => ?_⟩
  · have q1 : Empty (SpanOf sp.lo sp.hi) = true := h1
    refine WCall.any _ (clipR _) (WCall.any _ (boundR _ _ _) (WCall.any _ (addR true [p.d, 1]) (WCall.any _ (boundR _ _ _) (WCall.any _ (boundR _ _ _) (WCall.any _ (goodR false ta) ⟨fun h2 => ?_, fun h2 => ?_⟩)))))
    · cases ta with
      | nil =>
        refine WOp.mk _ _ rfl trivial (WCall.any _ (rightR st) ⟨fun h3 => ?_, fun h3 => ?_⟩)
        · exact endT (.inr rfl) rfl rfl (tr_state (s' := ⟨SpanAll, Clip ti, se, Bound he 0 1073741824, Bound ho 0 (Add [p.d, 1]), false, [], st, Bound li 0 Most⟩) (by rw [good h2]; exact .le (.p _) (le_nil _ _ _)) (by simp [Sane, q1]) rfl rfl rfl rfl (by simp [Sane, q1]) (by simp [Sane, h3]) rfl)
        · exact endT (.inr rfl) rfl rfl (tr_state (s' := ⟨SpanAll, Clip ti, se, Bound he 0 1073741824, Bound ho 0 (Add [p.d, 1]), false, [], ⟨Clip ti, 0⟩, Bound li 0 Most⟩) (by rw [good h2]; exact .le (.p _) (le_nil _ _ _)) (by simp [Sane, q1]) rfl rfl rfl rfl (by simp [Sane, q1]) (by simp [Sane, h3]) rfl)
      | cons x xs =>
        refine WOp.mk _ _ (app_new rfl rfl (by simp) (by decide) (by simp at hlen ⊢; omega)) trivial (WCall.any _ (rightR st) ⟨fun h3 => ?_, fun h3 => ?_⟩)
        · exact endT (.inr rfl) rfl rfl (tr_state (s' := ⟨SpanAll, Clip ti, se, Bound he 0 1073741824, Bound ho 0 (Add [p.d, 1]), false, [], st, Bound li 0 Most⟩) (by rw [good h2]; exact tr_leaps rfl) (by simp [Sane, q1]) rfl rfl rfl rfl (by simp [Sane, q1]) (by simp [Sane, h3]) rfl)
        · exact endT (.inr rfl) rfl rfl (tr_state (s' := ⟨SpanAll, Clip ti, se, Bound he 0 1073741824, Bound ho 0 (Add [p.d, 1]), false, [], ⟨Clip ti, 0⟩, Bound li 0 Most⟩) (by rw [good h2]; exact tr_leaps rfl) (by simp [Sane, q1]) rfl rfl rfl rfl (by simp [Sane, q1]) (by simp [Sane, h3]) rfl)
    · refine WCall.any _ (rightR st) ⟨fun h3 => ?_, fun h3 => ?_⟩
      · exact endT (.inr rfl) rfl rfl (tr_state (s' := ⟨SpanAll, Clip ti, se, Bound he 0 1073741824, Bound ho 0 (Add [p.d, 1]), false, [], st, Bound li 0 Most⟩) (bad h2) (by simp [Sane, q1]) rfl rfl rfl rfl (by simp [Sane, q1]) (by simp [Sane, h3]) rfl)
      · exact endT (.inr rfl) rfl rfl (tr_state (s' := ⟨SpanAll, Clip ti, se, Bound he 0 1073741824, Bound ho 0 (Add [p.d, 1]), false, [], ⟨Clip ti, 0⟩, Bound li 0 Most⟩) (bad h2) (by simp [Sane, q1]) rfl rfl rfl rfl (by simp [Sane, q1]) (by simp [Sane, h3]) rfl)
  · have q1 : Empty (SpanOf sp.lo sp.hi) = false := h1
    refine WCall.any _ (clipR _) (WCall.any _ (boundR _ _ _) (WCall.any _ (addR true [p.d, 1]) (WCall.any _ (boundR _ _ _) (WCall.any _ (boundR _ _ _) (WCall.any _ (goodR false ta) ⟨fun h2 => ?_, fun h2 => ?_⟩)))))
    · cases ta with
      | nil =>
        refine WOp.mk _ _ rfl trivial (WCall.any _ (rightR st) ⟨fun h3 => ?_, fun h3 => ?_⟩)
        · exact endT (.inr rfl) rfl rfl (tr_state (s' := ⟨SpanOf sp.lo sp.hi, Clip ti, se, Bound he 0 1073741824, Bound ho 0 (Add [p.d, 1]), go, [], st, Bound li 0 Most⟩) (by rw [good h2]; exact .le (.p _) (le_nil _ _ _)) (by simp [Sane, q1]) rfl rfl rfl rfl (by simp [Sane, q1]) (by simp [Sane, h3]) rfl)
        · exact endT (.inr rfl) rfl rfl (tr_state (s' := ⟨SpanOf sp.lo sp.hi, Clip ti, se, Bound he 0 1073741824, Bound ho 0 (Add [p.d, 1]), go, [], ⟨Clip ti, 0⟩, Bound li 0 Most⟩) (by rw [good h2]; exact .le (.p _) (le_nil _ _ _)) (by simp [Sane, q1]) rfl rfl rfl rfl (by simp [Sane, q1]) (by simp [Sane, h3]) rfl)
      | cons x xs =>
        refine WOp.mk _ _ (app_new rfl rfl (by simp) (by decide) (by simp at hlen ⊢; omega)) trivial (WCall.any _ (rightR st) ⟨fun h3 => ?_, fun h3 => ?_⟩)
        · exact endT (.inr rfl) rfl rfl (tr_state (s' := ⟨SpanOf sp.lo sp.hi, Clip ti, se, Bound he 0 1073741824, Bound ho 0 (Add [p.d, 1]), go, [], st, Bound li 0 Most⟩) (by rw [good h2]; exact tr_leaps rfl) (by simp [Sane, q1]) rfl rfl rfl rfl (by simp [Sane, q1]) (by simp [Sane, h3]) rfl)
        · exact endT (.inr rfl) rfl rfl (tr_state (s' := ⟨SpanOf sp.lo sp.hi, Clip ti, se, Bound he 0 1073741824, Bound ho 0 (Add [p.d, 1]), go, [], ⟨Clip ti, 0⟩, Bound li 0 Most⟩) (by rw [good h2]; exact tr_leaps rfl) (by simp [Sane, q1]) rfl rfl rfl rfl (by simp [Sane, q1]) (by simp [Sane, h3]) rfl)
    · refine WCall.any _ (rightR st) ⟨fun h3 => ?_, fun h3 => ?_⟩
      · exact endT (.inr rfl) rfl rfl (tr_state (s' := ⟨SpanOf sp.lo sp.hi, Clip ti, se, Bound he 0 1073741824, Bound ho 0 (Add [p.d, 1]), go, [], st, Bound li 0 Most⟩) (bad h2) (by simp [Sane, q1]) rfl rfl rfl rfl (by simp [Sane, q1]) (by simp [Sane, h3]) rfl)
      · exact endT (.inr rfl) rfl rfl (tr_state (s' := ⟨SpanOf sp.lo sp.hi, Clip ti, se, Bound he 0 1073741824, Bound ho 0 (Add [p.d, 1]), go, [], ⟨Clip ti, 0⟩, Bound li 0 Most⟩) (bad h2) (by simp [Sane, q1]) rfl rfl rfl rfl (by simp [Sane, q1]) (by simp [Sane, h3]) rfl)
theorem saneR (p : Params) (s : State) (hlen : s.table.length ≤ 1048576) (m : Mem) : ACall Tryz.prog 8 [.agg (eP p), .agg (eState s)] m (.agg (eState (Sane p s))) m := acall_pure (saneR_0 p s hlen) ⟨flatP p, flatState s, trivial⟩ m
end Go.Proofs.YtlkphnhlibpngaaGreat.Abs
