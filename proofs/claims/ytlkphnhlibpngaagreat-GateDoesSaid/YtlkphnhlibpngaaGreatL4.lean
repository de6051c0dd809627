/- GateDoes: the walk. -/
import Derived.Test.YtlkphnhlibpngaaGreatD10
import Derived.Test.YtlkphnhlibpngaaGreatC10
import Derived.Test.YtlkphnhlibpngaaGreatShapes
set_option linter.unusedVariables false
set_option linter.unusedSimpArgs false
set_option maxRecDepth 100000
namespace Go.Proofs.YtlkphnhlibpngaaGreat.Abs
open Go

abbrev nilp : AV := .p (.v (.pointer none))
theorem beat_nil (x : List AV) (hx : x = [zi, zl, zb, zi, zb, zl]) : ACall Tryz.prog 13 [nilp, .agg x] [] (.agg zmsg) [] := by
  subst hx
  refine acall_run R_gate_Gate_Beat_ok ⟨fun _ => ?_, fun h => absurd h (by decide)⟩
  exact endP (.inr rfl) rfl rfl ⟨trivial, trivial, trivial, trivial, trivial, trivial, trivial, trivial, trivial, trivial, trivial, trivial, trivial, trivial, trivial⟩
theorem say_nil : ACall Tryz.prog 15 [nilp, i 1, i 2, bools true, .agg [i 1, i 0]] [] (.agg zmsg) [] := by
  refine acall_run R_gate_Say_ok ⟨fun _ => ?_, fun h => absurd h (by decide)⟩
  exact endP (.inr rfl) rfl rfl ⟨trivial, trivial, trivial, trivial, trivial, trivial, trivial, trivial, trivial, trivial, trivial, trivial, trivial, trivial, trivial⟩
theorem beat_tab {p : Params} {me : Int} {s : State} {x : Input} (hs : s.table.length ≤ 1048576) (hx : x.table.length ≤ 1048576) : (BeatS p me s x).table.length ≤ 1048576 := by
  have h : (NextC p s x (SpansB p me x)).table.length ≤ 1048576 := by
    unfold NextC NextB NextA
    repeat' split
    all_goals assumption
  exact tab_step (p := p) (s := s) (t := x.ticks) h
theorem sane_tab' (p : Params) (s : State) (h : s.table.length ≤ 1048576) : (Sane p s).table.length ≤ 1048576 := by
  unfold Sane; simp only; split
  · exact h
  · simp
def Run (p : Params) (me : Int) (s : State) : List Input → State
  | [] => s
  | x :: xs => Run p me (BeatS p me s x) xs
theorem run_snoc (p : Params) (me : Int) : ∀ (xs : List Input) (s : State) (x : Input), Run p me s (xs ++ [x]) = BeatS p me (Run p me s xs) x
  | [], s, x => rfl
  | y :: xs, s, x => run_snoc p me xs _ x
theorem same6_z (mm : Mem) : ACall Tryz.prog 12 [.agg zmsg, .agg zmsg] mm (bools true) mm := by
  have hle : (AV.agg zmsg).le (.agg (eMsg zMsg)) := AV.le.agg (.cons (.refl _) (.cons (.refl _) (.cons (.refl _) (.cons (.refl _) (.cons (.refl _) (.cons (.refl _) (.cons (.refl _) (.cons (.refl _) (.cons (.refl _) (.cons (.refl _) (.cons (.refl _) (.cons (.refl _) (.cons (.refl _) (.cons (le_nil _ _ _) .nil))))))))))))))
  exact acall_args (.cons hle (.cons hle .nil)) (same6 zMsg mm)
theorem flatz : (AV.agg zmsg).under 0 := ⟨trivial, trivial, trivial, trivial, trivial, trivial, trivial, trivial, trivial, trivial, trivial, trivial, trivial, trivial, trivial⟩
theorem under_gb (k : Nat) (p : Params) (s : State) (me : Int) : AV.unders k (gb p s me).cells :=
  ⟨trivial, trivial, trivial, trivial, trivial, trivial, trivial, trivial, trivial, trivial, trivial, trivial, trivial, trivial, trivial, trivial, trivial, trivial, trivial, trivial, trivial, trivial, trivial, trivial, trivial⟩
theorem under_eP (k : Nat) (p : Params) : AV.unders k (eP p) := ⟨trivial, trivial, trivial, trivial, trivial, trivial, trivial, trivial, trivial, trivial, trivial, trivial, trivial⟩
theorem under_eS (k : Nat) (s : State) : AV.unders k (eState s) := ⟨trivial, trivial, trivial, trivial, trivial, trivial, trivial, trivial, trivial, trivial, trivial, trivial⟩
theorem under_eI (k : Nat) (x : Input) : AV.unders k (eInput x) := ⟨trivial, trivial, trivial, trivial, trivial, trivial, trivial⟩
theorem does_0 (p : Params) (me : Int) (s : State) (t : Bool) (l : List Input) : ACall Tryz.prog 3 [.agg (eP p), i me, .agg (eState s), .p (.list 6 t (l.map rInput))] [] (bools true) [] := by
  have yes : ∀ {L : Env} {mm : Mem}, aress L mm R_law22_GateDoes.res = some [bools true] → Ends R_law22_GateDoes [] (bools true) [] .ret L mm := fun h => endP (.inr rfl) h rfl trivial
  refine acall_run R_law22_GateDoes_ok ?_
  refine WCall.any _ (acall_pure alive_0 trivial) ⟨fun _ => ?_, fun h => absurd h (by decide)⟩
  refine WCall.any _ (great_ok s t l) ⟨fun _ => yes rfl, fun h2 => ?_⟩
  simp only [GreatF, Bool.or_eq_false_iff, decide_eq_false_iff_not, List.any_eq_false] at h2
  obtain ⟨g1, g2, g3⟩ := h2
  have hs : s.table.length ≤ 1048576 := by omega
  have hx : ∀ x ∈ l, x.heard.length ≤ 1048576 ∧ x.table.length ≤ 1048576 := by
    intro x hx
    have := g3 x hx
    simp only [GreatX, Bool.or_eq_true, decide_eq_true_eq, not_or] at this
    omega
  refine WCall.here rfl _ _ (new_ok p me s hs _) trivial ?_
  refine WCall.any _ (saneR p s hs) ⟨nof, fun _ => ?_⟩
  refine WCall.any _ (same21 (Sane p s)) ⟨fun _ => ?_, fun h => absurd h (by decide)⟩
  have ll : (l.map rInput).length = l.length := List.length_map _
  refine wloopc (σ := Nat) (fun k => [(1, i me), (3, .p (.list 6 t (l.map rInput))), (4, .ptr 0 0 0), (9, .ptr 2 0 0), (10, .ptr 3 0 0), (44, .p (.list 6 t (l.map rInput))), (45, i (l.map rInput).length), (46, i k)])
    (fun k => [.box (eP p), .box (eState s), gb p (Run p me (Sane p s) (l.take k)) me, .box (eState (Run p me (Sane p s) (l.take k)))]) (fun k => k ≤ l.length ∧ (Run p me (Sane p s) (l.take k)).table.length ≤ 1048576)
    (fun k => l.length - k) 0 ⟨rfl, rfl, rfl, rfl, rfl, rfl, rfl, rfl, trivial⟩ rfl ⟨Nat.zero_le _, sane_tab' p s hs⟩ (fun _ _ => ⟨trivial, trivial, (by show 0 < 4; decide), (by show 2 < 4; decide), (by show 3 < 4; decide), trivial, trivial, trivial, trivial⟩) (fun _ _ => ⟨under_eP _ p, under_eS _ s, under_gb _ _ _ _, under_eS _ _, trivial⟩) (fun _ _ => Nat.le_refl _) ?_
  rintro k ⟨hk, hst⟩
  have hk : k ≤ l.length := hk
  have hst : (Run p me (Sane p s) (l.take k)).table.length ≤ 1048576 := hst
  refine ⟨fun h1 => ?_, fun h1 => ?_⟩
  · have h1 : k < l.length := by have := dt h1; simp at this; exact this
    have hxk := List.getElem?_eq_getElem h1
    obtain ⟨hh, ht⟩ := hx l[k] (List.getElem_mem h1)
    have e : Run p me (Sane p s) (l.take (k + 1)) = BeatS p me (Run p me (Sane p s) (l.take k)) l[k] := by rw [take_succ_get hxk, run_snoc]
    have inc : some (i (IntKind.i64.wrap ((k : Int) + 1))) = some (i ((k + 1 : Nat) : Int)) := by rw [wrap_id (by omega) (by omega)]; rfl
    generalize l[k] = x at *
    generalize hR : Run p me (Sane p s) (l.take k) = st at *
    refine WOp.mk _ _ (iad_list rfl rfl (Int.natCast_nonneg k) (row_get hxk)) trivial ?_
    refine WCall.any _ (told_ok p me false x.heard hh) (WCall.any _ (toldRk p me false x.heard) ⟨fun h => by simp at h, fun _ => ?_⟩)
    have htk := told_len p me x.heard
    generalize Told p me x.heard = tk at *
    refine wloop (σ := Nat) (fun j => [(1, i me), (3, .p (.list 6 t (l.map rInput))), (4, .ptr 0 0 0), (9, .ptr 2 0 0), (10, .ptr 3 0 0), (44, .p (.list 6 t (l.map rInput))), (45, i (l.map rInput).length), (46, i k), (12, .ptr 4 0 0), (13, .p (hd tk)), (14, .p (hd tk)), (66, i (tk.map rHeard).length), (67, i j)])
      (fun _ => [.box (eP p), .box (eState s), gb p st me, .box (eState st), .box (eInput x)]) (fun j => j ≤ tk.length) (fun j => tk.length - j) 0 ⟨rfl, rfl, rfl, rfl, rfl, rfl, rfl, rfl, rfl, rfl, rfl, rfl, rfl, trivial⟩ rfl (Nat.zero_le _) ?_
    rintro j hj
    refine ⟨fun h3 => ?_, fun h3 => ?_⟩
    · have h3 : j < tk.length := by have := dt h3; simp at this; exact this
      have hy := List.getElem?_eq_getElem h3
      refine WOp.mk _ _ (iad_list rfl rfl (Int.natCast_nonneg j) (row_get hy)) trivial (WOp.mk _ _ (iad_list rfl rfl (Int.natCast_nonneg j) (row_get hy)) trivial ⟨fun h => by simp at h, fun _ => ?_⟩)
      refine WOp.mk _ _ (iad_list rfl rfl (Int.natCast_nonneg j) (row_get hy)) trivial (WOp.mk _ _ (iad_list rfl rfl (Int.natCast_nonneg j) (row_get hy)) trivial ?_)
      refine WCall.any _ (same6 tk[j].msg) ⟨fun _ => ?_, fun h => absurd h (by decide)⟩
      refine ⟨j + 1, ⟨rfl, rfl, rfl, rfl, rfl, rfl, rfl, rfl, rfl, rfl, rfl, rfl, ?_, trivial⟩, rfl, h3, by show tk.length - (j + 1) < _; omega⟩
      show some (i (IntKind.i64.wrap ((j : Int) + 1))) = _
      rw [wrap_id (by omega) (by omega)]; rfl
    · refine WCall.here rfl _ _ (acall_frame (beat_1 p st me x hh hst ht) ⟨Nat.one_pos, ⟨trivial, trivial, trivial, trivial, trivial, trivial, trivial⟩, trivial⟩ (flatG0 _ _ _) (flatG0 _ _ _) 2 _ rfl) trivial ?_
      refine WCall.any _ (beatR p st me x hst ht) ?_
      refine WCall.any _ (same6 (BeatM p me st x)) ⟨fun _ => ?_, fun h => absurd h (by decide)⟩
      refine WCall.any _ (same21 (BeatS p me st x)) ⟨fun _ => ?_, fun h => absurd h (by decide)⟩
      refine ⟨k + 1, ⟨rfl, rfl, rfl, rfl, rfl, rfl, rfl, inc, trivial⟩, ?_, ⟨h1, ?_⟩, by show l.length - (k + 1) < _; omega⟩
      · rw [e]; rfl
      · rw [e]; exact beat_tab hst ht
  · refine WCall.any _ (fun m => acall_pure (beat_nil _ rfl) ⟨trivial, ⟨trivial, trivial, trivial, trivial, trivial, trivial, trivial⟩, trivial⟩ m) ?_
    refine WCall.any _ same6_z ⟨fun _ => ?_, fun h => absurd h (by decide)⟩
    refine WCall.any _ (fun m => acall_pure say_nil ⟨trivial, trivial, trivial, trivial, ⟨trivial, trivial, trivial⟩, trivial⟩ m) ?_
    refine WCall.any _ same6_z ⟨fun _ => ?_, fun h => absurd h (by decide)⟩
    exact yes rfl
theorem does_con {x0 x2 : List PV} {x1 : Int} {x3 : PV} (e0 : FitAll x0 cP) (e1 : (Lit.int .i64 x1).wf = true) (e2 : FitAll x2 cState) (e3 : Fits x3 (.slice cInput)) :
    ACall Tryz.prog 3 [.agg (x0.map .p), i x1, .agg (x2.map .p), .p x3] [] (bools true) [] := by
  obtain ⟨p, hp, okp⟩ := fit_P e0
  obtain ⟨s, hs, oks⟩ := fit_state e2
  obtain ⟨l, rfl, okl⟩ := fit_inputs e3
  rw [hp, hs]
  exact does_0 p x1 s false l
end Go.Proofs.YtlkphnhlibpngaaGreat.Abs
