/- Contracts, part 10: the laws' own words. -/
import Derived.Test.YtlkphnhlibpngaaGreatC9
set_option linter.unusedVariables false
set_option linter.unusedSimpArgs false
set_option maxRecDepth 100000
namespace Go.Proofs.YtlkphnhlibpngaaGreat.Abs
open Go

theorem some_0 : ACall Tryz.prog 17 [] [] (.agg (eP someG)) [] := by
  refine acall_run R_law22_some_ok ?_
  exact endP (.inr rfl) rfl rfl (flatP _)
theorem great_0 (s : State) (t : Bool) (l : List Input) : ACall Tryz.prog 6 [.agg (eState s), .p (.list 6 t (l.map rInput))] [] (bools (GreatF s l)) [] := by
  refine acall_fact (F := l.length ≤ 281474976710656) (fun S vs _ _ hv => by obtain ⟨_, _, _, _, z, zs, _, hv, _⟩ := hv; exact prow_len hv) fun hlen => ?_
  have lt : (s.table.map rLeap).length = s.table.length := List.length_map _
  have ll : (l.map rInput).length = l.length := List.length_map _
  refine acall_run R_law22_great_ok ⟨fun h1 => ?_, fun h1 => ⟨fun h2 => ?_, fun h2 => ?_⟩⟩
  · rw [lt] at h1
    exact endP (.inr rfl) rfl (b_eq (by simp only [GreatF, h1, Bool.true_or])) trivial
  · rw [ll] at h2
    exact endP (.inr rfl) rfl (b_eq (by simp only [GreatF, h2, Bool.true_or, Bool.or_true])) trivial
  rw [lt] at h1
  rw [ll] at h2
  have h0 : GreatF s l = l.any GreatX := by simp only [GreatF, h1, h2, Bool.false_or]
  refine wloopc (σ := Nat) (fun k => [(18, .p (.list 6 t (l.map rInput))), (19, i (l.map rInput).length), (20, i k)]) (fun _ => [.box (eState s)]) (fun k => k ≤ l.length ∧ (l.drop k).any GreatX = l.any GreatX)
    (fun k => l.length - k) 0 ⟨rfl, rfl, rfl, trivial⟩ rfl ⟨Nat.zero_le _, rfl⟩ (fun _ _ => ⟨trivial, trivial, trivial, trivial⟩) (fun _ _ => ⟨⟨trivial, trivial, trivial, trivial, trivial, trivial, trivial, trivial, trivial, trivial, trivial, trivial⟩, trivial⟩) (fun _ _ => Nat.le_refl _) ?_
  rintro k ⟨hk, hs⟩
  have inc : k < l.length → some (i (IntKind.i64.wrap ((k : Int) + 1))) = some (i ((k + 1 : Nat) : Int)) := fun h => by rw [wrap_id (by omega) (by omega)]; rfl
  refine ⟨fun h3 => ?_, fun h3 => ?_⟩
  · have h3 : k < l.length := by have := dt h3; simp at this; exact this
    have hx := List.getElem?_eq_getElem h3
    rw [drop_get h3, List.any_cons] at hs
    have lh : (l[k].heard.map rHeard).length = l[k].heard.length := List.length_map _
    have lt2 : (l[k].table.map rLeap).length = l[k].table.length := List.length_map _
    have yes : GreatX l[k] = true → GreatF s l = true := fun h => by rw [h0, ← hs, h, Bool.true_or]
    refine WOp.mk _ _ (iad_list rfl rfl (Int.natCast_nonneg k) (row_get hx)) trivial ⟨fun h4 => ?_, fun h4 => ⟨fun h5 => ?_, fun h5 => ?_⟩⟩
    · rw [lh] at h4
      exact endP (.inr rfl) rfl (b_eq (yes (by simp only [GreatX, h4, Bool.true_or])).symm) trivial
    · rw [lt2] at h5
      exact endP (.inr rfl) rfl (b_eq (yes (by simp only [GreatX, h5, Bool.true_or, Bool.or_true])).symm) trivial
    rw [lh] at h4
    rw [lt2] at h5
    have hX : GreatX l[k] = GreatH l[k].heard := by simp only [GreatX, h4, h5, Bool.false_or]
    have h40 : l[k].heard.length ≤ 40 := by have := df h4; omega
    refine wloopc (σ := Nat) (fun j => [(18, .p (.list 6 t (l.map rInput))), (19, i (l.map rInput).length), (20, i k), (35, .p (hd l[k].heard)), (36, i (l[k].heard.map rHeard).length), (37, i j)]) (fun _ => [.box (eState s), .box ((rInput l[k]).map .p)]) (fun j => j ≤ l[k].heard.length ∧ GreatH (l[k].heard.drop j) = GreatH l[k].heard)
      (fun j => l[k].heard.length - j) 0 ⟨rfl, rfl, rfl, rfl, rfl, rfl, trivial⟩ rfl ⟨Nat.zero_le _, rfl⟩ (fun _ _ => ⟨trivial, trivial, trivial, trivial, trivial, trivial, trivial⟩) (fun _ _ => ⟨⟨trivial, trivial, trivial, trivial, trivial, trivial, trivial, trivial, trivial, trivial, trivial, trivial⟩, under_rows _ _, trivial⟩) (fun _ _ => Nat.le_refl _) ?_
    rintro j ⟨hj, hs2⟩
    refine ⟨fun h6 => ?_, fun h6 => ?_⟩
    · have h6 : j < l[k].heard.length := by have := dt h6; simp at this; exact this
      have hx2 := List.getElem?_eq_getElem h6
      rw [drop_get h6] at hs2
      have lm : (l[k].heard[j].msg.table.map rLeap).length = l[k].heard[j].msg.table.length := List.length_map _
      refine WOp.mk _ _ (iad_list rfl rfl (Int.natCast_nonneg j) (row_get hx2)) trivial ⟨fun h7 => ?_, fun h7 => ?_⟩
      · rw [lm] at h7
        exact endP (.inr rfl) rfl (b_eq (yes (by rw [hX, ← hs2]; simp only [GreatH, List.any_cons, h7, Bool.true_or])).symm) trivial
      · rw [lm] at h7
        refine ⟨j + 1, ⟨rfl, rfl, rfl, rfl, rfl, ?_, trivial⟩, rfl, ⟨h6, ?_⟩, by show l[k].heard.length - (j + 1) < _; omega⟩
        · show some (i (IntKind.i64.wrap ((j : Int) + 1))) = _
          rw [wrap_id (by omega) (by omega)]; rfl
        · rw [← hs2]; simp only [GreatH, List.any_cons, h7, Bool.false_or]
    · have h6 : j = l[k].heard.length := by have := df h6; simp at this; omega
      have hf : GreatX l[k] = false := by rw [hX, ← hs2, h6, List.drop_length]; rfl
      refine ⟨k + 1, ⟨rfl, rfl, inc h3, trivial⟩, rfl, ⟨h3, ?_⟩, by show l.length - (k + 1) < _; omega⟩
      rw [← hs, hf, Bool.false_or]
  · have h3 : k = l.length := by have := df h3; simp at this; omega
    refine endP (.inr rfl) rfl (b_eq ?_) trivial
    rw [h0, ← hs, h3, List.drop_length]; rfl
theorem great_ok (s : State) (t : Bool) (l : List Input) (m : Mem) : ACall Tryz.prog 6 [.agg (eState s), .p (.list 6 t (l.map rInput))] m (bools (GreatF s l)) m := acall_pure (great_0 s t l) ⟨flatState s, trivial, trivial⟩ m
theorem some_ok (m : Mem) : ACall Tryz.prog 17 [] m (.agg (eP someG)) m := acall_pure some_0 trivial m
/-- What the document tells. -/
def aX : Input := ⟨1000, [], true, 5000, false, []⟩
theorem fuse_one (s : Span) : FuseF 0 [s] = if s.hi < s.lo then (⟨0, 0⟩, false) else (SpanOf s.lo s.hi, true) := by
  simp [FuseF, FewF, LeastF, MostF, sorted]
def aS : State := Sane someG zState
theorem alive_step : StepG someG 0 aS aX = ⟨⟨4950, 5050⟩, 5000, true, 0, 0, true, [], ⟨5000, 0⟩, 0⟩ := by
  have h1 : SpansB someG 0 aX = [⟨4950, 5050⟩] := rfl
  have h2 : FuseF someG.f [⟨4950, 5050⟩] = (⟨4950, 5050⟩, true) := by rw [show someG.f = 0 from rfl, fuse_one]; rfl
  have h3 : NextC someG aS aX [⟨4950, 5050⟩] = ⟨⟨4950, 5050⟩, 0, false, 0, 0, true, [], ⟨0, 0⟩, 0⟩ := by
    unfold NextC NextB
    rw [h2]
    rfl
  rw [StepG, h1, h3]
  rfl
theorem new_ok (p : Params) (me : Int) (s : State) (hlen : s.table.length ≤ 1048576) (m : Mem) : ACall Tryz.prog 7 [.agg (eP p), i me, .agg (eState s)] m (.ptr m.length 0 0) (m ++ [gb p (Sane p s) me]) :=
  acall_new (new_0 p me s hlen) ⟨flatP p, trivial, flatState s, trivial⟩ (flatG0 _ _ _) m
theorem le_zState : (AV.agg [zi, zi, zi, zb, zi, zi, zb, zl, zi, zi, zi]).le (.agg (eState zState)) :=
  AV.le.agg (.cons (.refl _) (.cons (.refl _) (.cons (.refl _) (.cons (.refl _) (.cons (.refl _) (.cons (.refl _) (.cons (.refl _) (.cons (le_nil _ _ _) (.cons (.refl _) (.cons (.refl _) (.cons (.refl _) .nil)))))))))))
theorem le_aX : (AV.agg [i 1000, zl, bools true, i 5000, zb, zl]).le (.agg (eInput aX)) :=
  AV.le.agg (.cons (.refl _) (.cons (le_nil _ _ _) (.cons (.refl _) (.cons (.refl _) (.cons (.refl _) (.cons (le_nil _ _ _) .nil))))))
theorem new_z : ACall Tryz.prog 7 [.agg (eP someG), i 0, .agg [zi, zi, zi, zb, zi, zi, zb, zl, zi, zi, zi]] [] (.ptr 0 0 0) [gb someG aS 0] :=
  acall_args (.cons (.refl _) (.cons (.refl _) (.cons le_zState .nil))) (new_0 someG 0 zState (Nat.zero_le _))
theorem beat_z : ACall Tryz.prog 13 [.ptr 0 0 0, .agg [i 1000, zl, bools true, i 5000, zb, zl]] [gb someG aS 0] (.agg (eMsg (BeatM someG 0 aS aX))) [gb someG (BeatS someG 0 aS aX) 0] :=
  acall_args (.cons (.refl _) (.cons le_aX .nil)) (beat_1 someG aS 0 aX (Nat.zero_le _) (Nat.zero_le _) (Nat.zero_le _))
theorem alive_0 : ACall Tryz.prog 5 [] [] (bools true) [] := by
  have hS : BeatS someG 0 aS aX = StampF ⟨⟨4950, 5050⟩, 5000, true, 0, 0, true, [], ⟨5000, 0⟩, 0⟩ := by rw [BeatS, alive_step]
  have hM : BeatM someG 0 aS aX = SayF someG ⟨⟨4950, 5050⟩, 5000, true, 0, 0, true, [], ⟨5000, 0⟩, 0⟩ 1 0 (ReadB someG aX) (SeenB someG aX) := by rw [BeatM, alive_step]
  refine acall_run R_law22_alive_ok ?_
  refine WCall.any _ some_ok ?_
  refine WCall.here rfl _ _ new_z trivial ⟨nof, fun _ => ?_⟩
  have hB := beat_z
  rw [hS, hM] at hB
  refine WCall.here rfl _ _ hB trivial ?_
  refine WCall.here rfl _ _ (acall_look (now_1 someG (StampF ⟨⟨4950, 5050⟩, 5000, true, 0, 0, true, [], ⟨5000, 0⟩, 0⟩) 0) ⟨Nat.one_pos, trivial⟩ (flatG0 _ _ _) 0 _ rfl) trivial ?_
  refine ⟨fun _ => ⟨fun _ => ⟨fun _ => ⟨fun _ => ⟨fun _ => ?_, fun h => absurd h (by decide)⟩, fun h => absurd h (by decide)⟩, fun h => absurd h (by decide)⟩, fun h => absurd h (by decide)⟩, fun h => absurd h (by decide)⟩
  exact endP (.inr rfl) rfl rfl trivial
end Go.Proofs.YtlkphnhlibpngaaGreat.Abs
