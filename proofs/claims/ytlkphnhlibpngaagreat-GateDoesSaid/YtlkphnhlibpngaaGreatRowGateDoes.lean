/- The row of GateDoes: for every input it returns true, and each argument reads as it did. No condition. -/
import Derived.Test.YtlkphnhlibpngaaGreatRows
import Derived.Test.YtlkphnhlibpngaaGreatL4
import Derived.Test.YtlkphnhlibpngaaGreatAbsRow
set_option linter.unusedVariables false
namespace Go.Proofs.YtlkphnhlibpngaaGreat.gateDoes
open Go Go.ChangeShapes Go.WideShapes Go.ChangeAt Go.RowKit Go.Proofs.YtlkphnhlibpngaaGreat.Abs
theorem own : ownKnob Tryz.prog.godebug = none := by kernel_rfl
theorem laidOut : laidOutB Tryz.prog = true := by kernel_rfl
set_option maxRecDepth 100000 in
theorem lifted (os : Os) (started : os.Started) (H : Type) (enc : TypeId × Value → H) :
    ReturnsInHanded {} Tryz.checked os 3 .any (Rows.gateDoesSpec.pre6 enc Tryz.prog Tryz.f3 Rows.gateDoesRow.domain false) (Rows.gateDoesSpec.post enc Tryz.prog Tryz.f3 false true false false) := by
  refine returnsInHanded_of_change_sized (C := Tryz.checked) own started (by kernel_rfl) Tryz.func3
    (ChangeSpec.witness6 (enc := enc) (C := Tryz.checked) false ⟨#[], #[.agg #[.int .i64 0, .int .i64 0, .int .i64 0, .int .i64 0, .int .i64 0, .int .i64 0, .int .i64 0, .int .i64 0, .int .i64 0, .int .i64 0, .int .i64 0, .int .i64 0], .int .i64 0, .agg #[.int .i64 0, .int .i64 0, .int .i64 0, .bool false, .int .i64 0, .int .i64 0, .bool false, .slice none 0 0, .int .i64 0, .int .i64 0, .int .i64 0], .slice none 0 0], []⟩ 12 (by kernel_rfl) (by kernel_rfl) (by kernel_rfl) (by kernel_rfl)) ?_
  intro W base args ds gs before hval0 hW hcnd hsz0 _
  have hsz : (DataW.weightsEach Tryz.prog (Tryz.f3.params.toList ++ Rows.gateDoesSpec.plain.varTypes Tryz.prog) (ds ++ gs)).all (· ≤ reachBytes) = true := hsz0
  have hval : ∀ (j : Nat) t v, Tryz.f3.params[j]? = some t → args[j]? = some v → Value.okWide Tryz.prog W .any base t v := hval0
  have hW' := hW
  obtain ⟨p, q, hA0, hV, rfl, hfz, hnd⟩ := hW
  have hA : DataW.TrodAll enc Tryz.prog W 0 (fun _ => true) true Tryz.f3.params.toList args.toList ds p := hA0
  have hA1 := hA
  rw [Tryz.params3] at hA hval hsz
  obtain ⟨v0, vs0, d0, ds0, p0, q0, hargs, rfl, rfl, h0, r0⟩ := trodAll_cons hA
  obtain ⟨v1, vs1, d1, ds1, p1, q1, rfl, rfl, rfl, h1, r1⟩ := trodAll_cons r0
  obtain ⟨v2, vs2, d2, ds2, p2, q2, rfl, rfl, rfl, h2, r2⟩ := trodAll_cons r1
  obtain ⟨v3, vs3, d3, ds3, p3, q3, rfl, rfl, rfl, h3, r3⟩ := trodAll_cons r2
  obtain ⟨rfl, rfl, rfl⟩ := trodAll_nil r3
  obtain rfl : args = #[v0, v1, v2, v3] := by cases args; simp_all
  obtain ⟨rfl, rfl⟩ := trodVars_none hV
  obtain ⟨x0, e0, u0⟩ := arg_agg (n := 12) (c := cP) Tryz.underlying23 (by kernel_rfl) (hval 0 23 v0 rfl rfl) h0 (List.all_eq_true.2 fun n hn => List.all_eq_true.1 hsz n (DataW.weights_mem_each (j := 0) rfl rfl n hn))
  obtain ⟨x1, e1, u1⟩ := arg_int Tryz.underlying3 (hval 1 3 v1 rfl rfl) h1
  obtain ⟨x2, e2, u2⟩ := arg_agg (n := 12) (c := cState) Tryz.underlying30 (by kernel_rfl) (hval 2 30 v2 rfl rfl) h2 (List.all_eq_true.2 fun n hn => List.all_eq_true.1 hsz n (DataW.weights_mem_each (j := 2) rfl rfl n hn))
  obtain ⟨x3, e3, u3⟩ := arg_slice (n := 12) (c := .slice cInput) Tryz.underlying31 (by kernel_rfl) (hval 3 31 v3 rfl rfl) h3 (List.all_eq_true.2 fun n hn => List.all_eq_true.1 hsz n (DataW.weights_mem_each (j := 3) rfl rfl n hn))
  refine (acall_below (W := W) (vs := #[v0, v1, v2, v3]) (does_con e0 e1 e2 e3) ⟨v0, _, rfl, u0, ⟨v1, _, rfl, u1, ⟨v2, _, rfl, u2, ⟨v3, _, rfl, u3, rfl⟩⟩⟩⟩).mono fun e W' ⟨he, bel⟩ => ?_
  subst he
  obtain ⟨pa, hpa⟩ := back_all laidOut bel (by kernel_rfl) hA1
  exact ⟨_, rfl, _, _, _, [], pa, [], hW', trodAll_mk1 (shut_bool Tryz.underlying4 _), hpa, rfl, bel.frame _, fun h => by cases h⟩
theorem over : Rows.gateDoesRow.holds Tryz.pinned (OpenSpec.ofChange Rows.gateDoesSpec) :=
  OpenClaim.holds_of_wide 3 Tryz.f3 rfl rfl rfl rfl rfl rfl rfl ⟨rfl, rfl, rfl, rfl, rfl⟩ rfl rfl rfl rfl rfl (by kernel_rfl) Tryz.func3 (by kernel_rfl)
    (of_decide_eq_true (by kernel_rfl)) (by unfold Func.isWrapper; first | (rw [if_pos (by decide +kernel)]; kernel_rfl) | (rw [if_neg (by decide +kernel)]; exact ⟨rfl, rfl⟩))
    (fun os started H enc _ => lifted os started H enc)
end Go.Proofs.YtlkphnhlibpngaaGreat.gateDoes
namespace Go.Proofs.YtlkphnhlibpngaaGreat
theorem gateDoes_holds : Rows.GateDoesSaid := gateDoes.over
#print axioms gateDoes_holds
end Go.Proofs.YtlkphnhlibpngaaGreat

