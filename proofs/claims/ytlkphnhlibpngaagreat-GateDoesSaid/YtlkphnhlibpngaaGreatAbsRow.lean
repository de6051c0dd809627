/- Abs, part 21: from a contract to a statement's row. -/
import Derived.Test.YtlkphnhlibpngaaGreatAbsRead
import Derived.ShutString
import Derived.ChangeOld
import Derived.Below
set_option linter.unusedVariables false
set_option linter.unusedSimpArgs false
namespace Go.Proofs.YtlkphnhlibpngaaGreat.Abs
open Go Go.ChangeShapes Go.WideShapes Go.ChangeAt Go.RowKit

/-- The world at the call: all that lies is only read. -/
def start (W : World) : Setup := { m := [], w := W, β := fun _ => 0, cap := fun _ => 0, fz := fun k => k < W.heap.size }
theorem start_wf (W : World) : (start W).WF := ⟨fun b blk hb => by simp [start] at hb, fun b c blk blk' hb => by simp [start] at hb, fun k h => h⟩
theorem acall_below {P : Program} {f : FuncId} {args : List AV} {vs : Array Value} {W : World} (h : ACall P f args [] (bools true) []) (hv : VRs (start W) args vs.toList) :
    Calls P f vs W fun e W' => e = .returned (.bool true) ∧ Below W.heap.size W W' := by
  have := h (start W) vs.toList rfl (start_wf W) hv
  simp only [Array.toArray_toList] at this
  refine Calls.mono this ?_
  rintro e w' ⟨S', y, rfl, rfl, he, _, _, hy⟩
  have hy : y = .bool true := hy
  exact ⟨by rw [hy], he.os, he.tape, he.output, he.size, fun k hk => (he.fz k hk).2⟩

section
variable {H : Type} {enc : TypeId × Value → H} {P : Program} {W : World} {r : Reach} {b0 : Nat} {t : TypeId} {v : Value} {d : DataW H} {ps : List MemPlace}
theorem arg_agg {n : Nat} {c : List CTy} {fs : Array Field} (hu : P.underlying t = some (.struct fs)) (hc : shp P n t = some c) (hval : Value.okWide P W r b0 t v) (h : DataW.Trod enc P W 0 (fun _ => true) true t v d ps) (hw : (d.weights P t).all (· ≤ reachBytes) = true) :
    ∃ xs, FitAll xs c ∧ VR (start W) (.agg (xs.map .p)) v := by
  simp only [Value.okWide, hu] at hval
  obtain ⟨cs, rfl, _, _⟩ := hval
  obtain ⟨fuel, hf⟩ := h
  obtain ⟨xs, h1, h2⟩ := trod_reads n t c hc fuel _ d ps hf hw
  exact ⟨xs, h2, cs.toList, by simp, RD.VRs (S := start W) rfl h1⟩
theorem arg_slice {n : Nat} {c : CTy} {e : TypeId} (hu : P.underlying t = some (.slice e)) (hc : shp P n t = some [c]) (hval : Value.okWide P W r b0 t v) (h : DataW.Trod enc P W 0 (fun _ => true) true t v d ps) (hw : (d.weights P t).all (· ≤ reachBytes) = true) :
    ∃ x, Fits x c ∧ VR (start W) (.p x) v := by
  obtain ⟨a, len, cap, rfl⟩ := okWide_slice hu hval
  obtain ⟨fuel, hf⟩ := h
  obtain ⟨xs, h1, h2⟩ := trod_reads n t [c] hc fuel _ d ps hf hw
  match xs, h1, h2 with
  | [x], h1, h2 => exact ⟨x, h2.1, h1.1⟩
theorem arg_int {k : IntKind} (hu : P.underlying t = some (.int k)) (hval : Value.okWide P W r b0 t v) (h : DataW.Trod enc P W 0 (fun _ => true) true t v d ps) : ∃ n, (Lit.int k n).wf = true ∧ VR (start W) (ints k n) v := by
  obtain ⟨n, rfl, _, _, hw⟩ := open_int hu hval h
  exact ⟨n, hw, rfl⟩
theorem arg_bool (hu : P.underlying t = some .bool) (hval : Value.okWide P W r b0 t v) (h : DataW.Trod enc P W 0 (fun _ => true) true t v d ps) : ∃ b, VR (start W) (bools b) v := by
  obtain ⟨n, rfl, _, _⟩ := open_bool hu hval h
  exact ⟨n, rfl⟩
end

/-- All read behind as they read before. -/
theorem back_all {H : Type} {enc : TypeId × Value → H} {P : Program} {W W' : World} (hl : laidOutB P = true) (hb : Below W.heap.size W W') : ∀ {ts : List TypeId} {vs : List Value} {ds : List (DataW H)} {p : List MemPlace}, (ts.all fun t => P.readableRec t && decide (t < P.types.size)) = true →
    DataW.TrodAll enc P W 0 (fun _ => true) true ts vs ds p → ∃ q, DataW.TrodAll enc P W' 0 (fun b => decide (b < W.heap.size)) true ts vs ds q
  | [], vs, ds, p, _, h => by
    obtain ⟨rfl, rfl, rfl⟩ := trodAll_nil h
    exact ⟨[], trodAll_mk0⟩
  | t :: ts, vs, ds, p, hr, h => by
    obtain ⟨v, vs', d, ds', p0, q0, rfl, rfl, rfl, h0, r0⟩ := trodAll_cons h
    simp only [List.all_cons, Bool.and_eq_true, decide_eq_true_eq] at hr
    obtain ⟨q, hq⟩ := back_all hl hb (by simpa using hr.2) r0
    have hlt : ∀ x ∈ p0, x.block < W.heap.size := by obtain ⟨m, hm⟩ := h0; exact DataW.trod_lt m _ _ _ hm
    exact ⟨_, trodAll_cons_mk (Below.trod hl hr.1.1 hr.1.2 h0 hb hlt) hq⟩

theorem wf_i64 {n : Int} (h : (Lit.int .i64 n).wf = true) : -9223372036854775808 ≤ n ∧ n ≤ 9223372036854775807 := by
  simpa [Lit.wf, IntKind.min, IntKind.max, IntKind.signed, IntKind.bits] using h
end Go.Proofs.YtlkphnhlibpngaaGreat.Abs
