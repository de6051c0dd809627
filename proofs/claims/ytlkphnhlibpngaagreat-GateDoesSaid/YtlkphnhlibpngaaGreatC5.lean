/- Contracts, part 5: a new gate; what is told: sorting. -/
import Derived.Test.YtlkphnhlibpngaaGreatC4
set_option linter.unusedVariables false
set_option linter.unusedSimpArgs false
set_option maxRecDepth 100000
namespace Go.Proofs.YtlkphnhlibpngaaGreat.Abs
open Go

theorem new_0 (p : Params) (me : Int) (s : State) (hlen : s.table.length ≤ 1048576) : ACall Tryz.prog 7 [.agg (eP p), i me, .agg (eState s)] [] (.ptr 0 0 0) [gb p (Sane p s) me] := by
  refine acall_run R_gate_New_ok ?_
  refine WCall.any _ (sane_ok p s hlen) ?_
  exact endN (.inr rfl) rfl rfl rfl (flatG0 p (Sane p s) me)
theorem told1_0 (x : Heard) (y : Msg) : ACall Tryz.prog 27 [.agg ((rHeard x).map .p), .fp (rMsg y)] [] (bools (decide (x.msg.frm = y.frm))) [] := by
  refine acall_run R_gate_Told_1_ok ⟨fun h => ?_, fun h => ?_⟩
  · exact endP (.inr rfl) rfl (b_eq h.symm) trivial
  · exact endP (.inr rfl) rfl (b_eq h.symm) trivial
theorem told2_0 (x y : Heard) : ACall Tryz.prog 29 [.agg ((rHeard x).map .p), .agg ((rHeard y).map .p)] [] (i (w64 (x.msg.frm - y.msg.frm))) [] := by
  refine acall_run R_gate_Told_2_ok ?_
  exact endP (.inr rfl) rfl (i_eq rfl) trivial

/-! rows in a block -/
theorem rows_get {α β : Type} {f : α → List β} {sz : Nat} (hf : ∀ a, (f a).length = sz) : ∀ {xs : List α} {j : Nat} {x : α}, xs[j]? = some x → (((xs.map f).flatten).drop (j * sz)).take sz = f x
  | [], j, x, h => by simp at h
  | a :: xs, 0, x, h => by
    simp at h; subst h
    simp only [List.map_cons, List.flatten_cons, Nat.zero_mul, List.drop_zero]
    rw [← hf a, List.take_left' rfl]
  | a :: xs, j + 1, x, h => by
    have := rows_get hf (xs := xs) (j := j) (x := x) (by simpa using h)
    simp only [List.map_cons, List.flatten_cons]
    rw [show (j + 1) * sz = (f a).length + j * sz by rw [hf a, Nat.succ_mul, Nat.add_comm], List.drop_append, List.drop_eq_nil_of_le (by omega), List.nil_append, show (f a).length + j * sz - (f a).length = j * sz by omega]
    exact this
theorem rows_length {α β : Type} {f : α → List β} {sz : Nat} (hf : ∀ a, (f a).length = sz) : ∀ (xs : List α), ((xs.map f).flatten).length = xs.length * sz
  | [] => by simp
  | a :: xs => by
    simp only [List.map_cons, List.flatten_cons, List.length_append, List.length_cons, rows_length hf xs, hf a, Nat.succ_mul]
    omega
theorem rows_set {α β : Type} {f : α → List β} {sz : Nat} (hf : ∀ a, (f a).length = sz) : ∀ {xs : List α} {j : Nat} {y : α}, j < xs.length → splice ((xs.map f).flatten) (j * sz) (f y) = ((xs.set j y).map f).flatten
  | [], j, y, h => by simp at h
  | a :: xs, 0, y, h => by
    simp only [splice, List.map_cons, List.flatten_cons, Nat.zero_mul, List.take_zero, List.nil_append, List.set_cons_zero, Nat.zero_add]
    rw [hf y, ← hf a, List.drop_left' rfl]
  | a :: xs, j + 1, y, h => by
    have := rows_set hf (xs := xs) (j := j) (y := y) (by simpa using h)
    simp only [splice] at this ⊢
    simp only [List.map_cons, List.flatten_cons, List.set_cons_succ]
    rw [← this]
    have e : (j + 1) * sz = (f a).length + j * sz := by rw [hf a, Nat.succ_mul, Nat.add_comm]
    rw [e, List.take_append, List.take_of_length_le (by omega), show (f a).length + j * sz - (f a).length = j * sz by omega]
    rw [List.append_assoc, show (f a).length + j * sz + (f y).length = (f a).length + (j * sz + (f y).length) by omega, List.drop_append, List.drop_eq_nil_of_le (show (f a).length ≤ (f a).length + (j * sz + (f y).length) by omega), List.nil_append]
    rw [show (f a).length + (j * sz + (f y).length) - (f a).length = j * sz + (f y).length by omega]
theorem rows_splice {α β γ : Type} {f : α → List β} {g : β → γ} {sz : Nat} (hf : ∀ a, (f a).length = sz) {xs : List α} {j : Nat} {y : α} (h : j < xs.length) : splice (((xs.map f).flatten).map g) (j * sz) ((f y).map g) = (((xs.set j y).map f).flatten).map g := by
  rw [← rows_set hf h]
  simp [splice, List.map_append, List.map_take, List.map_drop]
theorem rHeard_len (h : Heard) : (rHeard h).length = 15 := rfl
/-- A block of messages. -/
def rb (xs : List Heard) (ver : Nat) : Blk := ⟨((xs.map rHeard).flatten).map .p, ver, true⟩
theorem iad_rb {L : Env} {m : Mem} {x y : Operand} {b ver n : Nat} {j : Int} {k : IntKind} (hx : opd L x = some (.sl b ver 0 n 15)) (hy : opd L y = some (ints k j)) (h0 : 0 ≤ j) (h1 : j < n) : aop L m (.iad 15 x y) = some (.ptr b ver (j.toNat * 15), m) := by
  simp [aop, hx, hy, ints, asInt?, h0, h1]
theorem ld_rb {L : Env} {m : Mem} {x : Operand} {b ver j : Nat} {xs : List Heard} {y : Heard} (hx : opd L x = some (.ptr b ver (j * 15))) (hb : m[b]? = some (rb xs ver)) (hy : xs[j]? = some y) : aop L m (.ld (some 15) x) = some (.agg ((rHeard y).map .p), m) := by
  have hj := (List.getElem?_eq_some_iff.1 hy).1
  simp only [aop, hx, Option.bind_some, readCells, hb, rb, true_and]
  rw [if_pos (by rw [List.length_map, rows_length rHeard_len]; omega)]
  rw [← List.map_drop, ← List.map_take, rows_get rHeard_len hy]
  rfl
theorem one_heard (y : Heard) : ((rHeard y).map AV.p).all AV.one = true := rfl
theorem st_rb {L : Env} {m : Mem} {x a : Operand} {b ver j : Nat} {xs : List Heard} {y : Heard} (ha : opd L a = some (.ptr b ver (j * 15))) (hb : m[b]? = some (rb xs ver)) (hj : j < xs.length) (hx : opd L x = some (.agg ((rHeard y).map .p))) :
    aop L m (.st 15 a x) = some (undefAV, m.set b (rb (xs.set j y) ver)) := by
  simp only [aop, ha, hx, Option.bind_some, AV.cells?, one_heard, if_true]
  rw [if_pos (show ((rHeard y).map AV.p).length = 15 from rfl)]
  simp only [writeCells, hb, rb, true_and]
  rw [if_pos (by rw [List.length_map, List.length_map, rows_length rHeard_len, rHeard_len]; omega)]
  simp only [Option.map_some, Option.some.injEq, Prod.mk.injEq]
  refine ⟨rfl, ?_⟩
  rw [rows_splice rHeard_len hj]
theorem under_p : ∀ (k : Nat) (cs : List PV), AV.unders k (cs.map .p)
  | _, [] => trivial
  | k, c :: cs => ⟨trivial, under_p k cs⟩
theorem under_flat {k : Nat} (xs : List Heard) {ver : Nat} : AV.unders k (rb xs ver).cells := under_p k _
theorem isort_1 (xs : List Heard) (ver : Nat) (hl : xs.length ≤ 1048576) :
    ACall Tryz.prog 88 [.sl 0 ver 0 xs.length 15, i 0, i xs.length, .fn 29 []] [rb xs ver] (.tup []) [rb (sortBy hlt xs) ver] := by
  refine acall_run R_slices_insertionSortCmpFunc_api_Heard_ok ?_
  refine wloop (σ := Nat × List Heard) (fun s => [(0, .sl 0 ver 0 xs.length 15), (1, i 0), (2, i xs.length), (3, .fn 29 []), (8, i s.1)]) (fun s => [rb s.2 ver])
    (fun s => 1 ≤ s.1 ∧ s.1 ≤ xs.length + 1 ∧ s.2.length = xs.length ∧ sortFrom hlt s.1 (xs.length - s.1) s.2 = sortBy hlt xs) (fun s => xs.length + 1 - s.1) (1, xs) ⟨rfl, rfl, rfl, rfl, rfl, trivial⟩ rfl ⟨Nat.le_refl _, by omega, rfl, rfl⟩ ?_
  rintro ⟨k, zs⟩ ⟨hk1, hk2, hzl, hs⟩
  have hk1 : 1 ≤ k := hk1
  have hzl : zs.length = xs.length := hzl
  have hs : sortFrom hlt k (xs.length - k) zs = sortBy hlt xs := hs
  refine ⟨fun h1 => ?_, fun h1 => ?_⟩
  · have h1 : (k : Int) < xs.length := dt h1
    have h1 : k < xs.length := by omega
    refine wloop (σ := Nat × List Heard) (fun s => [(0, .sl 0 ver 0 xs.length 15), (1, i 0), (2, i xs.length), (3, .fn 29 []), (8, i k), (9, i s.1)]) (fun s => [rb s.2 ver])
      (fun s => s.1 ≤ k ∧ s.2.length = xs.length ∧ down hlt s.1 s.2 = down hlt k zs) (fun s => s.1) (k, zs) ⟨rfl, rfl, rfl, rfl, rfl, rfl, trivial⟩ rfl ⟨Nat.le_refl _, hzl, rfl⟩ ?_
    rintro ⟨j, ys⟩ ⟨hj, hyl, hd⟩
    have hj : j ≤ k := hj
    have hyl : ys.length = xs.length := hyl
    have hd : down hlt j ys = down hlt k zs := hd
    have out : ∀ {L' : Env} {m' : Mem}, ys = down hlt k zs → L'.get 0 = some (.sl 0 ver 0 xs.length 15) → L'.get 1 = some (i 0) → L'.get 2 = some (i xs.length) → L'.get 3 = some (.fn 29 []) → L'.get 8 = some (i (IntKind.i64.wrap ((k : Int) + 1))) → m' = [rb ys ver] →
        ∃ s' : Nat × List Heard, Says L' [(0, .sl 0 ver 0 xs.length 15), (1, i 0), (2, i xs.length), (3, .fn 29 []), (8, i s'.1)] ∧ m' = [rb s'.2 ver] ∧ (1 ≤ s'.1 ∧ s'.1 ≤ xs.length + 1 ∧ s'.2.length = xs.length ∧ sortFrom hlt s'.1 (xs.length - s'.1) s'.2 = sortBy hlt xs) ∧ xs.length + 1 - s'.1 < xs.length + 1 - k := by
      intro L' m' he e0 e1 e2 e3 e8 em
      refine ⟨(k + 1, ys), ⟨e0, e1, e2, e3, ?_, trivial⟩, em, ⟨by omega, by show k + 1 ≤ _; omega, hyl, ?_⟩, by show xs.length + 1 - (k + 1) < _; omega⟩
      · rw [e8, wrap_id (by omega) (by omega)]; rfl
      · show sortFrom hlt (k + 1) (xs.length - (k + 1)) ys = _
        rw [he, ← hs, show xs.length - k = (xs.length - (k + 1)) + 1 by omega]
        rfl
    refine ⟨fun h2 => ?_, fun h2 => ?_⟩
    · have h2 : (0 : Int) < j := dt h2
      have hjl : j < ys.length := by omega
      have hx := List.getElem?_eq_getElem hjl
      have hx' := List.getElem?_eq_getElem (l := ys) (i := j - 1) (by omega)
      have hw : IntKind.i64.wrap ((j : Int) - 1) = ((j - 1 : Nat) : Int) := by rw [wrap_id (by omega) (by omega)]; omega
      refine WOp.mk _ _ (iad_rb (j := (j : Int)) rfl rfl (by omega) (by omega)) trivial ?_
      refine WyA_of (C := []) (.agg ((rHeard ys[j]).map .p)) _ (ld_rb (j := j) rfl rfl hx) trivial ?_
      refine WOp.mk _ _ (iad_rb (j := IntKind.i64.wrap ((j : Int) - 1)) rfl rfl (by omega) (by omega)) trivial ?_
      refine WyA_of (C := []) (.agg ((rHeard ys[j - 1]).map .p)) _ (ld_rb (j := j - 1) (by rw [hw]; rfl) rfl hx') trivial ?_
      refine WCallV.mk (by kernel_rfl) _ _ (acall_pure (told2_0 ys[j] ys[j - 1]) ⟨⟨trivial, trivial, trivial, trivial, trivial, trivial, trivial, trivial, trivial, trivial, trivial, trivial, trivial, trivial, trivial, trivial⟩, ⟨trivial, trivial, trivial, trivial, trivial, trivial, trivial, trivial, trivial, trivial, trivial, trivial, trivial, trivial, trivial, trivial⟩, trivial⟩ _) trivial ?_
      have hgd : goesDown hlt ys j = hlt ys[j] ys[j - 1] := by unfold goesDown; rw [hx, hx']
      have hj1 : j = (j - 1) + 1 := by omega
      refine ⟨fun h3 => ?_, fun h3 => ?_⟩
      · have h3 : hlt ys[j] ys[j - 1] = true := h3
        refine WOp.mk _ _ (iad_rb (j := IntKind.i64.wrap ((j : Int) - 1)) rfl rfl (by omega) (by omega)) trivial ?_
        refine WyA_of (C := []) (.agg ((rHeard ys[j - 1]).map .p)) _ (ld_rb (j := j - 1) (by rw [hw]; rfl) rfl hx') trivial ?_
        refine WOp.mk _ _ (iad_rb (j := (j : Int)) rfl rfl (by omega) (by omega)) trivial ?_
        refine WyA_of (C := []) (.agg ((rHeard ys[j]).map .p)) _ (ld_rb (j := j) rfl rfl hx) trivial ?_
        refine WOp.mk _ _ (iad_rb (j := (j : Int)) rfl rfl (by omega) (by omega)) trivial ?_
        refine WyA_of (C := []) undefAV _ (st_rb (j := j) (y := ys[j - 1]) rfl rfl hjl rfl) trivial ?_
        refine WOp.mk _ _ (iad_rb (j := IntKind.i64.wrap ((j : Int) - 1)) rfl rfl (by omega) (by omega)) trivial ?_
        refine WyA_of (C := []) undefAV _ (st_rb (j := j - 1) (xs := ys.set j ys[j - 1]) (y := ys[j]) (by rw [hw]; rfl) rfl (by rw [List.length_set]; omega) rfl) trivial ?_
        refine ⟨(j - 1, swapAt ys j), ⟨rfl, rfl, rfl, rfl, rfl, ?_, trivial⟩, ?_, ⟨by show j - 1 ≤ k; omega, by show (swapAt ys j).length = _; rw [swapAt_length, hyl], ?_⟩, by show j - 1 < j; omega⟩
        · show some (i (IntKind.i64.wrap ((j : Int) - 1))) = _
          rw [hw]
        · show [rb ((ys.set j ys[j - 1]).set (j - 1) ys[j]) ver] = [rb (swapAt ys j) ver]
          unfold swapAt; rw [hx, hx']
        · show down hlt (j - 1) (swapAt ys j) = _
          rw [← hd]
          conv => rhs; rw [hj1]
          unfold down
          rw [← hj1, hgd, h3, if_pos rfl]
          cases hq : j - 1 <;> rfl
      · have h3 : hlt ys[j] ys[j - 1] = false := h3
        refine out ?_ rfl rfl rfl rfl rfl rfl
        rw [← hd]
        conv => rhs; rw [hj1]
        unfold down
        rw [← hj1, hgd, h3]
        simp
    · have h2 : ¬ (0 : Int) < j := df h2
      have hj0 : j = 0 := by omega
      refine out ?_ rfl rfl rfl rfl rfl rfl
      rw [← hd, hj0]; rfl
  · have h1 : ¬ (k : Int) < xs.length := df h1
    have hz : xs.length - k = 0 := by omega
    rw [hz] at hs
    have hs : zs = sortBy hlt xs := hs
    refine end1 rfl (.inl rfl) rfl rfl trivial (by rw [← hs]; rfl) ?_
    exact under_flat _
theorem ssort_1 (xs : List Heard) (ver : Nat) (hl : xs.length ≤ 19) :
    ACall Tryz.prog 28 [.sl 0 ver 0 xs.length 15, .fn 29 []] [rb xs ver] (.tup []) [rb (sortBy hlt xs) ver] := by
  have stable : ACall Tryz.prog 57 [.sl 0 ver 0 xs.length 15, i xs.length, .fn 29 []] [rb xs ver] (.tup []) [rb (sortBy hlt xs) ver] := by
    refine acall_run R_slices_stableCmpFunc_api_Heard_ok ?_
    refine wloop (σ := Unit) (fun _ => [(0, .sl 0 ver 0 xs.length 15), (1, i xs.length), (2, .fn 29 []), (6, i 20), (7, i 0), (8, i 20)]) (fun _ => [rb xs ver]) (fun _ => True) (fun _ => 0) () ⟨rfl, rfl, rfl, rfl, rfl, rfl, trivial⟩ rfl trivial ?_
    rintro ⟨⟩ _
    refine ⟨fun h1 => ?_, fun h1 => ?_⟩
    · have : (20 : Int) ≤ xs.length := dt h1
      omega
    · refine WCall.here rfl _ _ (isort_1 xs ver (by omega)) trivial ?_
      refine wloop (σ := Unit) (fun _ => [(1, i xs.length), (6, i 20)]) (fun _ => [rb (sortBy hlt xs) ver]) (fun _ => True) (fun _ => 0) () ⟨rfl, rfl, trivial⟩ rfl trivial ?_
      rintro ⟨⟩ _
      refine ⟨fun h1 => ?_, fun h1 => ?_⟩
      · have : (20 : Int) < xs.length := dt h1
        omega
      · exact end1 rfl (.inl rfl) rfl rfl trivial rfl (under_flat _)
  refine acall_run R_slices_SortStableFunc_api_Heard_api_Heard_ok ?_
  refine WCall.here rfl _ _ stable trivial ?_
  exact end1 rfl (.inl rfl) rfl rfl trivial rfl (under_flat _)
/-- Nothing to sort. -/
theorem ssort_0 : ACall Tryz.prog 28 [.p (.list 0 true []), .fn 29 []] [] (.tup []) [] := by
  have isort : ACall Tryz.prog 88 [.p (.list 0 true []), i 0, i 0, .fn 29 []] [] (.tup []) [] := by
    refine acall_run R_slices_insertionSortCmpFunc_api_Heard_ok ?_
    refine wloop (σ := Unit) (fun _ => [(2, i 0), (8, i (IntKind.i64.wrap (0 + 1)))]) (fun _ => []) (fun _ => True) (fun _ => 0) () ⟨rfl, rfl, trivial⟩ rfl trivial ?_
    rintro ⟨⟩ _
    exact ⟨fun h => absurd h (by decide), fun h => endP (.inl rfl) rfl rfl trivial⟩
  have stable : ACall Tryz.prog 57 [.p (.list 0 true []), i 0, .fn 29 []] [] (.tup []) [] := by
    refine acall_run R_slices_stableCmpFunc_api_Heard_ok ?_
    refine wloop (σ := Unit) (fun _ => [(0, .p (.list 0 true [])), (1, i 0), (2, .fn 29 []), (6, i 20), (7, i 0), (8, i 20)]) (fun _ => []) (fun _ => True) (fun _ => 0) () ⟨rfl, rfl, rfl, rfl, rfl, rfl, trivial⟩ rfl trivial ?_
    rintro ⟨⟩ _
    refine ⟨fun h1 => absurd h1 (by decide), fun h1 => ?_⟩
    refine WCall.here rfl _ _ isort trivial ?_
    refine wloop (σ := Unit) (fun _ => [(1, i 0), (6, i 20)]) (fun _ => []) (fun _ => True) (fun _ => 0) () ⟨rfl, rfl, trivial⟩ rfl trivial ?_
    rintro ⟨⟩ _
    exact ⟨fun h => absurd h (by decide), fun h => endP (.inl rfl) rfl rfl trivial⟩
  refine acall_run R_slices_SortStableFunc_api_Heard_api_Heard_ok ?_
  refine WCall.here rfl _ _ stable trivial ?_
  exact endP (.inl rfl) rfl rfl trivial
end Go.Proofs.YtlkphnhlibpngaaGreat.Abs
