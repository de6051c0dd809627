/- Abs, part 7: slice literals, slicing, append. -/
import Derived.Test.YtlkphnhlibpngaaGreatAbsSound3
set_option linter.unusedVariables false
set_option linter.unusedSimpArgs false
namespace Go.Proofs.YtlkphnhlibpngaaGreat.Abs
open Go

section
variable {P : Program} {o : Oper} {a : Act} {S : Setup} {L : Env} {x : AV} {m' : Mem}

theorem pure1_eq {c : AV} {r : PV} (h : c.pure1 = some r) : c = .p r := by
  unfold AV.pure1 at h
  split at h
  · split at h
    · exact congrArg AV.p (Option.some.inj h)
    · simp at h
  · exact congrArg AV.p (Option.some.inj h)
  · simp at h
theorem pures_eq : ∀ {cs : List AV} {r : List PV}, pures cs = some r → cs = r.map .p
  | [], r, h => by simp [pures] at h; subst h; rfl
  | c :: cs, r, h => by
    simp only [pures] at h
    split at h
    · rename_i x xs h1 h2
      obtain rfl := Option.some.inj h
      rw [pure1_eq h1, pures_eq h2]; rfl
    · simp at h
theorem VRs.PRs {cs : List PV} {ys : List Value} (h : VRs S (cs.map .p) ys) : ∀ (j : Nat) c v, cs[j]? = some c → ys[j]? = some v → PR S.w S.fz c v := by
  intro j c v hc hv
  obtain ⟨y, h1, h2⟩ := h.get (i := j) (c := .p c) (by simp [hc])
  rw [hv] at h1; obtain rfl := Option.some.inj h1; exact h2

/-- Rows that lie one behind the other. -/
theorem PRR.mk {w : World} {fz : Nat → Prop} {sz : Nat} : ∀ {rs : List (List PV)} {vs : List (List Value)} {ad : Addr}, ad.spot = none → fz ad.block → vs.length = rs.length → (∀ r ∈ rs, r.length = sz) → (∀ v ∈ vs, v.length = sz) →
    (∀ (j : Nat) u, vs.flatten[j]? = some u → w.cell? (ad.add j) = some u) → (∀ (i : Nat) r v, rs[i]? = some r → vs[i]? = some v → ∀ (j : Nat) c u, r[j]? = some c → v[j]? = some u → PR w fz c u) →
    (∀ u ∈ vs.flatten, u.oneCell' = true) → PRR w fz sz rs (some ad)
  | [], _, _, _, _, _, _, _, _, _, _ => trivial
  | r :: rs, [], _, _, _, hl, _, _, _, _, _ => by simp at hl
  | r :: rs, v :: vs, ad, hs, hf, hl, h1, h2, h3, h4, h5 => by
    have hv := h2 v (by simp)
    refine ⟨ad, rfl, hs, hf, h1 r (by simp), PRC.mk hs (by rw [hv, h1 r (by simp)]) (fun j u hj => ?_) (h4 0 r v rfl rfl) (fun u hu => h5 u (by simp [hu])), ?_⟩
    · refine h3 j u ?_
      rw [List.flatten_cons, List.getElem?_append_left (List.getElem?_eq_some_iff.1 hj).1]; exact hj
    · refine PRR.mk (add_spot _ hs) (by rw [add_block]; exact hf) (by simpa using hl) (fun r' hr => h1 r' (by simp [hr])) (fun v' hv' => h2 v' (by simp [hv'])) (fun j u hj => ?_)
        (fun i r' v' hr hv' => h4 (i + 1) r' v' (by simpa using hr) (by simpa using hv')) (fun u hu => h5 u (by simp at hu ⊢; exact .inr hu))
      rw [add_add _ _ hs]
      refine h3 (sz + j) u ?_
      rw [List.flatten_cons, List.getElem?_append_right (by omega), hv]
      rw [show sz + j - sz = j by omega]; exact hj

theorem fill_dense {sz : Nat} : ∀ (ps : List Value) (k : Nat) (ys : Array Value), (∀ p ∈ ps, p.cells.size = sz) → ys.size = (k + ps.length) * sz →
    ∃ zs, Instr.fill (fun i => some (i * sz, sz)) ys ((ps.zipIdx k).map fun (p : Value × Nat) => (p.2, p.1)) = some zs ∧ zs.toList = ys.toList.take (k * sz) ++ (ps.map fun p => p.cells.toList).flatten
  | [], k, ys, _, hl => ⟨ys, rfl, by
      simp only [List.map_nil, List.flatten_nil, List.append_nil]
      rw [List.take_of_length_le (by simp [hl])]⟩
  | p :: ps, k, ys, hp, hl => by
    have h1 := hp p (by simp)
    have hsz : (k + 1) * sz ≤ ys.size := by rw [hl]; exact Nat.mul_le_mul_right _ (by simp)
    have hks : k * sz + sz = (k + 1) * sz := by rw [Nat.succ_mul]
    have e3 : (p.cells.zipIdx.foldl (fun cs (q : Value × Nat) => cs.setIfInBounds (k * sz + q.2) q.1) ys).toList = Abs.splice ys.toList (k * sz) p.cells.toList := by
      have := fold_splice p.cells.toList 0 (k * sz) ys (by simp only [Array.length_toList, h1]; omega)
      rw [Nat.add_zero] at this
      rw [← this]
      congr 1
      rw [← Array.foldl_toList]
      simp
    obtain ⟨zs, g1, g2⟩ := fill_dense ps (k + 1) (p.cells.zipIdx.foldl (fun cs (q : Value × Nat) => cs.setIfInBounds (k * sz + q.2) q.1) ys) (fun q hq => hp q (by simp [hq])) (by
      rw [← Array.length_toList, e3, splice_len (by simp [h1]; omega), Array.length_toList, hl]
      simp [Nat.add_assoc, Nat.add_comm 1])
    refine ⟨zs, ?_, ?_⟩
    · have hc1 : (decide (p.cells.size ≠ sz) || decide (k * sz + p.cells.size > ys.size)) = false := by simp [h1]; omega
      simp only [List.zipIdx_cons, List.map_cons, Instr.fill, hc1, Bool.false_eq_true, if_false]
      exact g1
    · rw [g2, e3]
      unfold Abs.splice
      have e4 : (k + 1) * sz = (ys.toList.take (k * sz)).length + p.cells.toList.length := by simp [h1]; omega
      rw [e4, List.take_length_add_append, List.take_left']
      · simp
      · rfl

theorem dense_eq : ∀ {ps : List (Nat × Operand)} {k : Nat}, dense k ps = true → ps = ((ps.map (·.2)).zipIdx k).map fun (p : Operand × Nat) => (p.2, p.1)
  | [], _, _ => rfl
  | (j, z) :: ps, k, h => by
    simp only [dense, Bool.and_eq_true, beq_iff_eq] at h
    obtain ⟨rfl, h⟩ := h
    simp only [List.map_cons, List.zipIdx_cons]
    rw [← dense_eq h]

theorem arows_rel {sz : Nat} : ∀ {vs : List AV} {ys : List Value} {rs : List (List PV)}, VRs S vs ys → arows sz vs = some rs → rs.length = ys.length ∧ (∀ r ∈ rs, r.length = sz) ∧ (∀ y ∈ ys, y.cells.size = sz) ∧
    (∀ (i : Nat) r y, rs[i]? = some r → ys[i]? = some y → ∀ (j : Nat) c u, r[j]? = some c → y.cells.toList[j]? = some u → PR S.w S.fz c u) ∧ (∀ y ∈ ys, ∀ u ∈ y.cells.toList, u.oneCell' = true)
  | [], ys, rs, hv, h => by
    simp [arows] at h; subst h
    simp [VRs] at hv; subst hv; simp
  | v :: vs, ys, rs, hv, h => by
    obtain ⟨y, ys', rfl, h1, h2⟩ := hv
    simp only [arows] at h
    split at h
    case h_2 => simp at h
    rename_i cs hc
    split at h
    case h_2 => simp at h
    rename_i r rs' hp hr
    split at h
    case isFalse => simp at h
    rename_i hlen
    obtain rfl := Option.some.inj h
    obtain ⟨k1, k2⟩ := VR.cells h1 hc
    obtain ⟨g1, g2, g3, g4, g5⟩ := arows_rel h2 hr
    have hcs := pures_eq hp
    subst hcs
    have hsz : y.cells.size = sz := by have := k1.length; simp at this; omega
    refine ⟨by simp [g1], ?_, ?_, ?_, ?_⟩
    · intro r' hr'
      rcases List.mem_cons.1 hr' with rfl | hr'
      · exact hlen
      · exact g2 r' hr'
    · intro y' hy'
      rcases List.mem_cons.1 hy' with rfl | hy'
      · exact hsz
      · exact g3 y' hy'
    · intro i r' y' hr' hy'
      cases i with
      | zero => simp at hr' hy'; subst hr'; subst hy'; exact k1.PRs
      | succ i => simp at hr' hy'; exact g4 i r' y' hr' hy'
    · intro y' hy'
      rcases List.mem_cons.1 hy' with rfl | hy'
      · exact k2
      · exact g5 y' hy'

theorem sound_bsl {t e : TypeId} {len : Nat} {parts : Array (Nat × Operand)} {i : TypeInfo} {z : Value} (ho : o.op = .buildSlice t len parts) (hu : P.underlying t = some (.slice e)) (hi : P.info? e = some i) (hz : i.zero = some z)
    (hzs : z.cells.size = i.size) (h0 : 0 < i.size) (hmax : len * i.size ≤ 16777216) (hlen : parts.size = len) (hd : dense 0 parts.toList = true) (hS : S.WF) (hg : ∀ y ∈ parts.toList.map (·.2), Good S L a y)
    (h : aop L S.m (.bsl i.size (parts.toList.map (·.2))) = some (x, m')) : Did P o a.eval S x m' := by
  simp only [aop] at h
  split at h
  case h_2 => simp at h
  rename_i vs hvs
  simp only [Option.map_eq_some_iff, Prod.mk.injEq] at h
  obtain ⟨rs, h1, rfl, rfl⟩ := h
  have hv := good_opds hg hvs
  obtain ⟨g1, g2, g3, g4, g5⟩ := arows_rel hv h1
  have hz0 : ((Array.range (len * i.size)).map (z.cells[· % z.cells.size]!)).size = (0 + ((parts.toList.map (·.2)).map a.eval).length) * i.size := by simp [hlen]
  obtain ⟨zs, k1, k2⟩ := fill_dense ((parts.toList.map (·.2)).map a.eval) 0 _ g3 hz0
  have hparts : ((parts.map fun (p : Nat × Operand) => (p.1, a.eval p.2))).toList = (((parts.toList.map (·.2)).map a.eval).zipIdx 0).map fun (p : Value × Nat) => (p.2, p.1) := by
    have := dense_eq hd
    rw [Array.toList_map]
    conv => lhs; rw [this]
    simp [List.zipIdx_map, Function.comp_def]
  rw [← hparts] at k1
  simp only [Nat.zero_mul, List.take_zero, List.nil_append] at k2
  have hlr : rs.length = len := by rw [g1]; simp [hlen]
  have hrun : (execOp a.eval o).run P S.w = .ok (.value (.slice (some ⟨S.w.heap.size, 0, none⟩) len len)) (S.w.alloc (.cells zs e)) := by
    have hz' : (zeroValue e).run P S.w = .ok z S.w := by simp [zeroValue, typeInfo, hi, hz]
    have hsz' : (sizeOf e).run P S.w = .ok i.size S.w := by simp [sizeOf, typeInfo, hi]
    have hm : ¬ (16777216 < len * i.size) := by omega
    have hb : (Instr.buildSlice t len (parts.map fun (p : Nat × Operand) => (p.1, a.eval p.2))).run P S.w = .ok (.slice (some ⟨S.w.heap.size, 0, none⟩) len len) (S.w.alloc (.cells zs e)) := by
      unfold Instr.buildSlice
      by_cases hl0 : len = 0
      · subst hl0
        simp at hlen
        subst hlen
        simp only [Array.map_empty, Array.toList_empty, Instr.fill, Nat.zero_mul, show Array.range 0 = #[] from rfl, Array.map_empty, Option.some.injEq] at k1
        simp [run_underlying hu, hsz', Instr.fill, newRow, ← k1, show Array.range 0 = #[] from rfl]
      · have hne : ¬ (len * i.size = 0) := by
          intro he; rcases Nat.mul_eq_zero.1 he with h | h <;> omega
        have hne' : ¬ (len = 0 ∨ i.size = 0) := by omega
        simp only [Sem.run_bind, run_underlying hu, Result.andThen_ok, hsz', Sem.run_ite, show (2 ^ 24 : Nat) = 16777216 from rfl, if_neg hm, if_neg hne, Sem.run_pure, hz', k1, newRow, run_newObj, World.alloc_eq, gt_iff_lt]
    simp [execOp, ho, hb]
  have he := Ext.lay hS (.cells zs e)
  refine ⟨S.lay (.cells zs e), _, .inl hrun, he, hS.lay _, rfl, ?_⟩
  refine ⟨_, _, _, rfl, hlr.symm, Nat.le_refl _, by have := Nat.le_mul_of_pos_right len h0; omega, fun _ => rfl, ?_⟩
  have hfl : ((((parts.toList.map (·.2)).map a.eval).map fun p => p.cells.toList)).flatten = zs.toList := k2.symm
  refine PRR.mk (vs := ((parts.toList.map (·.2)).map a.eval).map fun p => p.cells.toList) rfl (.inr rfl) (by rw [g1]; simp) g2 ?_ ?_ ?_ ?_
  · intro v hv
    simp only [List.mem_map] at hv
    obtain ⟨p, hp, rfl⟩ := hv
    have := g3 p (by simp only [List.mem_map]; exact hp)
    simpa using this
  · intro j u hj
    rw [hfl] at hj
    rw [add_eq _ rfl]
    simp only [World.cell?, Setup.lay, heap_alloc_new, Option.isSome_none, Bool.false_eq_true, if_false, Nat.zero_add]
    simpa using hj
  · intro i' r v hr hv
    rw [List.getElem?_map, Option.map_eq_some_iff] at hv
    obtain ⟨p, hp, rfl⟩ := hv
    intro j c u hc hu'
    exact PR.mono he.fz _ _ (g4 i' r p hr hp j c u hc hu')
  · intro u hu'
    simp only [List.mem_flatten] at hu'
    obtain ⟨l, hl, hu'⟩ := hu'
    rw [List.mem_map] at hl
    obtain ⟨p, hp, rfl⟩ := hl
    exact g5 p hp u hu'
end
end Go.Proofs.YtlkphnhlibpngaaGreat.Abs
