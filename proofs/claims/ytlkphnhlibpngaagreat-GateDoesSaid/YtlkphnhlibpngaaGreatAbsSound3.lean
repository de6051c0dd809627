/- Abs, part 6: literals, fields, slicing, append; all operations but calls in one theorem. -/
import Derived.Test.YtlkphnhlibpngaaGreatAbsSound2
set_option linter.unusedVariables false
set_option linter.unusedSimpArgs false
namespace Go.Proofs.YtlkphnhlibpngaaGreat.Abs
open Go

section
variable {P : Program} {o : Oper} {a : Act} {S : Setup} {L : Env} {x : AV} {m' : Mem}

theorem fold_splice : ∀ (ds : List Value) (k off : Nat) (cs : Array Value), off + k + ds.length ≤ cs.size →
    ((ds.zipIdx k).foldl (fun cs (p : Value × Nat) => cs.setIfInBounds (off + p.2) p.1) cs).toList = splice cs.toList (off + k) ds
  | [], k, off, cs, _ => by simp [splice]
  | d :: ds, k, off, cs, h => by
    simp only [List.length_cons] at h
    simp only [List.zipIdx_cons, List.foldl_cons]
    rw [fold_splice ds (k + 1) off (cs.setIfInBounds (off + k) d) (by simp; omega)]
    have hseg := list_seg_step cs.toList (off + k) d ds (by simp; omega)
    have : (cs.setIfInBounds (off + k) d).toList = cs.toList.set (off + k) d := by simp
    rw [this]
    unfold splice
    rw [show off + (k + 1) = off + k + 1 by omega]
    simp only [List.length_cons]
    rw [← List.append_assoc, hseg]
    simp

theorem VRs.splice {cs ds : List AV} {ys zs : List Value} {off : Nat} (h : VRs S cs ys) (g : VRs S ds zs) : VRs S (splice cs off ds) (splice ys off zs) := by
  unfold Abs.splice
  rw [g.length]
  exact (h.take off).append (g.append (h.drop _))

theorem fill_rel {place : Nat → Option (Nat × Nat)} : ∀ (vs : List (Nat × Nat × AV)) (ps : List (Nat × Value)) (cs : List AV) (ys : Array Value) (r : List AV), vs.length = ps.length →
    (∀ (j : Nat) (off n : Nat) (v : AV) (i : Nat) (y : Value), vs[j]? = some (off, n, v) → ps[j]? = some (i, y) → place i = some (off, n) ∧ VR S v y) →
    VRs S cs ys.toList → afill cs vs = some r → ∃ zs, Instr.fill place ys ps = some zs ∧ VRs S r zs.toList
  | [], [], cs, ys, r, _, _, hv, h => by simp [afill] at h; subst h; exact ⟨ys, rfl, hv⟩
  | [], _ :: _, _, _, _, hl, _, _, _ => by simp at hl
  | _ :: _, [], _, _, _, hl, _, _, _ => by simp at hl
  | (off, n, v) :: vs, (i, y) :: ps, cs, ys, r, hl, hp, hv, h => by
    simp only [afill] at h
    split at h
    · rename_i ds hc
      split at h
      · rename_i hcond
        obtain ⟨h1, h2⟩ := hcond
        obtain ⟨hpl, hvr⟩ := hp 0 off n v i y rfl rfl
        obtain ⟨k1, k2⟩ := VR.cells hvr hc
        have e1 : y.cells.size = n := by rw [← h1, ← k1.length]; simp
        have e2 : ys.size = cs.length := by rw [← hv.length]; simp
        have e3 : (y.cells.zipIdx.foldl (fun cs (p : Value × Nat) => cs.setIfInBounds (off + p.2) p.1) ys).toList = Abs.splice ys.toList off y.cells.toList := by
          have := fold_splice y.cells.toList 0 off ys (by simp [e1, e2]; omega)
          rw [Nat.add_zero] at this
          rw [← this]
          congr 1
          rw [← Array.foldl_toList]
          simp
        have ih := fill_rel vs ps (Abs.splice cs off ds) (y.cells.zipIdx.foldl (fun cs (p : Value × Nat) => cs.setIfInBounds (off + p.2) p.1) ys) r (by simpa using hl)
          (fun j off' n' v' i' y' hj hj' => hp (j + 1) off' n' v' i' y' (by simpa using hj) (by simpa using hj')) (by rw [e3]; exact hv.splice k1) h
        obtain ⟨zs, g1, g2⟩ := ih
        refine ⟨zs, ?_, g2⟩
        have hc1 : (decide (y.cells.size ≠ n) || decide (off + y.cells.size > ys.size)) = false := by simp [e1, e2]; omega
        simp only [Instr.fill, hpl, hc1, Bool.false_eq_true, if_false]
        exact g1
      · simp at h
    · simp at h

theorem aparts_rel : ∀ {ps : List (Nat × Nat × Operand)} {vs : List (Nat × Nat × AV)}, aparts L ps = some vs → vs.length = ps.length ∧
    ∀ (j off n : Nat) (v : AV), vs[j]? = some (off, n, v) → ∃ z, ps[j]? = some (off, n, z) ∧ opd L z = some v
  | [], vs, h => by simp [aparts] at h; subst h; simp
  | (off, n, z) :: ps, vs, h => by
    simp only [aparts] at h
    split at h
    · rename_i v vs' h1 h2
      obtain rfl := Option.some.inj h
      obtain ⟨g1, g2⟩ := aparts_rel h2
      refine ⟨by simp [g1], fun j off' n' v' hj => ?_⟩
      cases j with
      | zero => simp at hj; obtain ⟨rfl, rfl, rfl⟩ := hj; exact ⟨z, rfl, h1⟩
      | succ j => simp at hj; obtain ⟨z', e1, e2⟩ := g2 j off' n' v' hj; exact ⟨z', by simpa using e1, e2⟩
    · simp at h

theorem places_rel {fs : Array Field} : ∀ {parts : List (Nat × Operand)} {ps : List (Nat × Nat × Operand)}, places P fs parts = some ps → ps.length = parts.length ∧
    ∀ (j off n : Nat) (z : Operand), ps[j]? = some (off, n, z) → ∃ i f inf, parts[j]? = some (i, z) ∧ fs[i]? = some f ∧ P.info? f.type = some inf ∧ off = f.offset ∧ n = inf.size
  | [], ps, h => by simp [places] at h; subst h; simp
  | (i, z) :: parts, ps, h => by
    simp only [places] at h
    split at h
    · rename_i f hf
      split at h
      · rename_i inf ps' h1 h2
        obtain rfl := Option.some.inj h
        obtain ⟨g1, g2⟩ := places_rel h2
        refine ⟨by simp [g1], fun j off n z' hj => ?_⟩
        cases j with
        | zero => simp at hj; obtain ⟨rfl, rfl, rfl⟩ := hj; exact ⟨i, f, inf, rfl, hf, h1, rfl, rfl⟩
        | succ j => simp at hj; obtain ⟨i', f', inf', e⟩ := g2 j off n z' hj; exact ⟨i', f', inf', by simpa using e.1, e.2⟩
      · simp at h
    · simp at h

theorem mapM_places (w : World) : ∀ (fs : List Field), (fs.all fun f => (P.info? f.type).isSome) = true →
    (fs.mapM (m := Sem) (fun f => do pure (f.offset, ← sizeOf f.type))).run P w = .ok (fs.map fun f => (f.offset, ((P.info? f.type).map (·.size)).getD 0)) w
  | [], _ => by simp
  | f :: fs, h => by
    simp only [List.all_cons, Bool.and_eq_true] at h
    obtain ⟨i, hi⟩ := Option.isSome_iff_exists.1 h.1
    have ih := mapM_places w fs h.2
    have hf : (do pure (f.offset, ← sizeOf f.type) : Sem (Nat × Nat)).run P w = .ok (f.offset, i.size) w := by simp [sizeOf, typeInfo, hi]
    rw [List.mapM_cons, Sem.run_bind, hf, Result.andThen_ok, Sem.run_bind, ih]
    simp [hi]

theorem sound_build {t : TypeId} {parts : Array (Nat × Operand)} {fs : Array Field} {i : TypeInfo} {z : Value} {ps : List (Nat × Nat × Operand)} (ho : o.op = .build t parts) (hu : P.underlying t = some (.struct fs))
    (hi : P.info? t = some i) (hz : i.zero = some z) (hfs : (fs.toList.all fun f => (P.info? f.type).isSome) = true) (hp : places P fs parts.toList = some ps) (hS : S.WF)
    (hg : ∀ y ∈ ps.map (·.2.2), Good S L a y) (h : aop L S.m (.build (z.cells.toList.map fun c => .p (pconst c)) ps) = some (x, m')) : Did P o a.eval S x m' := by
  simp only [aop] at h
  split at h
  case h_2 => simp at h
  rename_i vs hvs
  simp only [Option.map_eq_some_iff, Prod.mk.injEq] at h
  obtain ⟨cs, h1, rfl, rfl⟩ := h
  obtain ⟨a1, a2⟩ := aparts_rel hvs
  obtain ⟨p1, p2⟩ := places_rel hp
  have hplaces : (fs.mapM (m := Sem) (fun f => do pure (f.offset, ← sizeOf f.type))).run P S.w = .ok (fs.map fun f => (f.offset, ((P.info? f.type).map (·.size)).getD 0)) S.w := by
    have := mapM_places (P := P) S.w fs.toList hfs
    rw [← Array.toArray_toList (xs := fs)]
    rw [List.mapM_toArray]
    simp only [Sem.run_bind, map_eq_pure_bind] at this ⊢
    rw [this]
    simp only [Result.andThen_ok, Sem.run_pure]
    rw [← List.map_toArray, Array.toArray_toList]
  obtain ⟨zs, g1, g2⟩ := fill_rel (S := S) (place := fun k => (fs.map fun f => (f.offset, ((P.info? f.type).map (·.size)).getD 0))[k]?) vs (parts.map fun (p : Nat × Operand) => (p.1, a.eval p.2)).toList _ z.cells cs
    (by simp [a1, p1]) (fun j off n v k y hj hk => by
      obtain ⟨q, e1, e2⟩ := a2 j off n v hj
      obtain ⟨k', f, inf, e3, e4, e5, rfl, rfl⟩ := p2 j off n q e1
      simp only [Array.toList_map, List.getElem?_map, Option.map_eq_some_iff] at hk
      obtain ⟨pp, hk1, hk2⟩ := hk
      rw [e3] at hk1
      obtain rfl := Option.some.inj hk1
      simp only [Prod.mk.injEq] at hk2
      obtain ⟨rfl, rfl⟩ := hk2
      refine ⟨by simp [e4, e5], hg q ?_ v e2⟩
      exact List.mem_map.2 ⟨_, List.mem_of_getElem? e1, rfl⟩) (pconst_VRs S _) h1
  refine Did.same (y := .agg zs) hS ?_ rfl ⟨zs.toList, by simp, g2⟩
  have hz' : (zeroValue t).run P S.w = .ok z S.w := by simp [zeroValue, typeInfo, hi, hz]
  have hb : (Instr.build t (parts.map fun (p : Nat × Operand) => (p.1, a.eval p.2))).run P S.w = .ok (.agg zs) S.w := by
    unfold Instr.build
    simp only [Sem.run_bind, hz', Result.andThen_ok, run_underlying hu, hplaces, g1, Sem.run_pure]
  simp [execOp, ho, hb]

theorem sound_fld {t : TypeId} {k : Nat} {fs : Array Field} {f : Field} {n : Option Nat} {z : Operand} (ho : o.op = .field t z k) (hu : P.underlying t = some (.struct fs)) (hf : fs[k]? = some f)
    (hn : Program.cut? P f.type = some n) (hS : S.WF) (hg : Good S L a z) (h : aop L S.m (.fld f.offset n z) = some (x, m')) : Did P o a.eval S x m' := by
  unfold Program.cut? at hn
  split at hn
  case h_2 => simp at hn
  rename_i d i hu' hi
  obtain rfl := Option.some.inj hn
  have hagg : (isAgg f.type).run P S.w = .ok (isAggD (some d)) S.w := by
    unfold isAgg; rw [Sem.run_bind, run_underlying hu']; cases d <;> simp [isAggD]
  cases hd : isAggD (some d) with
  | true =>
    simp only [hd, if_true, aop] at h
    split at h
    case h_2 => simp at h
    rename_i cs e1
    simp only [Option.some.injEq, Prod.mk.injEq] at h
    obtain ⟨rfl, rfl⟩ := h
    obtain ⟨ys, he, hv⟩ := hg _ e1
    refine Did.same (y := .agg ((ys.drop f.offset).take i.size).toArray) hS ?_ rfl ⟨_, rfl, (hv.drop _).take _⟩
    have e2 : ys.toArray.extract f.offset (f.offset + i.size) = ((ys.drop f.offset).take i.size).toArray := by
      simp [List.extract_toArray, List.extract_eq_take_drop]
    simp [execOp, ho, he, Instr.field, run_underlying hu, hf, asAgg, part, hagg, hd, sizeOf, typeInfo, hi, e2]
  | false =>
    simp only [hd, Bool.false_eq_true, if_false, aop] at h
    split at h
    case h_2 => simp at h
    rename_i cs e1
    simp only [Option.map_eq_some_iff, Prod.mk.injEq] at h
    obtain ⟨c, h1, rfl, rfl⟩ := h
    obtain ⟨ys, he, hv⟩ := hg _ e1
    obtain ⟨y, g1, g2⟩ := hv.get h1
    refine Did.same (y := y) hS ?_ rfl g2
    simp [execOp, ho, he, Instr.field, run_underlying hu, hf, asAgg, part, hagg, hd, g1]
end
end Go.Proofs.YtlkphnhlibpngaaGreat.Abs
