/- Abs, part 5: operations on memory. -/
import Derived.Test.YtlkphnhlibpngaaGreatAbsSound
set_option linter.unusedVariables false
set_option linter.unusedSimpArgs false
namespace Go.Proofs.YtlkphnhlibpngaaGreat.Abs
open Go

section
variable {P : Program} {o : Oper} {a : Act} {S : Setup} {L : Env} {x : AV} {m' : Mem}

theorem Did.own {ρ : Operand → Value} {cs : List AV} {ys : List Value} {ty : TypeId} (hS : S.WF) (hv : VRs S cs ys)
    (hr : (execOp ρ o).run P S.w = .ok (.value (.pointer (some ⟨S.w.heap.size, 0, none⟩))) (S.w.alloc (.cells ys.toArray ty))) :
    Did P o ρ S (.ptr S.m.length 0 0) (S.m ++ [.box cs]) := by
  have e : ys.toArray = (ys ++ []).toArray := by simp
  have hwf := Setup.WF.own hS (cs := cs) (ys := ys) (rest := []) (ty := ty) (n := ys.length) hv (by simp)
  refine ⟨S.own cs (.cells (ys ++ []).toArray ty) ys.length, .pointer (some ⟨S.w.heap.size, 0, none⟩), .inl ?_, Ext.own hS _ _ _, hwf, rfl, ?_⟩
  · rw [hr, e]; rfl
  · refine ⟨⟨_, rfl, rfl⟩, .box cs, ?_, Nat.le_refl _, fun _ _ => ?_⟩
    · simp [Setup.own]
    · simp [Setup.own]

theorem sound_new {t : TypeId} {i : TypeInfo} {z : Value} (ho : o.op = .alloc t) (hi : P.info? t = some i) (hz : i.zero = some z) (hS : S.WF)
    (h : aop L S.m (.new (z.cells.toList.map fun c => .p (pconst c))) = some (x, m')) : Did P o a.eval S x m' := by
  simp only [aop, Option.some.injEq, Prod.mk.injEq] at h
  obtain ⟨rfl, rfl⟩ := h
  refine Did.own (ys := z.cells.toList) (ty := t) hS (pconst_VRs S _) ?_
  simp [execOp, ho, Instr.alloc, zeroValue, typeInfo, hi, hz, newVar, newRow]

theorem sound_box {t : TypeId} {z : Operand} (ho : o.op = .box t z) (hS : S.WF) (hg : Good S L a z) (h : aop L S.m (.box z) = some (x, m')) : Did P o a.eval S x m' := by
  simp only [aop] at h
  split at h
  · rename_i cs h1
    simp only [Option.bind_eq_some_iff] at h1
    obtain ⟨v, h1, h2⟩ := h1
    simp only [Option.some.injEq, Prod.mk.injEq] at h
    obtain ⟨rfl, rfl⟩ := h
    obtain ⟨g1, g2⟩ := VR.cells (hg _ h1) h2
    refine Did.own (ty := t) hS g1 ?_
    simp [execOp, ho, Instr.box, newVar, newRow]
  · simp at h

/-! ### reading -/
theorem VR.readCells {n : Nat} {v : AV} {y : Value} {cs : List AV} (hS : S.WF) (hv : VR S v y) (h : readCells S.m n v = some cs) :
    ∃ ad ys, y = .pointer (some ad) ∧ ad.spot = none ∧ cs.length = n ∧ VRs S cs ys ∧ (∀ (j : Nat) u, ys[j]? = some u → S.w.cell? (ad.add j) = some u) := by
  unfold Abs.readCells at h
  split at h
  · rename_i b ver off
    obtain ⟨⟨ad, rfl, hsp⟩, blk, h1, h2, h3⟩ := hv
    rw [h1] at h
    simp only at h
    split at h
    · rename_i hc
      obtain ⟨hc1, hc2, hc3⟩ := hc
      obtain rfl := Option.some.inj h
      obtain ⟨ys, rest, ty, g1, g2, g3⟩ := (hS.lies b blk h1 hc1).lies
      have he := h3 hc1 hc2
      simp only [Value.pointer.injEq, Option.some.injEq] at he
      subst he
      refine ⟨_, (ys.drop off).take n, rfl, rfl, by simp; omega, (g2.drop off).take n, fun j u hj => ?_⟩
      rw [List.getElem?_take] at hj
      split at hj
      · rw [List.getElem?_drop] at hj
        rw [add_eq _ rfl]
        simp only [World.cell?, g1, Option.isSome_none, Bool.false_eq_true, if_false, List.getElem?_toArray]
        rw [List.getElem?_append_left (List.getElem?_eq_some_iff.1 hj).1]
        exact hj
      · simp at hj
    · simp at h
  · rename_i cs'
    split at h
    · rename_i hn
      obtain rfl := Option.some.inj h
      obtain ⟨ad, rfl, h1, h2, h3⟩ := hv
      obtain ⟨ys, g1, g2, g3, _⟩ := PRC.vals h1 h3
      refine ⟨ad, ys.take n, rfl, h1, by simp; omega, VRs.pure (by simp [g1]) (fun i c y hc hy => ?_), fun j u hj => ?_⟩
      · rw [List.getElem?_take] at hc hy
        split at hc
        · rename_i hi; rw [if_pos hi] at hy; exact g3 i c y hc hy
        · simp at hc
      · rw [List.getElem?_take] at hj
        split at hj
        · exact g2 j u hj
        · simp at hj
    · simp at h
  · simp at h

theorem sound_ld {t : TypeId} {n : Option Nat} {z : Operand} (ho : o.op = .load t z) (hn : Program.cut? P t = some n) (hS : S.WF) (hg : Good S L a z) (h : aop L S.m (.ld n z) = some (x, m')) : Did P o a.eval S x m' := by
  unfold Program.cut? at hn
  split at hn
  · rename_i d i hu hi
    obtain rfl := Option.some.inj hn
    have hagg : (isAgg t).run P S.w = .ok (isAggD (some d)) S.w := by
      unfold isAgg; rw [Sem.run_bind, run_underlying hu]; cases d <;> simp [isAggD]
    cases hd : isAggD (some d) with
    | true =>
      simp only [hd, if_true, aop, Option.map_eq_some_iff, Option.bind_eq_some_iff, Prod.mk.injEq] at h
      obtain ⟨cs, ⟨v, h1, h2⟩, rfl, rfl⟩ := h
      obtain ⟨ad, ys, g1, g2, g3, g4, g5⟩ := VR.readCells hS (hg _ h1) h2
      refine Did.same (y := .agg ys.toArray) hS ?_ rfl ⟨ys, rfl, g4⟩
      have hl := run_loadCells_list (P := P) S.w ad ys g5
      rw [g4.length, g3] at hl
      simp [execOp, ho, g1, Instr.loadAt, Instr.sureAddr, loadVar, hagg, hd, sizeOf, typeInfo, hi, hl]
    | false =>
      simp only [hd, Bool.false_eq_true, if_false, aop] at h
      split at h
      · rename_i c h1
        simp only [Option.bind_eq_some_iff] at h1
        obtain ⟨v, h1, h2⟩ := h1
        simp only [Option.some.injEq, Prod.mk.injEq] at h
        obtain ⟨rfl, rfl⟩ := h
        obtain ⟨ad, ys, g1, g2, g3, g4, g5⟩ := VR.readCells hS (hg _ h1) h2
        obtain ⟨y, ys', rfl, g6, g7⟩ := g4
        have hc := g5 0 y rfl
        rw [add_zero'] at hc
        refine Did.same (y := y) hS ?_ rfl g6
        simp [execOp, ho, g1, Instr.loadAt, Instr.sureAddr, loadVar, hagg, hd, hc]
      · simp at h
  · simp at hn

/-! ### writing -/
theorem splice_len {α : Type} {cs ds : List α} {off : Nat} (h : off + ds.length ≤ cs.length) : (splice cs off ds).length = cs.length := by
  simp [splice]; omega

theorem sound_st {t : TypeId} {i : TypeInfo} {z1 z2 : Operand} (ho : o.op = .store t z1 z2) (hi : P.info? t = some i) (hS : S.WF) (h1 : Good S L a z1) (h2 : Good S L a z2)
    (h : aop L S.m (.st i.size z1 z2) = some (x, m')) : Did P o a.eval S x m' := by
  simp only [aop] at h
  split at h
  · rename_i p cs e1 e2
    simp only [Option.bind_eq_some_iff] at e2
    obtain ⟨v, e2, e3⟩ := e2
    split at h
    · rename_i hn
      simp only [Option.map_eq_some_iff, Prod.mk.injEq] at h
      obtain ⟨m2, h3, rfl, rfl⟩ := h
      unfold writeCells at h3
      split at h3
      · rename_i b ver off
        obtain ⟨⟨ad, hv1, hsp⟩, blk, hb, hle, hlive⟩ := h1 _ e1
        rw [hb] at h3
        simp only at h3
        split at h3
        · rename_i hc
          obtain ⟨hc1, hc2, hc3⟩ := hc
          obtain rfl := Option.some.inj h3
          obtain ⟨ys, rest, ty, g1, g2, g3⟩ := (hS.lies b blk hb hc1).lies
          have he := hlive hc1 hc2
          obtain ⟨k1, k2⟩ := VR.cells (h2 _ e2) e3
          have hlen : (a.eval z2).cells.toList.length = cs.length := k1.length
          have hsz : (a.eval z2).cells.size = i.size := by rw [← hn, ← hlen]; simp
          have hys : ys.length = blk.cells.length := g2.length
          have hst := run_storeCells_at P (S.β b) off ty (a.eval z2).cells.toList 0 (ys ++ rest).toArray S.w g1 (by simp only [hlen, Nat.add_zero, List.size_toArray, List.length_append]; omega) k2
          have hcells : ((ys ++ rest).toArray.toList.take (off + 0) ++ (a.eval z2).cells.toList ++ (ys ++ rest).toArray.toList.drop (off + 0 + (a.eval z2).cells.toList.length)).toArray
              = ((splice ys off (a.eval z2).cells.toList) ++ rest).toArray := by
            congr 1
            simp only [Nat.add_zero, splice]
            rw [List.take_append_of_le_length (by omega), List.drop_append_of_le_length (by omega)]
            simp
          rw [hcells] at hst
          have hvs : VRs S (splice blk.cells off cs) (splice ys off (a.eval z2).cells.toList) := by
            unfold splice
            rw [hlen]
            exact (g2.take off).append (k1.append (g2.drop _))
          have hl2 : (splice ys off (a.eval z2).cells.toList ++ rest).length = S.cap b := by
            rw [← g3, List.length_append, List.length_append, splice_len (by omega)]
          refine ⟨S.put b { blk with cells := splice blk.cells off cs } ((splice ys off (a.eval z2).cells.toList) ++ rest).toArray, undef, .inr ⟨?_, rfl⟩,
            Ext.put (blk' := { blk with cells := splice blk.cells off cs }) hS hb hc1 (Nat.le_refl _) _, Setup.WF.put (blk' := { blk with cells := splice blk.cells off cs }) hS hb hc1 (Nat.le_refl _) hvs hl2, rfl, rfl⟩
          rw [he] at hv1
          simp only [Value.pointer.injEq, Option.some.injEq] at hv1
          simp [execOp, ho, he, Instr.storeAt, Instr.sureAddr, storeVar, sizeOf, typeInfo, hi, hsz, hst, Setup.put]
        · simp at h3
      · simp at h3
    · simp at h
  · simp at h

/-! ### addresses -/
theorem sound_nilc {z : Operand} (ho : o.op = .nilCheck z) (hS : S.WF) (hg : Good S L a z) (h : aop L S.m (.nilc z) = some (x, m')) : Did P o a.eval S x m' := by
  simp only [aop] at h
  split at h
  · rename_i b ver off e1
    simp only [Option.some.injEq, Prod.mk.injEq] at h
    obtain ⟨rfl, rfl⟩ := h
    have hv := hg _ e1
    obtain ⟨ad, he, _⟩ := hv.1
    exact Did.same (y := a.eval z) hS (by simp [execOp, ho, he]) rfl hv
  · rename_i cs e1
    simp only [Option.some.injEq, Prod.mk.injEq] at h
    obtain ⟨rfl, rfl⟩ := h
    have hv := hg _ e1
    obtain ⟨ad, he, _⟩ := id hv
    exact Did.same (y := a.eval z) hS (by simp [execOp, ho, he]) rfl hv
  · rename_i f cs e1
    simp only [Option.some.injEq, Prod.mk.injEq] at h
    obtain ⟨rfl, rfl⟩ := h
    have hv := hg _ e1
    obtain ⟨ys, he, _⟩ := id hv
    exact Did.same (y := a.eval z) hS (by simp [execOp, ho, he]) rfl hv
  · simp at h

theorem sound_fad {t : TypeId} {k : Nat} {fs : Array Field} {f : Field} {i : TypeInfo} {z : Operand} (ho : o.op = .fieldAddr t z k) (hu : P.underlying t = some (.struct fs)) (hf : fs[k]? = some f)
    (hi : P.info? f.type = some i) (hsz : i.size ≠ 0) (hS : S.WF) (hg : Good S L a z) (h : aop L S.m (.fad f.offset z) = some (x, m')) : Did P o a.eval S x m' := by
  simp only [aop] at h
  split at h
  · rename_i b ver off e1
    simp only [Option.some.injEq, Prod.mk.injEq] at h
    obtain ⟨rfl, rfl⟩ := h
    obtain ⟨⟨ad, he, hsp⟩, blk, h1, h2, h3⟩ := hg _ e1
    refine Did.same (y := .pointer (some (ad.add f.offset))) hS ?_ rfl ⟨⟨_, rfl, add_spot _ hsp⟩, blk, h1, h2, fun ha hv => ?_⟩
    · simp [execOp, ho, he, Instr.fieldAt, run_underlying hu, hf, Instr.sureAddr, fieldPlace, sizeOf, typeInfo, hi, hsz]
    · have := h3 ha hv
      rw [he] at this
      simp only [Value.pointer.injEq, Option.some.injEq] at this
      subst this
      rw [add_eq _ rfl]
  · rename_i cs e1
    simp only [Option.some.injEq, Prod.mk.injEq] at h
    obtain ⟨rfl, rfl⟩ := h
    obtain ⟨ad, he, hsp, hfz, hc⟩ := hg _ e1
    refine Did.same (y := .pointer (some (ad.add f.offset))) hS ?_ rfl ⟨_, rfl, add_spot _ hsp, by rw [add_block]; exact hfz, PRC.drop _ hsp hc⟩
    simp [execOp, ho, he, Instr.fieldAt, run_underlying hu, hf, Instr.sureAddr, fieldPlace, sizeOf, typeInfo, hi, hsz]
  · simp at h

theorem sound_iad {t e : TypeId} {i : TypeInfo} {z1 z2 : Operand} (ho : o.op = .indexAddr t z1 z2) (hu : P.underlying t = some (.slice e)) (hi : P.info? e = some i) (hS : S.WF)
    (h1 : Good S L a z1) (h2 : Good S L a z2) (h : aop L S.m (.iad i.size z1 z2) = some (x, m')) : Did P o a.eval S x m' := by
  have hrun : ∀ (ad : Addr) (len cap : Nat) (k : IntKind) (n : Int), a.eval z1 = .slice (some ad) len cap → a.eval z2 = .int k n → 0 ≤ n → n < len →
      (execOp a.eval o).run P S.w = .ok (.value (.pointer (some (ad.add (n.toNat * i.size))))) S.w := by
    intro ad len cap k n e1 e2 h0 hl
    simp [execOp, ho, e1, e2, Instr.indexAt, asIntOf, run_underlying hu, h0, hl, sizeOf, typeInfo, hi]
  have hint : ∀ {v : AV} {n : Int}, opd L z2 = some v → asInt? v = some n → ∃ k, a.eval z2 = .int k n := by
    intro v n e1 e2
    unfold asInt? at e2
    split at e2
    · obtain rfl := Option.some.inj e2; exact ⟨_, h2 _ e1⟩
    · simp at e2
  simp only [aop] at h
  split at h
  · rename_i s tt xs n e1 e2
    simp only [Option.bind_eq_some_iff] at e2
    obtain ⟨v2, e2, e3⟩ := e2
    obtain ⟨k, e4⟩ := hint e2 e3
    split at h
    · rename_i hc
      obtain ⟨h0, rfl⟩ := hc
      simp only [Option.map_eq_some_iff, Prod.mk.injEq] at h
      obtain ⟨r, hr, rfl, rfl⟩ := h
      obtain ⟨b, len, cap, he, hl, _, _, _, hrr⟩ := h1 _ e1
      obtain ⟨ad, rfl, g1, g2, g3, g4⟩ := hrr.get hr
      have hlt := (List.getElem?_eq_some_iff.1 hr).1
      exact Did.same hS (hrun ad len cap k n he e4 h0 (by omega)) rfl ⟨_, rfl, add_spot _ g1, by rw [add_block]; exact g2, g4⟩
    · simp at h
  · rename_i b ver off k' s n e1 e2
    simp only [Option.bind_eq_some_iff] at e2
    obtain ⟨v2, e2, e3⟩ := e2
    obtain ⟨k, e4⟩ := hint e2 e3
    split at h
    · rename_i hc
      obtain ⟨h0, hlt, rfl⟩ := hc
      simp only [Option.some.injEq, Prod.mk.injEq] at h
      obtain ⟨rfl, rfl⟩ := h
      obtain ⟨ad, cap, he, g1, g2, g3, blk, g4, g5, g6⟩ := h1 _ e1
      refine Did.same hS (hrun ad k' cap k n he e4 h0 hlt) rfl ⟨⟨_, rfl, add_spot _ g1⟩, blk, g4, g5, fun ha hv => ?_⟩
      obtain ⟨rfl, _⟩ := g6 ha hv
      rw [add_eq _ rfl]
    · simp at h
  · simp at h

theorem sound_ext {z : Operand} {i : Nat} (ho : o.op = .extract z i) (hS : S.WF) (hg : Good S L a z) (h : aop L S.m (.ext i z) = some (x, m')) : Did P o a.eval S x m' := by
  simp only [aop] at h
  split at h
  · rename_i vs e1
    simp only [Option.map_eq_some_iff, Prod.mk.injEq] at h
    obtain ⟨v, h1, rfl, rfl⟩ := h
    obtain ⟨ys, he, hv⟩ := hg _ e1
    obtain ⟨y, g1, g2⟩ := hv.get h1
    exact Did.same (y := y) hS (by simp [execOp, ho, he, Instr.extract, g1]) rfl g2
  · simp at h

theorem sound_mkf {f : FuncId} {first caps : Array Operand} (ho : o.op = .makeFunc (.func f) first caps) (hf : first.isEmpty = true) (hS : S.WF) (hg : ∀ z ∈ caps.toList, Good S L a z)
    (h : aop L S.m (.mkf f caps.toList) = some (x, m')) : Did P o a.eval S x m' := by
  simp only [aop, Option.map_eq_some_iff, Prod.mk.injEq] at h
  obtain ⟨vs, h1, rfl, rfl⟩ := h
  have hv := good_opds hg h1
  have hf' : first = #[] := by simpa using hf
  refine Did.same (y := .func (.func f) #[] (caps.map a.eval)) hS (by simp [execOp, ho, hf', Instr.makeFunc]) rfl ⟨caps.toList.map a.eval, ?_, hv⟩
  rw [← List.map_toArray, Array.toArray_toList]

theorem VR.lenAV {v : AV} {y : Value} {n : Nat} (hv : VR S v y) (h : lenAV v = some n) : ∃ b c, y = .slice b n c ∧ n ≤ c := by
  unfold Abs.lenAV at h
  split at h
  · obtain rfl := Option.some.inj h
    obtain ⟨b, l, c, he, rfl, hc, _⟩ := hv
    exact ⟨b, c, he, hc⟩
  · obtain rfl := Option.some.inj h
    obtain ⟨ad, c, he, _, hc, _⟩ := hv
    exact ⟨_, c, he, hc⟩
  · simp at h

theorem sound_len {args : Array Operand} {ats : Array TypeId} {z : Operand} {t e : TypeId} (ho : o.op = .call { callee := .builtin .len, args := args, argTypes := ats }) (ha : args.toList = [z]) (ht : ats[0]? = some t)
    (hu : P.underlying t = some (.slice e)) (hS : S.WF) (hg : Good S L a z) (h : aop L S.m (.len z) = some (x, m')) : Did P o a.eval S x m' := by
  have hargs : args = #[z] := by rw [← Array.toArray_toList (xs := args), ha]
  simp only [aop] at h
  split at h
  case h_2 => simp at h
  rename_i n hb
  simp only [Option.bind_eq_some_iff] at hb
  obtain ⟨v, h1, h2⟩ := hb
  simp only [Option.some.injEq, Prod.mk.injEq] at h
  obtain ⟨rfl, rfl⟩ := h
  obtain ⟨b, c, he, _⟩ := VR.lenAV (hg _ h1) h2
  exact Did.same (y := .int .i64 n) hS (by simp [execOp, ho, hargs, Go.resolve, invoke, builtin, Builtin.len_, ht, he, run_underlying hu, goInt]) rfl rfl

theorem sound_slen {args : Array Operand} {ats : Array TypeId} {z : Operand} {t : TypeId} (ho : o.op = .call { callee := .builtin .len, args := args, argTypes := ats }) (ha : args.toList = [z]) (ht : ats[0]? = some t)
    (hu : P.underlying t = some .string) (hS : S.WF) (hg : Good S L a z) (h : aop L S.m (.slen z) = some (x, m')) : Did P o a.eval S x m' := by
  have hargs : args = #[z] := by rw [← Array.toArray_toList (xs := args), ha]
  simp only [aop] at h
  split at h
  case h_2 => simp at h
  rename_i s hb
  simp only [Option.some.injEq, Prod.mk.injEq] at h
  obtain ⟨rfl, rfl⟩ := h
  have he := VR.v (hg _ hb)
  exact Did.same (y := .int .i64 s.size) hS (by simp [execOp, ho, hargs, Go.resolve, invoke, builtin, Builtin.len_, ht, he, run_underlying hu, goInt]) rfl rfl

theorem sound_mnx {mx : Bool} {args : Array Operand} {ats : Array TypeId} {z1 z2 : Operand} (ho : o.op = .call { callee := .builtin (if mx then .max else .min), args := args, argTypes := ats }) (ha : args.toList = [z1, z2])
    (hS : S.WF) (h1 : Good S L a z1) (h2 : Good S L a z2) (h : aop L S.m (.mnx mx z1 z2) = some (x, m')) : Did P o a.eval S x m' := by
  have hargs : args = #[z1, z2] := by rw [← Array.toArray_toList (xs := args), ha]
  simp only [aop] at h
  split at h
  · rename_i k m k' n e1 e2
    simp only [Option.some.injEq, Prod.mk.injEq] at h
    obtain ⟨rfl, rfl⟩ := h
    have v1 := VR.v (h1 _ e1)
    have v2 := VR.v (h2 _ e2)
    cases mx
    · simp only [Bool.false_eq_true, if_false] at ho
      exact Did.same (y := .int k (if n < m then n else m)) hS (by simp [execOp, ho, hargs, Go.resolve, invoke, builtin, v1, v2, run_min_int2]) rfl rfl
    · simp only [if_true] at ho
      exact Did.same (y := .int k (if m < n then n else m)) hS (by simp [execOp, ho, hargs, Go.resolve, invoke, builtin, v1, v2, run_max_int2]) rfl rfl
  · simp at h
end
end Go.Proofs.YtlkphnhlibpngaaGreat.Abs
