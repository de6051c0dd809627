/- Abs, part 4: what an operation does in the abstract, the model does (all but calls). -/
import Derived.Test.YtlkphnhlibpngaaGreatAbsOps
import Derived.Laws.StructEq
set_option linter.unusedVariables false
set_option linter.unusedSimpArgs false
namespace Go.Proofs.YtlkphnhlibpngaaGreat.Abs
open Go

/-- The operation runs, and what it yields stands for x; the memory is m' then. -/
def Did (P : Program) (o : Oper) (ρ : Operand → Value) (S : Setup) (x : AV) (m' : Mem) : Prop :=
  ∃ S' y, ((execOp ρ o).run P S.w = .ok (.value y) S'.w ∨ ((execOp ρ o).run P S.w = .ok .skip S'.w ∧ y = undef)) ∧ Ext S S' ∧ S'.WF ∧ S'.m = m' ∧ VR S' x y

section
variable {P : Program} {o : Oper} {a : Act} {S : Setup} {L : Env} {x : AV} {m' : Mem}

theorem Did.same {ρ : Operand → Value} {y : Value} (hS : S.WF) (hr : (execOp ρ o).run P S.w = .ok (.value y) S.w) (hm : m' = S.m) (hv : VR S x y) : Did P o ρ S x m' :=
  ⟨S, y, .inl hr, Ext.refl S, hS, hm.symm, hv⟩

theorem VR.cells {y : Value} {cs : List AV} (h : VR S x y) (hc : x.cells? = some cs) : VRs S cs y.cells.toList ∧ (∀ u ∈ y.cells.toList, u.oneCell' = true) := by
  have key : ∀ (hx : x.one = true), VRs S [x] y.cells.toList ∧ (∀ u ∈ y.cells.toList, u.oneCell' = true) := by
    intro hx
    have h1 := VR.one hx h
    have : y.cells = #[y] := by cases y <;> simp_all [Value.cells, Value.oneCell']
    rw [this]
    exact ⟨⟨y, [], rfl, h, rfl⟩, by simpa using h1⟩
  unfold AV.cells? at hc
  split at hc
  · rename_i ds
    split at hc
    · rename_i hall
      obtain rfl := Option.some.inj hc
      obtain ⟨ys, rfl, hvs⟩ := h
      refine ⟨by simpa [Value.cells] using hvs, ?_⟩
      intro u hu
      simp only [Value.cells] at hu
      obtain ⟨i, hi⟩ := List.mem_iff_getElem?.1 hu
      have hlt : i < ds.length := by have := (List.getElem?_eq_some_iff.1 hi).1; rw [hvs.length] at this; exact this
      obtain ⟨z, hz1, hz2⟩ := hvs.get (List.getElem?_eq_getElem hlt)
      rw [hz1] at hi; obtain rfl := Option.some.inj hi
      exact VR.one (List.all_eq_true.1 hall _ (List.getElem_mem hlt)) hz2
    · simp at hc
  · split at hc
    · obtain rfl := Option.some.inj hc
      exact key ‹_›
    · simp at hc

theorem pconst_one {c : Value} (h : oneV c = true) : AV.one (.p (pconst c)) = true := by
  unfold pconst; split
  · rfl
  · exact h

/-! ### moves, numbers -/
theorem sound_mov {z : Operand} (ho : o.op = .move z ∨ o.op = .assign z) (hS : S.WF) (hg : Good S L a z) (h : aop L S.m (.mov z) = some (x, m')) : Did P o a.eval S x m' := by
  simp only [aop, Option.map_eq_some_iff] at h
  obtain ⟨v, h1, h2⟩ := h
  simp only [Prod.mk.injEq] at h2
  obtain ⟨rfl, rfl⟩ := h2
  exact Did.same hS (by rcases ho with ho | ho <;> simp [execOp, ho]) rfl (hg _ h1)

theorem VR.bool {b : Bool} {y : Value} (h : VR S (.p (.v (.bool b))) y) : y = .bool b := h
theorem VR.v {u y : Value} (h : VR S (.p (.v u)) y) : y = u := h

theorem sound_pick {c z1 z2 : Operand} (ho : o.op = .pick c z1 z2) (hS : S.WF) (hc : Good S L a c) (h1 : Good S L a z1) (h2 : Good S L a z2) (h : aop L S.m (.pick c z1 z2) = some (x, m')) : Did P o a.eval S x m' := by
  simp only [aop] at h
  split at h
  · rename_i t u v e1 e2 e3
    simp only [Option.some.injEq, Prod.mk.injEq] at h
    obtain ⟨rfl, rfl⟩ := h
    have hb := VR.bool (hc _ e1)
    refine Did.same (y := if t then a.eval z1 else a.eval z2) hS ?_ rfl ?_
    · simp [execOp, ho, hb, asBool]
    · cases t
      · exact h2 _ e3
      · exact h1 _ e2
  · simp at h

theorem sound_un {op : UnOp} {t : TypeId} {z : Operand} (ho : o.op = .unOp op t z) (hS : S.WF) (hg : Good S L a z) (h : aop L S.m (.un op z) = some (x, m')) : Did P o a.eval S x m' := by
  simp only [aop, Option.map_eq_some_iff, Option.bind_eq_some_iff] at h
  obtain ⟨v, ⟨u, h1, h3⟩, h2⟩ := h
  simp only [Prod.mk.injEq] at h2
  obtain ⟨rfl, rfl⟩ := h2
  have hz := hg _ h1
  unfold unop at h3
  split at h3
  · rename_i k n
    obtain rfl := Option.some.inj h3
    exact Did.same (y := .int k (k.wrap (0 - n))) hS (by simp [execOp, ho, VR.v hz, Op.unary, Op.intArith]) rfl rfl
  · rename_i b
    obtain rfl := Option.some.inj h3
    exact Did.same (y := .bool !b) hS (by simp [execOp, ho, VR.v hz, Op.unary]) rfl rfl
  · rename_i k n
    obtain rfl := Option.some.inj h3
    exact Did.same (y := .int k (k.wrap (BitVec.ofInt k.bits (if k.signed then -1 else k.max) ^^^ BitVec.ofInt k.bits n).toNat)) hS (by simp [execOp, ho, VR.v hz, Op.unary, Op.intBits]) rfl rfl
  · simp at h3

theorem sound_cvt {s t : TypeId} {d : TypeDesc} {k : IntKind} {z : Operand} (ho : o.op = .convert s t z) (hs : P.underlying s = some d) (ht : P.underlying t = some (.int k)) (hS : S.WF) (hg : Good S L a z)
    (h : aop L S.m (.cvt k z) = some (x, m')) : Did P o a.eval S x m' := by
  simp only [aop] at h
  split at h
  · rename_i k' n e1
    simp only [Option.some.injEq, Prod.mk.injEq] at h
    obtain ⟨rfl, rfl⟩ := h
    exact Did.same (y := .int k (k.wrap n)) hS (by simp [execOp, ho, VR.v (hg _ e1), convert, run_underlying hs, run_underlying ht, Conv.intToInt]) rfl rfl
  · simp at h

theorem run_binInt (w : World) (t : TypeId) {op : BinOp} {k : IntKind} {m n : Int} {v : AV} (h : binInt op k m n = some v) : ∃ y, (binOp op t (.int k m) (.int k n)).run P w = .ok y w ∧ VR S v y := by
  cases op with
  | add => obtain rfl := Option.some.inj h; exact ⟨.int k (k.wrap (m + n)), by simp [binOp, Op.intArith], rfl⟩
  | sub => obtain rfl := Option.some.inj h; exact ⟨.int k (k.wrap (m - n)), by simp [binOp, Op.intArith], rfl⟩
  | mul => obtain rfl := Option.some.inj h; exact ⟨.int k (k.wrap (m * n)), by simp [binOp, Op.intArith], rfl⟩
  | quo =>
    simp only [binInt] at h
    by_cases h0 : n = 0
    · simp [h0] at h
    · rw [if_neg h0] at h; obtain rfl := Option.some.inj h; exact ⟨.int k (k.wrap (m.tdiv n)), by simp [binOp, Op.intDiv, h0], rfl⟩
  | rem =>
    simp only [binInt] at h
    by_cases h0 : n = 0
    · simp [h0] at h
    · rw [if_neg h0] at h; obtain rfl := Option.some.inj h; exact ⟨.int k (m.tmod n), by simp [binOp, Op.intDiv, h0], rfl⟩
  | and => obtain rfl := Option.some.inj h; exact ⟨.int k (k.wrap (BitVec.ofInt k.bits m &&& BitVec.ofInt k.bits n).toNat), by simp [binOp, Op.intBits], rfl⟩
  | or => obtain rfl := Option.some.inj h; exact ⟨.int k (k.wrap (BitVec.ofInt k.bits m ||| BitVec.ofInt k.bits n).toNat), by simp [binOp, Op.intBits], rfl⟩
  | xor => obtain rfl := Option.some.inj h; exact ⟨.int k (k.wrap (BitVec.ofInt k.bits m ^^^ BitVec.ofInt k.bits n).toNat), by simp [binOp, Op.intBits], rfl⟩
  | eql => obtain rfl := Option.some.inj h; exact ⟨.bool (m == n), by simp [binOp, Op.intCmp], rfl⟩
  | neq => obtain rfl := Option.some.inj h; exact ⟨.bool (m != n), by simp [binOp, Op.intCmp], rfl⟩
  | lss => obtain rfl := Option.some.inj h; exact ⟨.bool (decide (m < n)), by simp [binOp, Op.intCmp], rfl⟩
  | leq => obtain rfl := Option.some.inj h; exact ⟨.bool (decide (m ≤ n)), by simp [binOp, Op.intCmp], rfl⟩
  | gtr => obtain rfl := Option.some.inj h; exact ⟨.bool (decide (n < m)), by simp [binOp, Op.intCmp], rfl⟩
  | geq => obtain rfl := Option.some.inj h; exact ⟨.bool (decide (n ≤ m)), by simp [binOp, Op.intCmp], rfl⟩
  | _ => simp [binInt] at h

theorem run_shiftInt (w : World) (t : TypeId) {op : BinOp} {k k' : IntKind} {m n : Int} {v : AV} (ho : op = .shl ∨ op = .shr) (h : shiftInt op k m n = some v) :
    ∃ y, (binOp op t (.int k m) (.int k' n)).run P w = .ok y w ∧ VR S v y := by
  unfold shiftInt at h
  split at h
  · simp at h
  · rename_i h0
    rcases ho with rfl | rfl
    · obtain rfl := Option.some.inj h
      exact ⟨.int k (k.wrap (m * 2 ^ (min n.toNat k.bits))), by simp [binOp, Op.shift, h0], rfl⟩
    · obtain rfl := Option.some.inj h
      exact ⟨.int k (m.fdiv (2 ^ (min n.toNat k.bits))), by simp [binOp, Op.shift, h0], rfl⟩

theorem pure_append {cs ds : List Value} {n : Nat} : ((cs ++ ds).toArray)[n]? = (cs ++ ds)[n]? := by simp

theorem run_eqFields_cells (w : World) (d : Nat) : ∀ (fs : List Field) (i : Nat) (us vs : List Value) (cs ds : List AV) (r : Bool), flatInts P fs i = true →
    VRs S cs (us.drop i) → VRs S ds (vs.drop i) → eqCells cs ds = some r → fs.length = cs.length → (Op.eqFields (d + 1) us.toArray vs.toArray fs).run P w = .ok r w
  | [], i, us, vs, cs, ds, r, _, h1, h2, h3, hl => by
    have : cs = [] := List.eq_nil_of_length_eq_zero (by simpa using hl.symm)
    subst this
    cases ds with
    | nil => simp [eqCells] at h3; subst h3; simp [Op.eqFields]
    | cons _ _ => simp [eqCells] at h3
  | f :: fs, i, us, vs, cs, ds, r, hf, h1, h2, h3, hl => by
    simp only [flatInts, Bool.and_eq_true, bne_iff_ne, ne_eq, beq_iff_eq] at hf
    obtain ⟨⟨⟨hn, ho⟩, hk⟩, hrest⟩ := hf
    cases hu : P.underlying f.type with
    | none => simp [hu] at hk
    | some dd =>
      cases dd <;> simp [hu] at hk
      rename_i kk
      cases cs with
      | nil => simp at hl
      | cons c cs =>
        unfold eqCells at h3
        split at h3
        · rename_i h; cases h
        · rename_i k m xs k' n ys e1
          simp only [List.cons.injEq] at e1
          obtain ⟨rfl, rfl⟩ := e1
          split at h3
          · rename_i hkk
            subst hkk
            simp only [Option.map_eq_some_iff] at h3
            obtain ⟨q, h3, rfl⟩ := h3
            obtain ⟨z, zs, hz, hz1, hz2⟩ := h1
            obtain ⟨z', zs', hz', hz1', hz2'⟩ := h2
            obtain rfl : z = .int k m := hz1
            obtain rfl : z' = .int k n := hz1'
            have ei : us[i]? = some (.int k m) := by rw [← List.head?_drop, hz]; rfl
            have ei' : vs[i]? = some (.int k n) := by rw [← List.head?_drop, hz']; rfl
            have er : us.drop (i + 1) = zs := by rw [← List.tail_drop, hz]; rfl
            have er' : vs.drop (i + 1) = zs' := by rw [← List.tail_drop, hz']; rfl
            have ih := run_eqFields_cells w d fs (i + 1) us vs cs ys q hrest (by rw [er]; exact hz2) (by rw [er']; exact hz2') h3 (by simpa using hl)
            have hagg : (isAgg f.type).run P w = .ok false w := by simp [isAgg, run_underlying hu]
            have p1 : (part f.type us.toArray f.offset).run P w = .ok (.int k m) w := by simp [part, hagg, ho, ei]
            have p2 : (part f.type vs.toArray f.offset).run P w = .ok (.int k n) w := by simp [part, hagg, ho, ei']
            have p3 := run_equalIn_int (P := P) w d f.type k kk m n hu
            simp only [Op.eqFields, hn, ne_eq, not_false_eq_true, if_true, Sem.run_bind, p1, p2, p3, Result.andThen_ok, Sem.run_ite, ih]
            by_cases hmn : m = n
            · subst hmn; simp
            · simp [hmn]
          · simp at h3
        · simp at h3

theorem VRs.agg {S : Setup} {cs : List AV} {y : Value} (h : VR S (.agg cs) y) : ∃ ys : List Value, y = .agg ys.toArray ∧ VRs S cs ys := h

theorem eqCells_len : ∀ {cs ds : List AV} {r : Bool}, eqCells cs ds = some r → cs.length = ds.length
  | [], [], _, _ => rfl
  | [], _ :: _, _, h => by simp [eqCells] at h
  | c :: cs, ds, r, h => by
    unfold eqCells at h
    split at h
    · rename_i h'; cases h'
    · rename_i k m xs k' n ys e1
      simp only [List.cons.injEq] at e1
      obtain ⟨rfl, rfl⟩ := e1
      split at h
      · simp only [Option.map_eq_some_iff] at h
        obtain ⟨q, h, _⟩ := h
        simp [eqCells_len h]
      · simp at h
    · simp at h


/-- '==' by the type, the guard ahead of it with it. -/
theorem run_eqAV {t : TypeId} {x y : AV} {u v : Value} {r : Bool} (hx : VR S x u) (hy : VR S y v) (h : eqAV (eqT P t) x y = some r) : (Op.equal t u v).run P S.w = .ok r S.w ∧
      ∀ (op : BinOp) (z1 z2 : Operand), (eqGuard op t z1 z2 u v).run P S.w = .ok () S.w := by
  unfold eqT at h
  split at h
  · rename_i hu
    simp only [eqAV] at h
    unfold eqB at h
    split at h
    · rename_i b c
      obtain rfl := Option.some.inj h
      obtain rfl := VR.v hx; obtain rfl := VR.v hy
      exact ⟨by rw [run_equal_bool S.w t b c hu]; rfl, fun op z1 z2 => by unfold eqGuard; cases op <;> simp⟩
    · simp at h
  · rename_i e hu
    have hu' : P.underlying t = some (.pointer (P.pointee t)) := by simp [Program.pointee, hu]
    simp only [eqAV] at h
    unfold eqP at h
    split at h
    · obtain rfl := Option.some.inj h
      obtain ⟨⟨ad, rfl, _⟩, _⟩ := hx; obtain rfl := VR.v hy
      exact ⟨by rw [run_equal_pointer_nil S.w t (some ad) hu']; rfl, fun op z1 z2 => by unfold eqGuard; cases op <;> simp⟩
    · obtain rfl := Option.some.inj h
      obtain ⟨ad, rfl, _⟩ := hx; obtain rfl := VR.v hy
      exact ⟨by rw [run_equal_pointer_nil S.w t (some ad) hu']; rfl, fun op z1 z2 => by unfold eqGuard; cases op <;> simp⟩
    · obtain rfl := Option.some.inj h
      obtain rfl := VR.v hx; obtain rfl := VR.v hy
      exact ⟨by rw [run_equal_pointer_nil S.w t none hu']; rfl, fun op z1 z2 => by unfold eqGuard; cases op <;> simp⟩
    · simp at h
  · rename_i fs hu
    split at h
    · rename_i hf
      simp only [Bool.and_eq_true, Bool.not_eq_true'] at hf
      obtain ⟨⟨hf1, hf2⟩, hf3⟩ := hf
      simp only [eqAV] at h
      unfold eqC at h
      split at h
      · rename_i cs ds
        split at h
        · rename_i hlen
          obtain ⟨us, rfl, hus⟩ := hx
          obtain ⟨vs, rfl, hvs⟩ := hy
          have hfs : P.fieldsOf t = fs := by simp [Program.fieldsOf, hu]
          refine ⟨?_, fun op z1 z2 => ?_⟩
          · rw [Op.equal, Op.maxDepth, run_equalIn_struct S.w 9999 t us.toArray vs.toArray (by rw [hfs]; exact hu) hf2, hfs]
            exact run_eqFields_cells S.w 9998 fs.toList 0 us vs cs ds r hf1 hus hvs h hlen.symm
          · unfold eqGuard; cases op <;> simp [hf3]
        · simp at h
      · simp at h
    · simp [eqAV] at h
  · simp [eqAV] at h

theorem guard_int (w : World) (op : BinOp) (t : TypeId) (z1 z2 : Operand) (k k' : IntKind) (m n : Int) : (eqGuard op t z1 z2 (.int k m) (.int k' n)).run P w = .ok () w := by
  unfold eqGuard; cases op <;> simp
theorem guard_string (w : World) (op : BinOp) (t : TypeId) (z1 z2 : Operand) (m n : ByteArray) : (eqGuard op t z1 z2 (.string m) (.string n)).run P w = .ok () w := by
  unfold eqGuard; cases op <;> simp

theorem run_eqlv (w : World) (t : TypeId) {x y : AV} {u v : Value} {et : EqT} {r : Bool} (hx : VR S x u) (hy : VR S y v) (h : eqAV et x y = some r) (he : (Op.equal t u v).run P w = .ok r w) :
    (binOp .eql t u v).run P w = .ok (.bool r) w ∧ (binOp .neq t u v).run P w = .ok (.bool (!r)) w := by
  cases et with
  | bool =>
    simp only [eqAV] at h; unfold eqB at h; split at h
    · obtain rfl := VR.v hx; obtain rfl := VR.v hy; simp [binOp, he]
    · simp at h
  | ptr =>
    simp only [eqAV] at h; unfold eqP at h; split at h
    · obtain ⟨⟨ad, rfl, _⟩, _⟩ := hx; obtain rfl := VR.v hy; simp [binOp, he]
    · obtain ⟨ad, rfl, _⟩ := hx; obtain rfl := VR.v hy; simp [binOp, he]
    · obtain rfl := VR.v hx; obtain rfl := VR.v hy; simp [binOp, he]
    · simp at h
  | cells n =>
    simp only [eqAV] at h; unfold eqC at h; split at h
    · obtain ⟨us, rfl, hus⟩ := hx; obtain ⟨vs, rfl, hvs⟩ := hy; simp [binOp, he]
    · simp at h
  | no => simp [eqAV] at h

theorem toList_beq (b c : ByteArray) : (b.toList == c.toList) = decide (b = c) := by
  rw [Bool.eq_iff_iff]
  simp only [beq_iff_eq, decide_eq_true_eq]
  constructor
  · intro h
    rw [ByteArray.toList_eq, ByteArray.toList_eq] at h
    obtain ⟨⟨b⟩⟩ := b
    obtain ⟨⟨c⟩⟩ := c
    simp at h
    rw [h]
  · rintro rfl; rfl

theorem run_binop {op : BinOp} {t : TypeId} {x y z : AV} {u v : Value} (hx : VR S x u) (hy : VR S y v) (h : binop op (eqT P t) x y = some z) :
    ∃ q, (binOp op t u v).run P S.w = .ok q S.w ∧ VR S z q ∧ ∀ z1 z2, (eqGuard op t z1 z2 u v).run P S.w = .ok () S.w := by
  unfold binop at h
  split at h
  · obtain rfl := VR.v hx; obtain rfl := VR.v hy
    obtain ⟨q, h1, h2⟩ := run_shiftInt (P := P) (S := S) S.w t (.inl rfl) h
    exact ⟨q, h1, h2, fun z1 z2 => guard_int _ _ _ _ _ _ _ _ _⟩
  · obtain rfl := VR.v hx; obtain rfl := VR.v hy
    obtain ⟨q, h1, h2⟩ := run_shiftInt (P := P) (S := S) S.w t (.inr rfl) h
    exact ⟨q, h1, h2, fun z1 z2 => guard_int _ _ _ _ _ _ _ _ _⟩
  · split at h
    · rename_i hk
      subst hk
      obtain rfl := VR.v hx; obtain rfl := VR.v hy
      obtain ⟨q, h1, h2⟩ := run_binInt (P := P) (S := S) S.w t h
      exact ⟨q, h1, h2, fun z1 z2 => guard_int _ _ _ _ _ _ _ _ _⟩
    · simp at h
  · rename_i b c
    obtain rfl := VR.v hx; obtain rfl := VR.v hy
    obtain rfl := Option.some.inj h
    exact ⟨.bool (b.toList == c.toList), by simp [binOp, Op.stringOp], by rw [toList_beq]; rfl, fun z1 z2 => guard_string _ _ _ _ _ _ _⟩
  · rename_i b c
    obtain rfl := VR.v hx; obtain rfl := VR.v hy
    obtain rfl := Option.some.inj h
    exact ⟨.bool (!(b.toList == c.toList)), by simp [binOp, Op.stringOp], by rw [toList_beq]; rfl, fun z1 z2 => guard_string _ _ _ _ _ _ _⟩
  · simp only [Option.map_eq_some_iff] at h
    obtain ⟨r, h1, rfl⟩ := h
    obtain ⟨g1, g2⟩ := run_eqAV hx hy h1
    exact ⟨_, (run_eqlv S.w t hx hy h1 g1).1, rfl, g2 _⟩
  · simp only [Option.map_eq_some_iff] at h
    obtain ⟨r, h1, rfl⟩ := h
    obtain ⟨g1, g2⟩ := run_eqAV hx hy h1
    exact ⟨_, (run_eqlv S.w t hx hy h1 g1).2, rfl, g2 _⟩
  · simp at h

theorem sound_bin {op : BinOp} {t t' : TypeId} {z1 z2 : Operand} (ho : o.op = .binOp op t z1 z2 t') (hS : S.WF) (h1 : Good S L a z1) (h2 : Good S L a z2)
    (h : aop L S.m (.bin op (eqT P t) z1 z2) = some (x, m')) : Did P o a.eval S x m' := by
  simp only [aop] at h
  split at h
  · rename_i u v e1 e2
    simp only [Option.map_eq_some_iff, Prod.mk.injEq] at h
    obtain ⟨w, h3, rfl, rfl⟩ := h
    obtain ⟨q, g1, g2, g3⟩ := run_binop (h1 _ e1) (h2 _ e2) h3
    exact Did.same hS (by simp [execOp, ho, g3, g1]) rfl g2
  · simp at h

theorem run_nil_slice (w : World) (t e : TypeId) (a : Option Addr) (n c : Nat) (hu : P.underlying t = some (.slice e)) (z1 z2 : Operand) (op : BinOp) :
    (binOp .eql t (.slice a n c) (.slice none 0 0)).run P w = .ok (.bool (!a.isSome)) w ∧ (binOp .neq t (.slice a n c) (.slice none 0 0)).run P w = .ok (.bool a.isSome) w ∧
    (eqGuard op t z1 z2 (.slice a n c) (.slice none 0 0)).run P w = .ok () w := by
  have key : (Op.equal t (.slice a n c) (.slice none 0 0)).run P w = .ok (!a.isSome) w := by
    unfold Op.equal Op.maxDepth
    show (Op.equalIn (9999 + 1) t (.slice a n c) (.slice none 0 0)).run P w = .ok (!a.isSome) w
    generalize 9999 = d
    cases a <;> simp [Op.equalIn, run_underlying hu]
  refine ⟨?_, ?_, ?_⟩
  · simp [binOp, key]
  · simp [binOp, key]
  · unfold eqGuard; cases op <;> simp

theorem sound_snil {neg : Bool} {t t' e : TypeId} {z1 : Operand} (ho : o.op = .binOp (if neg then .neq else .eql) t z1 (.const (.slice none 0 0)) t') (hu : P.underlying t = some (.slice e)) (hS : S.WF) (h1 : Good S L a z1)
    (h : aop L S.m (.snil neg z1) = some (x, m')) : Did P o a.eval S x m' := by
  have key : ∀ (ad : Option Addr) (n c : Nat), a.eval z1 = .slice ad n c → Did P o a.eval S (bools (if ad.isSome then neg else !neg)) S.m := by
    intro ad n c he
    have hc : a.eval (.const (.slice none 0 0)) = .slice none 0 0 := rfl
    refine Did.same (y := .bool (if ad.isSome then neg else !neg)) hS ?_ rfl rfl
    cases neg
    · obtain ⟨g1, g2, g3⟩ := run_nil_slice (P := P) S.w t e ad n c hu z1 (.const (.slice none 0 0)) .eql
      simp only [Bool.false_eq_true, if_false] at ho
      simp [execOp, ho, he, hc, g1, g3]
    · obtain ⟨g1, g2, g3⟩ := run_nil_slice (P := P) S.w t e ad n c hu z1 (.const (.slice none 0 0)) .neq
      simp only [if_true] at ho
      simp [execOp, ho, he, hc, g2, g3]
  simp only [aop] at h
  split at h
  · rename_i e1
    simp only [Option.some.injEq, Prod.mk.injEq] at h
    obtain ⟨rfl, rfl⟩ := h
    obtain ⟨ad, cap, he, _⟩ := h1 _ e1
    exact key (some ad) _ cap he
  · rename_i e1
    simp only [Option.some.injEq, Prod.mk.injEq] at h
    obtain ⟨rfl, rfl⟩ := h
    obtain ⟨b, n, c, he, _, _, _, _, h6⟩ := h1 _ e1
    obtain ⟨ad, rfl, _⟩ := h6
    exact key (some ad) n c he
  · rename_i ad n c e1
    simp only [Option.some.injEq, Prod.mk.injEq] at h
    obtain ⟨rfl, rfl⟩ := h
    exact key ad n c (h1 _ e1)
  · simp at h
end
end Go.Proofs.YtlkphnhlibpngaaGreat.Abs
