/- Abs, part 22: what is known may be told otherwise: blocks take other numbers, rows are only read from then on; loops whose rounds are told so. -/
import Derived.Test.YtlkphnhlibpngaaGreatAbsRows
set_option linter.unusedVariables false
set_option linter.unusedSimpArgs false
namespace Go.Proofs.YtlkphnhlibpngaaGreat.Abs
open Go

/-- As Tells, for those who knew k blocks at most. -/
def TellsK (N k : Nat) (L : Env) (m : Mem) (L' : Env) (m' : Mem) : Prop :=
  ∀ S a, S.m = m → S.WF → ER S N L a → ∃ S', S'.w = S.w ∧ S'.WF ∧ S'.m = m' ∧ ER S' N L' a ∧ (∀ S0, Ext S0 S → S0.m.length ≤ k → Ext S0 S')

mutual
/-- What a value becomes when the block of number os[b] is called b, and all others are only read. -/
inductive Tr (m : Mem) (os : List Nat) : AV → AV → Prop
  | p (x : PV) : Tr m os (.p x) (.p x)
  | fp (cs : List PV) : Tr m os (.fp cs) (.fp cs)
  | ptr {b b' ver off : Nat} (h : os[b']? = some b) : Tr m os (.ptr b ver off) (.ptr b' ver off)
  | sl {b b' ver off n sz : Nat} (h : os[b']? = some b) : Tr m os (.sl b ver off n sz) (.sl b' ver off n sz)
  | agg {xs ys : List AV} (h : Trs m os xs ys) : Tr m os (.agg xs) (.agg ys)
  | tup {xs ys : List AV} (h : Trs m os xs ys) : Tr m os (.tup xs) (.tup ys)
  | fn {f : FuncId} {xs ys : List AV} (h : Trs m os xs ys) : Tr m os (.fn f xs) (.fn f ys)
  | iface {t : TypeId} {x y : AV} (h : Tr m os x y) : Tr m os (.iface t x) (.iface t y)
  | list {b ver n sz : Nat} {blk : Blk} {xs : List (List PV)} (hk : b ∉ os) (hb : m[b]? = some blk) (ha : blk.alive = true) (hv : ver = blk.cur) (hc : blk.cells = (xs.flatten).map .p) (hn : xs.length = n) (hl : ∀ r ∈ xs, r.length = sz) (h1 : ∀ c ∈ blk.cells, c.one = true) :
      Tr m os (.sl b ver 0 n sz) (.p (.list sz false xs))
  | fptr {b ver off : Nat} {blk : Blk} {cs : List PV} (hk : b ∉ os) (hb : m[b]? = some blk) (ha : blk.alive = true) (hv : ver = blk.cur) (hc : blk.cells = cs.map .p) (h1 : ∀ c ∈ blk.cells, c.one = true) : Tr m os (.ptr b ver off) (.fp (cs.drop off))
  | le {x y z : AV} (h : Tr m os x y) (hl : y.le z) : Tr m os x z
inductive Trs (m : Mem) (os : List Nat) : List AV → List AV → Prop
  | nil : Trs m os [] []
  | cons {x y : AV} {xs ys : List AV} (h : Tr m os x y) (hs : Trs m os xs ys) : Trs m os (x :: xs) (y :: ys)
end
theorem trs_p (m : Mem) (os : List Nat) : ∀ l : List PV, Trs m os (l.map .p) (l.map .p)
  | [] => .nil
  | x :: l => .cons (.p x) (trs_p m os l)
theorem Trs.length {m : Mem} {os : List Nat} : ∀ {xs ys : List AV}, Trs m os xs ys → ys.length = xs.length
  | _, _, .nil => rfl
  | _, _, .cons _ h => by simp [Trs.length h]

/-- A number's place. -/
def pos (b : Nat) : Nat → List Nat → Option Nat
  | _, [] => none
  | k, c :: os => if Nat.beq c b = true then some k else pos b (k + 1) os
theorem pos_get {b : Nat} : ∀ {os : List Nat} {k b' : Nat}, pos b k os = some b' → k ≤ b' ∧ os[b' - k]? = some b
  | [], k, b', h => by simp [pos] at h
  | c :: os, k, b', h => by
    simp only [pos] at h
    split at h
    · rename_i hc
      obtain rfl := Option.some.inj h
      simp [Nat.eq_of_beq_eq_true hc]
    · obtain ⟨h1, h2⟩ := pos_get h
      refine ⟨by omega, ?_⟩
      rw [show b' - k = (b' - (k + 1)) + 1 by omega]
      simpa using h2
mutual
def ren (os : List Nat) : AV → Option AV
  | .p x => some (.p x)
  | .fp cs => some (.fp cs)
  | .ptr b v o => match pos b 0 os with
    | some b' => some (.ptr b' v o)
    | none => none
  | .sl b v o n s => match pos b 0 os with
    | some b' => some (.sl b' v o n s)
    | none => none
  | .agg xs => match rens os xs with
    | some ys => some (.agg ys)
    | none => none
  | .tup xs => match rens os xs with
    | some ys => some (.tup ys)
    | none => none
  | .fn f xs => match rens os xs with
    | some ys => some (.fn f ys)
    | none => none
  | .iface t x => match ren os x with
    | some y => some (.iface t y)
    | none => none
def rens (os : List Nat) : List AV → Option (List AV)
  | [] => some []
  | x :: xs => match ren os x, rens os xs with
    | some y, some ys => some (y :: ys)
    | _, _ => none
end
mutual
theorem tr {m : Mem} {os : List Nat} : ∀ {x y : AV}, ren os x = some y → Tr m os x y
  | .p x, y, h => by simp only [ren, Option.some.injEq] at h; subst h; exact .p x
  | .fp x, y, h => by simp only [ren, Option.some.injEq] at h; subst h; exact .fp x
  | .ptr b v o, y, h => by
    simp only [ren] at h
    split at h
    · rename_i b' hp; obtain rfl := Option.some.inj h; exact .ptr (by simpa using (pos_get hp).2)
    · simp at h
  | .sl b v o n s, y, h => by
    simp only [ren] at h
    split at h
    · rename_i b' hp; obtain rfl := Option.some.inj h; exact .sl (by simpa using (pos_get hp).2)
    · simp at h
  | .agg xs, y, h => by
    simp only [ren] at h
    split at h
    · rename_i ys hp; obtain rfl := Option.some.inj h; exact .agg (trs hp)
    · simp at h
  | .tup xs, y, h => by
    simp only [ren] at h
    split at h
    · rename_i ys hp; obtain rfl := Option.some.inj h; exact .tup (trs hp)
    · simp at h
  | .fn f xs, y, h => by
    simp only [ren] at h
    split at h
    · rename_i ys hp; obtain rfl := Option.some.inj h; exact .fn (trs hp)
    · simp at h
  | .iface t x, y, h => by
    simp only [ren] at h
    split at h
    · rename_i y' hp; obtain rfl := Option.some.inj h; exact .iface (tr hp)
    · simp at h
theorem trs {m : Mem} {os : List Nat} : ∀ {xs ys : List AV}, rens os xs = some ys → Trs m os xs ys
  | [], ys, h => by simp only [rens, Option.some.injEq] at h; subst h; exact .nil
  | x :: xs, ys, h => by
    simp only [rens] at h
    split at h
    · rename_i y' ys' h1 h2; obtain rfl := Option.some.inj h; exact .cons (tr h1) (trs h2)
    · simp at h
end

/-- The memory M, block for block. -/
def MemT (m : Mem) (os : List Nat) : List Nat → Mem → Prop
  | [], [] => True
  | [], blk :: M => blk.alive = false ∧ MemT m os [] M
  | b :: bs, blk' :: M => (∃ blk, m[b]? = some blk ∧ blk'.cur = blk.cur ∧ blk'.alive = blk.alive ∧ Trs m os blk.cells blk'.cells) ∧ MemT m os bs M
  | _ :: _, [] => False
theorem MemT.get {m : Mem} {os : List Nat} : ∀ {bs : List Nat} {M : Mem}, MemT m os bs M → ∀ {b' : Nat} {blk' : Blk}, M[b']? = some blk' → (∃ b blk, bs[b']? = some b ∧ m[b]? = some blk ∧ blk'.cur = blk.cur ∧ blk'.alive = blk.alive ∧ Trs m os blk.cells blk'.cells) ∨ (bs.length ≤ b' ∧ blk'.alive = false)
  | [], [], _, b', blk', h => by simp at h
  | [], blk :: M, hm, 0, blk', h => by simp at h; subst h; exact .inr ⟨Nat.le_refl _, hm.1⟩
  | [], blk :: M, hm, b' + 1, blk', h => by
    rcases MemT.get hm.2 (b' := b') (blk' := blk') (by simpa using h) with ⟨b, x, h1, _⟩ | ⟨_, h2⟩
    · simp at h1
    · exact .inr ⟨Nat.zero_le _, h2⟩
  | b :: bs, blk :: M, hm, 0, blk', h => by
    simp at h; subst h
    obtain ⟨x, h1, h2, h3, h4⟩ := hm.1
    exact .inl ⟨b, x, rfl, h1, h2, h3, h4⟩
  | b :: bs, blk :: M, hm, b' + 1, blk', h => by
    rcases MemT.get hm.2 (b' := b') (blk' := blk') (by simpa using h) with ⟨c, x, h1, h2⟩ | ⟨h1, h2⟩
    · exact .inl ⟨c, x, by simpa using h1, h2⟩
    · exact .inr ⟨by simpa using h1, h2⟩
  | _ :: _, [], hm, _, _, _ => hm.elim
theorem MemT.of {m : Mem} {os : List Nat} : ∀ {bs : List Nat} {M : Mem}, MemT m os bs M → ∀ {b' b : Nat}, bs[b']? = some b → ∃ blk blk', m[b]? = some blk ∧ M[b']? = some blk' ∧ blk'.cur = blk.cur ∧ blk'.alive = blk.alive
  | [], _, _, b', b, h => by simp at h
  | c :: bs, blk :: M, hm, 0, b, h => by
    simp at h; subst h
    obtain ⟨x, h1, h2, h3, h4⟩ := hm.1
    exact ⟨x, blk, h1, rfl, h2, h3⟩
  | c :: bs, blk :: M, hm, b' + 1, b, h => by
    obtain ⟨x, y, h1, h2, h3⟩ := MemT.of hm.2 (b' := b') (b := b) (by simpa using h)
    exact ⟨x, y, h1, by simpa using h2, h3⟩
  | _ :: _, [], hm, _, _, _ => hm.elim
/-- The frame E is L, told so. -/
def EnvT (m : Mem) (os : List Nat) (L : Env) : Env → Prop
  | [] => True
  | (t, x') :: E => (∃ x, L.get t = some x ∧ Tr m os x x') ∧ EnvT m os L E
theorem EnvT.get {m : Mem} {os : List Nat} {L : Env} : ∀ {E : Env}, EnvT m os L E → ∀ {t : Nat} {x' : AV}, E.get t = some x' → ∃ x, L.get t = some x ∧ Tr m os x x'
  | [], _, _, _, h => by simp [Env.get] at h
  | (s, y) :: E, hs, t, x, h => by
    simp only [Env.get_cons] at h
    split at h
    · rename_i e; subst e; obtain rfl := Option.some.inj h; exact hs.1
    · exact EnvT.get hs.2 h
/-- Those who knew k blocks find them. -/
def OldT (m M : Mem) (os : List Nat) : Nat → Prop
  | 0 => True
  | b + 1 => OldT m M os b ∧ (os[b]? = some b ∨ ∃ c, M[b]? = some (.dead c) ∧ ∀ blk, m[b]? = some blk → blk.cur ≤ c)
theorem OldT.get {m M : Mem} {os : List Nat} : ∀ {k : Nat}, OldT m M os k → ∀ {b : Nat}, b < k → os[b]? = some b ∨ ∃ c, M[b]? = some (.dead c) ∧ ∀ blk, m[b]? = some blk → blk.cur ≤ c
  | 0, _, b, h => by omega
  | k + 1, hk, b, h => by
    by_cases e : b = k
    · subst e; exact hk.2
    · exact OldT.get hk.1 (by omega)

structure TCtx (S S' : Setup) (os : List Nat) : Prop where
  fz : ∀ q, S.fz q → S'.fz q ∧ S'.w.heap[q]? = S.w.heap[q]?
  of : ∀ b' b, os[b']? = some b → ∃ blk blk', S.m[b]? = some blk ∧ S'.m[b']? = some blk' ∧ blk'.cur = blk.cur ∧ blk'.alive = blk.alive ∧ S'.β b' = S.β b ∧ S'.cap b' = S.cap b
  far : ∀ b blk (cs : List PV), b ∉ os → S.m[b]? = some blk → blk.alive = true → blk.cells = cs.map .p → (∀ c ∈ blk.cells, c.one = true) → PRC S'.w S'.fz cs ⟨S.β b, 0, none⟩ ∧ S'.fz (S.β b)
mutual
theorem Tr.sound {S S' : Setup} {os : List Nat} (C : TCtx S S' os) : ∀ {x x' : AV}, Tr S.m os x x' → ∀ {y : Value}, VR S x y → VR S' x' y
  | _, _, .p x, y, hv => PR.mono C.fz x y hv
  | _, _, .fp cs, y, hv => by
    obtain ⟨ad, g1, g2, g3, g4⟩ := hv
    exact ⟨ad, g1, g2, (C.fz _ g3).1, PRC.mono C.fz cs ad g3 g4⟩
  | _, _, .ptr h, y, hv => by
    obtain ⟨h0, blk, g1, g2, g3⟩ := hv
    obtain ⟨q1, q2, q3, q4, q5, q6, q7, q8⟩ := C.of _ _ h
    rw [g1] at q3; obtain rfl := Option.some.inj q3
    refine ⟨h0, q2, q4, by rw [q5]; exact g2, fun ha hv => ?_⟩
    rw [q7]
    exact g3 (by rw [← q6]; exact ha) (by rw [← q5]; exact hv)
  | _, _, .sl h, y, hv => by
    obtain ⟨ad, cap, e1, e2, e3, e4, blk, g1, g2, g3⟩ := hv
    obtain ⟨q1, q2, q3, q4, q5, q6, q7, q8⟩ := C.of _ _ h
    rw [g1] at q3; obtain rfl := Option.some.inj q3
    refine ⟨ad, cap, e1, e2, e3, e4, q2, q4, by rw [q5]; exact g2, fun ha hv => ?_⟩
    rw [q7, q8]
    exact g3 (by rw [← q6]; exact ha) (by rw [← q5]; exact hv)
  | _, _, .agg h, y, hv => by obtain ⟨ys, g1, g2⟩ := hv; exact ⟨ys, g1, Trs.sound C h g2⟩
  | _, _, .tup h, y, hv => by obtain ⟨ys, g1, g2⟩ := hv; exact ⟨ys, g1, Trs.sound C h g2⟩
  | _, _, .fn h, y, hv => by obtain ⟨ys, g1, g2⟩ := hv; exact ⟨ys, g1, Trs.sound C h g2⟩
  | _, _, .iface h, y, hv => by obtain ⟨z, g1, g2⟩ := hv; exact ⟨z, g1, Tr.sound C h g2⟩
  | _, _, .list hk hb ha hvv hcl hn hlr h1, y, hv => by
    obtain ⟨ad, cap, rfl, e2, e3, e4, blk', k1, k2, k3⟩ := hv
    rw [hb] at k1; obtain rfl := Option.some.inj k1
    obtain ⟨rfl, e8, e9⟩ := k3 ha hvv
    obtain ⟨f1, f2⟩ := C.far _ _ _ hk hb ha hcl h1
    exact ⟨_, _, _, rfl, hn.symm, e3, e4, fun h => by simp at h, prr_of_prc rfl f2 hlr f1⟩
  | _, _, .fptr (off := off) hk hb ha hvv hcl h1, y, hv => by
    obtain ⟨_, blk', k1, k2, k3⟩ := hv
    rw [hb] at k1; obtain rfl := Option.some.inj k1
    obtain ⟨f1, f2⟩ := C.far _ _ _ hk hb ha hcl h1
    have h3 := PRC.drop off rfl f1
    rw [add_eq _ rfl, Nat.zero_add] at h3
    exact ⟨_, k3 ha hvv, rfl, f2, h3⟩
  | _, _, .le h hl, y, hv => hl _ _ (Tr.sound C h hv)
theorem Trs.sound {S S' : Setup} {os : List Nat} (C : TCtx S S' os) : ∀ {xs xs' : List AV}, Trs S.m os xs xs' → ∀ {ys : List Value}, VRs S xs ys → VRs S' xs' ys
  | _, _, .nil, ys, hv => hv
  | _, _, .cons h hs, ys, hv => by
    obtain ⟨z, zs, g1, g2, g3⟩ := hv
    exact ⟨z, zs, g1, Tr.sound C h g2, Trs.sound C hs g3⟩
end

section
variable {P : Program} {N : Nat}
theorem tells {k : Nat} {L E : Env} {m M : Mem} (os : List Nat) (hd : os.Nodup) (hM : MemT m os os M) (hk : OldT m M os k) (hE : EnvT m os L E) : TellsK N k L m E M := by
  intro S a h1 h2 h3
  subst h1
  let Far : Nat → Prop := fun q => ∃ b blk, b ∉ os ∧ S.m[b]? = some blk ∧ blk.alive = true ∧ S.β b = q
  let S' : Setup := { m := M, w := S.w, β := fun b => S.β (os.getD b 0), cap := fun b => S.cap (os.getD b 0), fz := fun q => S.fz q ∨ Far q }
  have hgd : ∀ {b' b : Nat}, os[b']? = some b → os.getD b' 0 = b := fun h => by rw [List.getD_eq_getElem?_getD, h]; rfl
  have hfarlt : ∀ q, Far q → q < S.w.heap.size := fun q ⟨b, blk, _, hb, ha, he⟩ => h2.owned_lt ⟨b, blk, hb, ha, he⟩
  have hne : ∀ {b : Nat} {blk : Blk}, b ∈ os → S.m[b]? = some blk → blk.alive = true → ¬ Far (S.β b) := by
    rintro b blk hlt hb ha ⟨b', blk', hk, hb', ha', he⟩
    have := h2.inj b' b blk' blk hb' hb ha' ha he
    exact hk (this ▸ hlt)
  have hfz : ∀ q, S.fz q → S'.fz q ∧ S'.w.heap[q]? = S.w.heap[q]? := fun q h => ⟨.inl h, rfl⟩
  have C : TCtx S S' os := by
    refine ⟨hfz, fun b' b h => ?_, fun b blk cs hbo hb ha hcl h1 => ⟨?_, .inr ⟨b, blk, hbo, hb, ha, rfl⟩⟩⟩
    · obtain ⟨q1, q2, q3, q4, q5, q6⟩ := hM.of h
      exact ⟨q1, q2, q3, q4, q5, q6, by show S.β (os.getD b' 0) = _; rw [hgd h], by show S.cap (os.getD b' 0) = _; rw [hgd h]⟩
    · obtain ⟨⟨ys, rest, ty, g1, g2, g3⟩, g4⟩ := h2.lies b blk hb ha
      rw [hcl] at g2
      have hl' : ys.length = cs.length := by rw [g2.length, List.length_map]
      refine PRC.mk (ys := ys) rfl hl' (fun j u hj => ?_) (fun j q u hq hu => ?_) (fun u hu => ?_)
      · rw [add_eq _ rfl]
        show S.w.cell? _ = _
        simp only [World.cell?, g1, Option.isSome_none, Bool.false_eq_true, if_false, List.getElem?_toArray, Nat.zero_add]
        rw [List.getElem?_append_left (List.getElem?_eq_some_iff.1 hj).1]
        exact hj
      · exact PR.mono hfz _ _ (g2.PRs j q u hq hu)
      · obtain ⟨j, hj⟩ := List.mem_iff_getElem?.1 hu
        have hjl : j < (cs.map AV.p).length := by rw [← g2.length]; exact (List.getElem?_eq_some_iff.1 hj).1
        obtain ⟨u', q1, q2⟩ := g2.get (List.getElem?_eq_getElem hjl)
        rw [hj] at q1; obtain rfl := Option.some.inj q1
        exact VR.one (h1 _ (by rw [hcl]; exact List.getElem_mem hjl)) q2
  have near : ∀ {b' : Nat} {blk' : Blk}, M[b']? = some blk' → blk'.alive = true → ∃ b blk, os[b']? = some b ∧ S.m[b]? = some blk ∧ blk'.cur = blk.cur ∧ blk.alive = true ∧ Trs S.m os blk.cells blk'.cells := by
    intro b' blk' h ha
    rcases hM.get h with ⟨b, blk, q1, q2, q3, q4, q5⟩ | ⟨_, q⟩
    · exact ⟨b, blk, q1, q2, q3, by rw [← q4]; exact ha, q5⟩
    · rw [q] at ha; cases ha
  refine ⟨S', rfl, ⟨fun b' blk' hb ha => ?_, fun b' d' blk blk' hb hd' ha ha' he => ?_, fun q hq => hq.elim (h2.fzlt q) (hfarlt q)⟩, rfl, ⟨h3.size, h3.defers, fun t x' ht => ?_⟩, fun S0 he hle => ?_⟩
  · obtain ⟨b, blk, q1, q2, q3, q4, q5⟩ := near hb ha
    obtain ⟨⟨ys, rest, ty, g1, g2, g3⟩, g4⟩ := h2.lies b blk q2 q4
    have e1 : S'.β b' = S.β b := by show S.β (os.getD b' 0) = _; rw [hgd q1]
    have e2 : S'.cap b' = S.cap b := by show S.cap (os.getD b' 0) = _; rw [hgd q1]
    exact ⟨⟨ys, rest, ty, by rw [e1]; exact g1, Trs.sound C q5 g2, by rw [e2]; exact g3⟩, by rw [e1]; exact fun hf => hf.elim g4 (hne (List.mem_of_getElem? q1) q2 q4)⟩
  · obtain ⟨b, x, q1, q2, _, q4, _⟩ := near hb ha
    obtain ⟨d, y, r1, r2, _, r4, _⟩ := near hd' ha'
    have e1 : S'.β b' = S.β b := by show S.β (os.getD b' 0) = _; rw [hgd q1]
    have e2 : S'.β d' = S.β d := by show S.β (os.getD d' 0) = _; rw [hgd r1]
    rw [e1, e2] at he
    obtain rfl := h2.inj b d x y q2 r2 q4 r4 he
    obtain ⟨i1, j1⟩ := List.getElem?_eq_some_iff.1 q1
    obtain ⟨i2, j2⟩ := List.getElem?_eq_some_iff.1 r1
    rcases Nat.lt_trichotomy b' d' with h | h | h
    · exact absurd (j1.trans j2.symm) ((List.pairwise_iff_getElem.1 hd) b' d' i1 i2 h)
    · exact h
    · exact absurd (j2.trans j1.symm) ((List.pairwise_iff_getElem.1 hd) d' b' i2 i1 h)
  · obtain ⟨x, hx, hf⟩ := hE.get ht
    exact Tr.sound C hf (h3.get t x hx)
  · refine ⟨he.os, he.tape, he.output, he.size, fun b blk hb => ?_, fun q hq => ⟨.inl (he.fz q hq).1, (he.fz q hq).2⟩, he.kept, ?_, ?_⟩
    · obtain ⟨blk1, g1, g2, g3⟩ := he.blk b blk hb
      have hb0 : b < S0.m.length := (List.getElem?_eq_some_iff.1 hb).1
      rcases hk.get (Nat.lt_of_lt_of_le hb0 hle) with h | ⟨c, h, hc⟩
      · obtain ⟨q1, q2, q3, q4, q5, q6⟩ := hM.of h
        rw [g1] at q3; obtain rfl := Option.some.inj q3
        refine ⟨q2, q4, by rw [q5]; exact g2, fun ha hcc => ?_⟩
        obtain ⟨r1, r2, r3⟩ := g3 (by rw [← q6]; exact ha) (by rw [← q5]; exact hcc)
        exact ⟨r1, by show S.β (os.getD b 0) = _; rw [hgd h]; exact r2, by show S.cap (os.getD b 0) = _; rw [hgd h]; exact r3⟩
      · exact ⟨.dead c, h, Nat.le_trans g2 (hc _ g1), fun h _ => by simp [Blk.dead] at h⟩
    · rintro q ⟨b, blk, g1, g2, g3⟩
      obtain ⟨d, x, q1, q2, _, q4, _⟩ := near g1 g2
      have e1 : S'.β b = S.β d := by show S.β (os.getD b 0) = _; rw [hgd q1]
      exact he.fresh q ⟨d, x, q2, q4, e1.symm.trans g3⟩
    · rintro q (hq | ⟨b, blk, _, hb, ha, hq⟩)
      · exact he.thaw q hq
      · rcases he.fresh q ⟨b, blk, hb, ha, hq⟩ with h | h
        · exact .inr (.inl h)
        · exact .inr (.inr h)

/-- At the end of a piece of code what is known may be told otherwise. -/
theorem V_tellK {r : RCode} {L : Env} {m : Mem} {Q : QT} (h : V P N r L m fun e L' m' => Q e L' m' ∨ ∃ L2 m2, TellsK N m.length L' m' L2 m2 ∧ Q e L2 m2) : V P N r L m Q := by
  intro H c hc S a h1 h2 h3
  refine wp_mono (h H c hc S a h1 h2 h3) ?_
  rintro e a' w' ⟨S', L', rfl, g1, g2, g3, g4⟩
  rcases g4 with g4 | ⟨L2, m2, ht, hq⟩
  · exact ⟨S', L', rfl, g1, g2, g3, g4⟩
  · obtain ⟨S3, j1, j2, rfl, j4, j5⟩ := ht S' a' rfl g2 g3
    exact ⟨S3, L2, j1, j5 S g1 (by rw [h1]; exact Nat.le_refl _), j2, j4, hq⟩
theorem V_loopK {b : RCode} {L : Env} {m : Mem} {Q : QT} (I : Nat → Env → Mem → Prop) (n : Nat) (h0 : I n L m)
    (h : ∀ n L1 m1, I n L1 m1 → V P N b L1 m1 (fun e L' m' => match e with | .normal => ∃ k L2 m2, k < n ∧ I k L2 m2 ∧ TellsK N m.length L' m' L2 m2 | e => Q e L' m')) : V P N (.loop b) L m Q := by
  intro H c hc S x h1 h2 h3
  cases c <;> simp only [rcode] at hc
  case loop ca =>
    simp only [Option.map_eq_some_iff, RCode.loop.injEq] at hc
    obtain ⟨x', e1, rfl⟩ := hc
    let J : Act → World → Prop := fun a w => ∃ k S' L', S'.w = w ∧ Ext S S' ∧ S'.WF ∧ ER S' N L' a ∧ I k L' S'.m
    classical
    let μ : Act → World → Nat := fun a w => if hj : J a w then leastOf hj else 0
    refine wp_loop J μ ⟨n, S, L, rfl, Ext.refl S, h2, h3, by rw [h1]; exact h0⟩ ?_
    intro a w hJ
    have hμ : μ a w = leastOf hJ := by simp only [μ, dif_pos hJ]
    obtain ⟨S', L', hw, k1, k2, k3, k4⟩ := leastOf_spec hJ
    subst hw
    refine wp_mono (h _ L' S'.m k4 H ca e1 S' a rfl k2 k3) ?_
    rintro e a' w' ⟨S'', L'', rfl, g2, g3, g4, g5⟩
    cases e with
    | normal =>
      obtain ⟨k, L2, m2, hk, hI, hT⟩ := g5
      obtain ⟨S3, j1, j2, rfl, j4, j5⟩ := hT S'' a' rfl g3 g4
      have hext := j5 S (k1.trans g2) (by rw [h1]; exact Nat.le_refl _)
      have hJ' : J a' S''.w := ⟨k, S3, L2, j1, hext, j2, j4, hI⟩
      refine ⟨hJ', ?_⟩
      rw [hμ]
      have : μ a' S''.w = leastOf hJ' := by simp only [μ, dif_pos hJ']
      rw [this]
      exact Nat.lt_of_le_of_lt (leastOf_le hJ' ⟨S3, L2, j1, hext, j2, j4, hI⟩) hk
    | _ => exact ⟨S'', L'', rfl, k1.trans g2, g3, g4, g5⟩
  all_goals first
    | (simp at hc; done)
    | (simp only [Option.map_eq_some_iff] at hc; obtain ⟨_, _, hc⟩ := hc; cases hc; done)
    | (split at hc <;> simp at hc; done)

/-- A loop: what is known behind a round, and behind the loop, may be told otherwise. -/
theorem wloopk {b : RCode} {k k' : List Item} {L : Env} {m : Mem} {Q : QT} {σ τ : Type} (id : Nat) (hid : unw id k = some k') (E : σ → Env) (M : σ → Mem) (I : σ → Prop) (μ : σ → Nat) (s : σ) (E' : τ → Env) (M' : τ → Mem) (J : τ → Prop) (h0 : Says L (E s)) (hm : m = M s) (hI : I s)
    (h : ∀ s, I s → Wy P N 100000 [] [] [.code b] (E s) (M s) (GoesM P N id k Q (fun L' m' => ∃ s', I s' ∧ μ s' < μ s ∧ TellsK N m.length L' m' (E s') (M s')) (fun L' m' => ∃ t, J t ∧ TellsK N m.length L' m' (E' t) (M' t))))
    (hr : ∀ t, J t → Stop P N [] [] k' (E' t) (M' t) Q) : WLoop P N b k L m Q := by
  refine .mk ?_
  show V P N (.loop b) L m _
  refine V_tellK ?_
  refine V_loopK (fun n L m => ∃ s, Env.le L (E s) ∧ m = M s ∧ I s ∧ n = μ s) (μ s) ⟨s, h0.le, hm, hI, rfl⟩ ?_
  rintro n L1 m1 ⟨s1, h1, rfl, h2, rfl⟩
  have := stop_le (k := []) (C := []) h1 (Wy_sound _ _ _ _ _ _ _ (h s1 h2))
  refine V.mono this ?_
  intro e L' m' hg
  cases e with
  | normal =>
    obtain ⟨s', g1, g2, g3⟩ := hg
    exact ⟨_, E s', M s', g2, ⟨s', fun t x h => ⟨x, h, AV.le.refl x⟩, rfl, g1, rfl⟩, g3⟩
  | exit i =>
    have hg : GoesM P N id k Q _ _ (.exit i) L' m' := hg
    simp only [GoesM] at hg
    cases hb : Nat.beq i id with
    | true =>
      rw [hb] at hg
      obtain ⟨t, g1, g3⟩ := hg
      obtain rfl := Nat.eq_of_beq_eq_true hb
      exact .inr ⟨E' t, M' t, g3, unw_some hid (hr t g1)⟩
    | false =>
      rw [hb] at hg
      refine .inl ?_
      show WU P N i k L' m' Q
      cases hu : unw i k with
      | some k2 => rw [hu] at hg; exact unw_some hu (Wy_sound _ _ _ _ _ _ _ hg)
      | none => rw [hu] at hg; exact unw_none hu hg
  | _ => exact .inl hg
end
end Go.Proofs.YtlkphnhlibpngaaGreat.Abs
