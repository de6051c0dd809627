/- Abs, part 12: regions whose order is drawn: where a look at the edges says that the order makes no difference. -/
import Derived.Test.YtlkphnhlibpngaaGreatAbsReg
set_option linter.unusedVariables false
set_option linter.unusedSimpArgs false
namespace Go.Proofs.YtlkphnhlibpngaaGreat.Abs
open Go

section
variable {P : Program} {N : Nat}

theorem aop_noeff {L : Env} {m m' : Mem} {op : ROp} {x : AV} (h : aop L m op = some (x, m')) (he : op.eff = false) : m' = m := by
  have key : ∀ {α : Type} {q : Option α} {f : α → AV × Mem}, q.map f = some (x, m') → (∀ v, (f v).2 = m) → m' = m := by
    intro α q f h hf
    obtain ⟨v, _, h2⟩ := Option.map_eq_some_iff.1 h
    have := hf v
    rw [h2] at this
    exact this
  cases op with
  | ld n z => cases n <;> simp only [aop] at h
              · split at h
                · simp only [Option.some.injEq, Prod.mk.injEq] at h; exact h.2.symm
                · simp at h
              · exact key h (fun _ => rfl)
  | fld off n z => cases n <;> simp only [aop] at h
                   · split at h
                     · exact key h (fun _ => rfl)
                     · simp at h
                   · split at h
                     · simp only [Option.some.injEq, Prod.mk.injEq] at h; exact h.2.symm
                     · simp at h
  | new _ => simp [ROp.eff] at he
  | box _ => simp [ROp.eff] at he
  | st _ _ _ => simp [ROp.eff] at he
  | app _ _ _ _ => simp [ROp.eff] at he
  | _ =>
    simp only [aop] at h
    (repeat' split at h)
    all_goals first
      | (simp only [Option.some.injEq, Prod.mk.injEq] at h; exact h.2.symm)
      | exact key h (fun _ => rfl)
      | (simp at h; done)

theorem aop_insens {L : Env} {m m' : Mem} {op : ROp} {x : AV} (h : aop L m op = some (x, m')) (he : op.sens = false) (m2 : Mem) : aop L m2 op = some (x, m2) := by
  have key : ∀ {α : Type} {q : Option α} {f : α → AV}, q.map (fun v => (f v, m)) = some (x, m') → q.map (fun v => (f v, m2)) = some (x, m2) := by
    intro α q f h
    obtain ⟨v, h1, h2⟩ := Option.map_eq_some_iff.1 h
    simp only [Prod.mk.injEq] at h2
    exact Option.map_eq_some_iff.2 ⟨v, h1, by rw [h2.1]⟩
  cases op with
  | fld off n z => cases n <;> simp only [aop] at h ⊢
                   · split at h
                     · exact key h
                     · simp at h
                   · split at h
                     · simp only [Option.some.injEq, Prod.mk.injEq] at h; simp [h.1]
                     · simp at h
  | ld _ _ => simp [ROp.sens] at he
  | new _ => simp [ROp.sens] at he
  | box _ => simp [ROp.sens] at he
  | st _ _ _ => simp [ROp.sens] at he
  | app _ _ _ _ => simp [ROp.sens] at he
  | call _ _ => simp [ROp.sens] at he
  | callv _ _ => simp [ROp.sens] at he
  | mov z => exact key h
  | un op z => exact key h
  | mkf f cs => exact key h
  | mnx b y z =>
    simp only [aop] at h ⊢
    split at h
    · simp only [Option.some.injEq, Prod.mk.injEq] at h; rw [h.1]
    · simp at h
  | _ =>
    simp only [aop] at h ⊢
    (repeat' split at h)
    all_goals first
      | exact key h
      | (simp only [Option.some.injEq, Prod.mk.injEq] at h; simp_all; done)
      | (simp at h; done)
      | (rename_i hh; simp only [hh, if_true, and_self]; exact key h)
      | (simp only [*]; exact key h)

structure TE where
  r : RO
  x : AV
  eff : Bool
  m : Mem

def isCall : ROp → Bool
  | .call _ _ | .callv _ _ => true
  | _ => false
/-- It may turn the memory. -/
def RO.effE (r : RO) : Bool := (r.op.eff || isCall r.op) && !r.quiet
/-- It may look at memory that others turn. -/
def RO.sens (r : RO) : Bool := r.op.sens && !r.quiet
def opTmps : List Operand → List Nat
  | [] => []
  | .tmp t :: xs => t :: opTmps xs
  | _ :: xs => opTmps xs
def RO.reads (r : RO) : List Nat := (match r.guard with | some (t, _) => [t] | none => []) ++ opTmps r.op.operands

def guardOn (L : Env) : Option (Nat × Bool) → Option Bool
  | none => some true
  | some (t, want) => match L.get t with
    | some (.p (.v (.bool b))) => some (decide (b = want))
    | some (.p (.v (.tuple _))) => some false
    | _ => none

/-- What the operation came to, in text order. -/
def TOK (P : Program) (C : List Nat) (e : TE) (L : Env) (m : Mem) : Prop :=
  (guardOn L e.r.guard = some false ∧ e.x = undefAV ∧ e.eff = false) ∨
  (guardOn L e.r.guard = some true ∧ e.eff = e.r.effE ∧ (e.eff = false → e.m = m) ∧ (∀ c ∈ C, e.m[c]? = m[c]?) ∧
    (e.r.quiet = false → stepK P L m e.r.op (fun x m' => x = e.x ∧ m' = e.m)) ∧
    (e.r.quiet = true → ∀ m2 : Mem, (∀ c ∈ C, m2[c]? = m[c]?) → stepK P L m2 e.r.op (fun x m' => x = e.x ∧ m' = m2)))

def TraceOk (P : Program) (C : List Nat) : List TE → Env → Mem → Prop
  | [], _, _ => True
  | e :: es, L, m => TOK P C e L m ∧ TraceOk P C es (L.put e.r.dst e.x) (if e.eff then e.m else m)

def envAt (X : Nat → Bool) : Nat → List TE → Env → Env
  | _, [], L => L
  | k, e :: es, L => envAt X (k + 1) es (if X k then L.put e.r.dst e.x else L)
def memAt (X : Nat → Bool) : Nat → List TE → Mem → Mem
  | _, [], m => m
  | k, e :: es, m => memAt X (k + 1) es (if X k && e.eff then e.m else m)

theorem stepK_det {L : Env} {m : Mem} {op : ROp} {KA : AV → Mem → Prop} (h : stepK P L m op KA) : ∃ x m', stepK P L m op (fun x' m'' => x' = x ∧ m'' = m') ∧ KA x m' ∧ (isCall op = false → op.eff = false → m' = m) := by
  unfold stepK at h
  split at h
  · rename_i f args
    split at h
    case h_2 => exact h.elim
    rename_i vs hvs
    obtain ⟨r, m', h1, h2⟩ := h
    exact ⟨r, m', by simp only [stepK, hvs]; exact ⟨r, m', h1, rfl, rfl⟩, h2, fun hc => by simp [isCall] at hc⟩
  · rename_i f args
    split at h
    case h_2 => exact h.elim
    rename_i g caps vs hf hvs
    obtain ⟨hok, r, m', h1, h2⟩ := h
    exact ⟨r, m', by simp only [stepK, hf, hvs]; exact ⟨hok, r, m', h1, rfl, rfl⟩, h2, fun hc => by simp [isCall] at hc⟩
  · rename_i h1 h2
    split at h
    case h_2 => exact h.elim
    rename_i x m' ha
    refine ⟨x, m', ?_, h, fun _ he => aop_noeff ha he⟩
    unfold stepK
    split
    · exact absurd rfl (h1 _ _)
    · exact absurd rfl (h2 _ _)
    · simp [ha]

theorem readCells_agree {m m2 : Mem} {n c ver off : Nat} (h : m2[c]? = m[c]?) : readCells m2 n (.ptr c ver off) = readCells m n (.ptr c ver off) := by
  simp only [readCells, h]
theorem aop_ld_agree {L : Env} {m m2 : Mem} {n : Option Nat} {z : Operand} {x : AV} {m' : Mem} (h : aop L m (.ld n z) = some (x, m'))
    (hz : (∃ c ver off, opd L z = some (.ptr c ver off) ∧ m2[c]? = m[c]?) ∨ ∃ cs, opd L z = some (.fp cs)) : aop L m2 (.ld n z) = some (x, m2) := by
  have key : ∀ k, (opd L z).bind (readCells m2 k) = (opd L z).bind (readCells m k) := by
    intro k
    rcases hz with ⟨c, ver, off, h1, h2⟩ | ⟨cs, h1⟩
    · simp only [h1, Option.bind_some, readCells_agree h2]
    · simp only [h1, Option.bind_some, readCells]
  cases n with
  | none =>
    simp only [aop, key] at h ⊢
    split at h
    · simp only [Option.some.injEq, Prod.mk.injEq] at h; rw [h.1]
    · simp at h
  | some k =>
    simp only [aop, key] at h ⊢
    obtain ⟨v, h1, h2⟩ := Option.map_eq_some_iff.1 h
    simp only [Prod.mk.injEq] at h2
    exact Option.map_eq_some_iff.2 ⟨v, h1, by rw [h2.1]⟩

theorem stepQ_det {C : List Nat} {L : Env} {m : Mem} {r : RO} {K : AV → Mem → Prop} (h : stepQ P C L m r K) : ∃ x m', K x m' ∧ (r.effE = false → m' = m) ∧ (∀ c ∈ C, m'[c]? = m[c]?) ∧
    (r.quiet = false → stepK P L m r.op (fun x' m'' => x' = x ∧ m'' = m')) ∧ (r.quiet = true → ∀ m2 : Mem, (∀ c ∈ C, m2[c]? = m[c]?) → stepK P L m2 r.op (fun x' m'' => x' = x ∧ m'' = m2)) := by
  unfold stepQ at h
  split at h
  · rename_i hq
    have hld : ∀ {n : Option Nat} {z : Operand}, r.op = .ld n z → ((∃ c ver off, opd L z = some (.ptr c ver off) ∧ c ∈ C) ∨ ∃ cs, opd L z = some (.fp cs)) → stepK P L m (.ld n z) K →
        ∃ x m', K x m' ∧ (r.effE = false → m' = m) ∧ (∀ c ∈ C, m'[c]? = m[c]?) ∧
          (r.quiet = false → stepK P L m r.op (fun x' m'' => x' = x ∧ m'' = m')) ∧ (r.quiet = true → ∀ m2 : Mem, (∀ c ∈ C, m2[c]? = m[c]?) → stepK P L m2 r.op (fun x' m'' => x' = x ∧ m'' = m2)) := by
      intro n z hop hz hk
      obtain ⟨x, m', h1, h2, h3⟩ := stepK_det hk
      obtain rfl := h3 rfl rfl
      refine ⟨x, m', h2, fun _ => rfl, fun _ _ => rfl, fun hf => by rw [hq] at hf; simp at hf, fun _ m2 hm2 => ?_⟩
      rw [hop]
      simp only [stepK] at h1 ⊢
      split at h1
      · rename_i x' m'' ha
        obtain ⟨rfl, _⟩ := h1
        have := aop_ld_agree (m2 := m2) ha (by
          rcases hz with ⟨c, ver, off, k1, k2⟩ | ⟨cs, k1⟩
          · exact .inl ⟨c, ver, off, k1, hm2 c k2⟩
          · exact .inr ⟨cs, k1⟩)
        rw [this]
        exact ⟨rfl, rfl⟩
      · exact h1.elim
    split at h
    · rename_i f args hop
      split at h
      case h_2 => exact h.elim
      rename_i vs hvs
      obtain ⟨x, h1, h2⟩ := h
      refine ⟨x, m, h2, fun _ => rfl, fun _ _ => rfl, fun hf => by rw [hq] at hf; simp at hf, fun _ m2 hm2 => ?_⟩
      rw [hop]
      simp only [stepK, hvs]
      exact ⟨x, m2, h1 m2 hm2, rfl, rfl⟩
    · rename_i n z hop
      split at h
      · rename_i c ver off hz
        exact hld hop (.inl ⟨c, ver, off, hz, h.1⟩) h.2
      · rename_i cs hz
        exact hld hop (.inr ⟨cs, hz⟩) h
      · exact h.elim
    · exact h.elim
  · rename_i hq
    obtain ⟨x, m', h1, ⟨h2, h3⟩, h4⟩ := stepK_det h
    refine ⟨x, m', h3, fun he => ?_, h2, fun _ => h1, fun hf => by rw [hq] at hf; simp at hf⟩
    simp only [RO.effE, hq, Bool.not_false, Bool.and_true, Bool.or_eq_false_iff] at he
    exact h4 he.2 he.1

theorem Reg.trace {C : List Nat} : ∀ {rs : List RO} {L : Env} {m : Mem} {K : Env → Mem → Prop}, Reg P C rs L m K → ∃ es : List TE, es.map (·.r) = rs ∧ TraceOk P C es L m ∧ ∀ k, K (envAt (fun _ => true) k es L) (memAt (fun _ => true) k es m)
  | [], L, m, K, h => ⟨[], rfl, trivial, fun k => h⟩
  | r :: rs, L, m, K, h => by
    have run : guardOn L r.guard = some true → stepQ P C L m r (fun x m' => Reg P C rs (L.put r.dst x) m' K) →
        ∃ es : List TE, es.map (·.r) = r :: rs ∧ TraceOk P C es L m ∧ ∀ k, K (envAt (fun _ => true) k es L) (memAt (fun _ => true) k es m) := by
      intro hg hk
      obtain ⟨x, m', h3, hm, hC, h4, h5⟩ := stepQ_det hk
      obtain ⟨es, g1, g2, g3⟩ := Reg.trace h3
      have hif : (if r.effE then m' else m) = m' := by
        cases hb : r.effE with
        | true => rfl
        | false => rw [hm hb]; rfl
      refine ⟨⟨r, x, r.effE, m'⟩ :: es, by simp [g1], ⟨.inr ⟨hg, rfl, hm, hC, h4, h5⟩, by simp only [hif]; exact g2⟩, fun k => ?_⟩
      simp only [envAt, memAt, if_true, Bool.true_and, hif]
      exact g3 (k + 1)
    simp only [Reg] at h
    split at h
    · rename_i hg
      exact run (by rw [hg]; rfl) h
    · rename_i t want hg
      split at h
      · rename_i b hb
        split at h
        · rename_i hbw
          exact run (by simp only [hg, guardOn, hb, hbw, decide_true]) h
        · rename_i hbw
          obtain ⟨es, g1, g2, g3⟩ := Reg.trace h
          refine ⟨⟨r, undefAV, false, m⟩ :: es, by simp [g1], ⟨.inl ⟨by simp only [hg, guardOn, hb, hbw, decide_false], rfl, rfl⟩, by simpa using g2⟩, fun k => ?_⟩
          simp only [envAt, memAt, if_true, Bool.and_false, Bool.false_eq_true, if_false]
          exact g3 (k + 1)
      · rename_i vs hb
        obtain ⟨es, g1, g2, g3⟩ := Reg.trace h
        refine ⟨⟨r, undefAV, false, m⟩ :: es, by simp [g1], ⟨.inl ⟨by simp only [hg, guardOn, hb], rfl, rfl⟩, by simpa using g2⟩, fun k => ?_⟩
        simp only [envAt, memAt, if_true, Bool.and_false, Bool.false_eq_true, if_false]
        exact g3 (k + 1)
      · exact h.elim

/-- The blocks that the region leaves alone. -/
theorem TraceOk.left {C : List Nat} {X : Nat → Bool} : ∀ (es : List TE) (k : Nat) (L : Env) (m m1 : Mem), TraceOk P C es L m → (∀ c ∈ C, m1[c]? = m[c]?) → ∀ c ∈ C, (memAt X k es m1)[c]? = m[c]?
  | [], _, _, _, _, _, h => h
  | e :: es, k, L, m, m1, ht, h => by
    intro c hc
    simp only [memAt]
    have hem : e.eff = true → ∀ c ∈ C, e.m[c]? = m[c]? := by
      intro he
      rcases ht.1 with ⟨_, _, h3⟩ | ⟨_, _, _, h4, _⟩
      · rw [he] at h3; simp at h3
      · exact h4
    have hnext : ∀ c ∈ C, (if e.eff then e.m else m)[c]? = m[c]? := by
      intro c hc
      cases he : e.eff with
      | true => exact hem he c hc
      | false => rfl
    have := TraceOk.left (X := X) es (k + 1) _ _ (if X k && e.eff then e.m else m1) ht.2 (by
      intro c hc
      rw [hnext c hc]
      cases he : e.eff with
      | true => cases X k <;> simp [h c hc, hem he c hc]
      | false => simp [h c hc]) c hc
    rw [this, hnext c hc]

/-! ### what has come up -/
theorem get_put {L : Env} {d : Option Nat} {x : AV} {t : Nat} : (L.put d x).get t = if d = some t then some x else L.get t := by
  cases d with
  | none => simp [Env.put]
  | some k => simp [Env.put, Env.get_cons]

theorem envAt_agree {X Y : Nat → Bool} {t : Nat} : ∀ (es : List TE) (k : Nat) (L L' : Env), L.get t = L'.get t → (∀ (j : Nat) e, es[j]? = some e → e.r.dst = some t → X (k + j) = Y (k + j)) →
    (envAt X k es L).get t = (envAt Y k es L').get t
  | [], _, _, _, h, _ => h
  | e :: es, k, L, L', h, hw => by
    simp only [envAt]
    refine envAt_agree es (k + 1) _ _ ?_ (fun j e' he hd => by have := hw (j + 1) e' (by simpa using he) hd; rwa [show k + (j + 1) = k + 1 + j by omega] at this)
    by_cases hd : e.r.dst = some t
    · have := hw 0 e rfl hd
      rw [Nat.add_zero] at this
      rw [this]
      split
      · simp [get_put, hd]
      · exact h
    · split <;> split <;> simp [get_put, hd, h]

theorem memAt_agree {X Y : Nat → Bool} : ∀ (es : List TE) (k : Nat) (m : Mem), (∀ (j : Nat) e, es[j]? = some e → e.eff = true → X (k + j) = Y (k + j)) → memAt X k es m = memAt Y k es m
  | [], _, _, _ => rfl
  | e :: es, k, m, hw => by
    simp only [memAt]
    have h0 : (if X k && e.eff then e.m else m) = (if Y k && e.eff then e.m else m) := by
      cases he : e.eff with
      | true => have := hw 0 e rfl he; rw [Nat.add_zero] at this; rw [this]
      | false => simp
    rw [h0]
    exact memAt_agree es (k + 1) _ (fun j e' he hd => by have := hw (j + 1) e' (by simpa using he) hd; rwa [show k + (j + 1) = k + 1 + j by omega] at this)

/-- The last that wrote slot t. -/
theorem envAt_last {X : Nat → Bool} {t : Nat} : ∀ (es : List TE) (k i : Nat) (e : TE) (L : Env), es[i]? = some e → e.r.dst = some t → X (k + i) = true →
    (∀ (j : Nat) e', es[j]? = some e' → i < j → e'.r.dst = some t → X (k + j) = false) → (envAt X k es L).get t = some e.x
  | [], _, i, e, _, h, _, _, _ => by simp at h
  | e0 :: es, k, 0, e, L, h, hd, hX, hw => by
    simp at h; subst h
    simp only [envAt]
    rw [Nat.add_zero] at hX
    rw [hX]
    have : ∀ (es : List TE) (k : Nat) (L : Env), L.get t = some e0.x → (∀ (j : Nat) e', es[j]? = some e' → e'.r.dst = some t → X (k + j) = false) → (envAt X k es L).get t = some e0.x := by
      intro es
      induction es with
      | nil => intro k L h _; exact h
      | cons e1 es ih =>
        intro k L h hw
        simp only [envAt]
        refine ih (k + 1) _ ?_ (fun j e' he hd => by have := hw (j + 1) e' (by simpa using he) hd; rwa [show k + (j + 1) = k + 1 + j by omega] at this)
        by_cases hd1 : e1.r.dst = some t
        · have := hw 0 e1 rfl hd1; rw [Nat.add_zero] at this; rw [this]; exact h
        · split
          · rw [get_put, if_neg hd1]; exact h
          · exact h
    refine this es (k + 1) _ (by simp [get_put, hd]) (fun j e' he hd' => by have := hw (j + 1) e' (by simpa using he) (by omega) hd'; rwa [show k + (j + 1) = k + 1 + j by omega] at this)
  | e0 :: es, k, i + 1, e, L, h, hd, hX, hw => by
    simp only [envAt]
    exact envAt_last es (k + 1) i e _ (by simpa using h) hd (by rwa [show k + (i + 1) = k + 1 + i by omega] at hX)
      (fun j e' he hij hd' => by have := hw (j + 1) e' (by simpa using he) (by omega) hd'; rwa [show k + (j + 1) = k + 1 + j by omega] at this)
theorem memAt_last {X : Nat → Bool} : ∀ (es : List TE) (k i : Nat) (e : TE) (m : Mem), es[i]? = some e → e.eff = true → X (k + i) = true →
    (∀ (j : Nat) e', es[j]? = some e' → i < j → e'.eff = true → X (k + j) = false) → memAt X k es m = e.m
  | [], _, i, e, _, h, _, _, _ => by simp at h
  | e0 :: es, k, 0, e, m, h, hd, hX, hw => by
    simp at h; subst h
    simp only [memAt]
    rw [Nat.add_zero] at hX
    rw [hX, hd]
    have : ∀ (es : List TE) (k : Nat) (m : Mem), (∀ (j : Nat) e', es[j]? = some e' → e'.eff = true → X (k + j) = false) → memAt X k es m = m := by
      intro es
      induction es with
      | nil => intro k m _; rfl
      | cons e1 es ih =>
        intro k m hw
        simp only [memAt]
        have h0 : (X k && e1.eff) = false := by
          cases he : e1.eff with
          | true => have := hw 0 e1 rfl he; rw [Nat.add_zero] at this; rw [this]; rfl
          | false => simp
        rw [h0]
        exact ih (k + 1) m (fun j e' he hd => by have := hw (j + 1) e' (by simpa using he) hd; rwa [show k + (j + 1) = k + 1 + j by omega] at this)
    exact this es (k + 1) _ (fun j e' he hd' => by have := hw (j + 1) e' (by simpa using he) (by omega) hd'; rwa [show k + (j + 1) = k + 1 + j by omega] at this)
  | e0 :: es, k, i + 1, e, m, h, hd, hX, hw => by
    simp only [memAt]
    exact memAt_last es (k + 1) i e _ (by simpa using h) hd (by rwa [show k + (i + 1) = k + 1 + i by omega] at hX)
      (fun j e' he hij hd' => by have := hw (j + 1) e' (by simpa using he) (by omega) hd'; rwa [show k + (j + 1) = k + 1 + j by omega] at this)

theorem TraceOk.at {C : List Nat} {X : Nat → Bool} : ∀ (es : List TE) (k i : Nat) (e : TE) (L : Env) (m : Mem), TraceOk P C es L m → es[i]? = some e →
    TOK P C e (envAt (fun j => decide (j < k + i)) k es L) (memAt (fun j => decide (j < k + i)) k es m)
  | [], _, i, e, _, _, _, h => by simp at h
  | e0 :: es, k, 0, e, L, m, ht, h => by
    simp at h; subst h
    have e1 : ∀ (es : List TE) (k' : Nat) (L : Env), k ≤ k' → envAt (fun j => decide (j < k + 0)) k' es L = L := by
      intro es
      induction es with
      | nil => intro _ _ _; rfl
      | cons e es ih => intro k' L hk; simp only [envAt, Nat.add_zero, decide_eq_false (show ¬ k' < k by omega), Bool.false_eq_true, if_false]; exact ih (k' + 1) L (by omega)
    have e2 : ∀ (es : List TE) (k' : Nat) (m : Mem), k ≤ k' → memAt (fun j => decide (j < k + 0)) k' es m = m := by
      intro es
      induction es with
      | nil => intro _ _ _; rfl
      | cons e es ih => intro k' m hk; simp only [memAt, Nat.add_zero, decide_eq_false (show ¬ k' < k by omega), Bool.false_and, Bool.false_eq_true, if_false]; exact ih (k' + 1) m (by omega)
    rw [e1 _ _ _ (Nat.le_refl _), e2 _ _ _ (Nat.le_refl _)]
    exact ht.1
  | e0 :: es, k, i + 1, e, L, m, ht, h => by
    have := TraceOk.at (X := X) es (k + 1) i e _ _ ht.2 (by simpa using h)
    simp only [envAt, memAt]
    rw [show k + (i + 1) = k + 1 + i by omega]
    simp only [decide_eq_true (show k < k + 1 + i by omega), if_true, Bool.true_and]
    exact this

/-! ### the edges -/
def maskOf (ms : List Nat) (as : List Nat) : Nat := as.foldl (fun s k => s ||| (2 ^ k ||| ms.getD k 0)) 0
def masks (afters : List (List Nat)) : List Nat := afters.foldl (fun ms as => ms ++ [maskOf ms as]) []
def aftersOf (ops : Array Oper) : List (List Nat) := ops.toList.map fun o => (o.after.toList.filter (Region.binds .any)).map (·.on)
def conflict (q r : RO) : Bool :=
  (match q.dst with | some d => r.reads.contains d || r.dst == some d | none => false) ||
  (match r.dst with | some d => q.reads.contains d | none => false) ||
  (q.sens && r.sens && (q.effE || r.effE))
def drawOkFrom (all : List RO) : Nat → List RO → List Nat → Bool
  | _, [], _ => true
  | i, r :: rs, ms => ((List.range i).all fun j => match all[j]? with | some q => !conflict q r || (ms.headD 0).testBit j | none => true) && drawOkFrom all (i + 1) rs ms.tail
def backFrom : Nat → List (List Nat) → Bool
  | _, [] => true
  | i, as :: rest => as.all (· < i) && backFrom (i + 1) rest
def drawOk (ops : Array Oper) (rs : List RO) : Bool :=
  backFrom 0 (aftersOf ops) && drawOkFrom rs 0 rs (masks (aftersOf ops))

/-- Closed under the edges. -/
def Closed (afters : List (List Nat)) (X : Nat → Bool) : Prop := ∀ (i : Nat) as, afters[i]? = some as → X i = true → ∀ j ∈ as, X j = true

theorem testBit_maskOf (ms : List Nat) (j : Nat) : ∀ (as : List Nat) (s : Nat), (as.foldl (fun s k => s ||| (2 ^ k ||| ms.getD k 0)) s).testBit j = true → s.testBit j = true ∨ ∃ k ∈ as, k = j ∨ (ms.getD k 0).testBit j = true
  | [], s, h => .inl h
  | k :: as, s, h => by
    rcases testBit_maskOf ms j as _ h with h | ⟨k', hk, h⟩
    · rw [Nat.testBit_or, Nat.testBit_or, Bool.or_eq_true, Bool.or_eq_true] at h
      rcases h with h | h | h
      · exact .inl h
      · rw [Nat.testBit_two_pow] at h
        exact .inr ⟨k, by simp, .inl (by simpa using h)⟩
      · exact .inr ⟨k, by simp, .inr h⟩
    · exact .inr ⟨k', by simp [hk], h⟩

theorem masks_snoc (pre : List (List Nat)) (as : List Nat) : masks (pre ++ [as]) = masks pre ++ [maskOf (masks pre) as] := by
  simp [masks, List.foldl_append]
theorem masks_len (l : List (List Nat)) : (masks l).length = l.length := by
  have : ∀ (l : List (List Nat)) (acc : List Nat), (l.foldl (fun ms as => ms ++ [maskOf ms as]) acc).length = acc.length + l.length := by
    intro l
    induction l with
    | nil => intro acc; simp
    | cons a l ih => intro acc; simp only [List.foldl_cons, ih, List.length_append, List.length_cons, List.length_nil]; omega
  simpa [masks] using this l []
theorem masks_get (afters : List (List Nat)) : ∀ (n : Nat), n ≤ afters.length → ∀ (i : Nat) as, i < n → afters[i]? = some as → (masks (afters.take n))[i]? = some (maskOf (masks (afters.take i)) as)
  | 0, _, i, _, h, _ => by omega
  | n + 1, hn, i, as, h, ha => by
    have hlt : n < afters.length := by omega
    rw [List.take_succ_eq_append_getElem hlt, masks_snoc]
    by_cases hi : i < n
    · rw [List.getElem?_append_left (by rw [masks_len]; simp; omega)]
      exact masks_get afters n (by omega) i as hi ha
    · have : i = n := by omega
      subst this
      rw [List.getElem?_append_right (by rw [masks_len, List.length_take]; omega), masks_len]
      simp only [List.length_take, Nat.min_eq_left (Nat.le_of_lt hlt), Nat.sub_self, List.getElem?_cons_zero]
      rw [List.getElem?_eq_getElem hlt] at ha
      rw [Option.some.inj ha]
theorem masks_take (afters : List (List Nat)) (n i k : Nat) (hi : i ≤ n) (hk : k < i) (hn : n ≤ afters.length) : (masks (afters.take i)).getD k 0 = (masks (afters.take n)).getD k 0 := by
  obtain ⟨as, ha⟩ : ∃ as, afters[k]? = some as := ⟨_, List.getElem?_eq_getElem (by omega)⟩
  rw [List.getD_eq_getElem?_getD, List.getD_eq_getElem?_getD, masks_get afters i (by omega) k as hk ha, masks_get afters n hn k as (by omega) ha]

theorem backFrom_at : ∀ (l : List (List Nat)) (k : Nat), backFrom k l = true → ∀ (i : Nat) as, l[i]? = some as → ∀ j ∈ as, j < k + i
  | [], _, _, i, as, h, _, _ => by simp at h
  | a :: l, k, hb, 0, as, h, j, hj => by
    simp at h; subst h
    simp only [backFrom, Bool.and_eq_true, List.all_eq_true] at hb
    simpa using hb.1 j hj
  | a :: l, k, hb, i + 1, as, h, j, hj => by
    simp only [backFrom, Bool.and_eq_true] at hb
    have := backFrom_at l (k + 1) hb.2 i as (by simpa using h) j hj
    omega

/-- What waits for j has it listed ahead. -/
theorem Closed.anc {afters : List (List Nat)} {X : Nat → Bool} (hc : Closed afters X) (hb : backFrom 0 afters = true) : ∀ (i : Nat) as, afters[i]? = some as → (∀ k ∈ as, X k = true) → ∀ j, ((masks afters).getD i 0).testBit j = true → X j = true := by
  intro i
  induction i using Nat.strongRecOn with
  | _ i ih =>
    intro as ha hx j hj
    have hlt : i < afters.length := (List.getElem?_eq_some_iff.1 ha).1
    have hg := masks_get afters afters.length (Nat.le_refl _) i as hlt ha
    rw [List.take_length] at hg
    rw [List.getD_eq_getElem?_getD, hg] at hj
    rcases testBit_maskOf _ j as 0 hj with h | ⟨k, hk, h⟩
    · simp at h
    · have hki : k < i := by have := backFrom_at afters 0 hb i as ha k hk; omega
      rcases h with rfl | h
      · exact hx k hk
      · have e := masks_take afters afters.length i k (by omega) hki (Nat.le_refl _)
        rw [List.take_length] at e
        rw [e] at h
        obtain ⟨as', ha'⟩ : ∃ as', afters[k]? = some as' := ⟨_, List.getElem?_eq_getElem (by omega)⟩
        exact ih k hki as' ha' (fun k' hk' => hc k as' ha' (hx k hk) k' hk') j h

theorem drawOkFrom_at {all : List RO} : ∀ (rs : List RO) (i : Nat) (ms : List Nat), drawOkFrom all i rs ms = true → ∀ (k : Nat) r, rs[k]? = some r → ∀ j q, j < i + k → all[j]? = some q → conflict q r = true → (ms.getD k 0).testBit j = true
  | [], _, _, _, k, r, h, _, _, _, _, _ => by simp at h
  | r0 :: rs, i, ms, hd, 0, r, h, j, q, hj, hq, hcf => by
    simp at h; subst h
    simp only [drawOkFrom, Bool.and_eq_true, List.all_eq_true, List.mem_range] at hd
    have := hd.1 j (by omega)
    rw [hq] at this
    simp only [hcf, Bool.not_true, Bool.false_or] at this
    cases ms with
    | nil => simp at this
    | cons m ms => simpa using this
  | r0 :: rs, i, ms, hd, k + 1, r, h, j, q, hj, hq, hcf => by
    simp only [drawOkFrom, Bool.and_eq_true] at hd
    have := drawOkFrom_at rs (i + 1) ms.tail hd.2 k r (by simpa using h) j q (by omega) hq hcf
    cases ms with
    | nil => simp at this
    | cons m ms => simpa using this
end
end Go.Proofs.YtlkphnhlibpngaaGreat.Abs
