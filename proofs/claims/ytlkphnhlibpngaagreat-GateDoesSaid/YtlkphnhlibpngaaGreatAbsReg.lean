/- Abs, part 11: regions. In text order; and in whatever order the edges allow, where a look at the edges says that it makes no difference. -/
import Derived.Test.YtlkphnhlibpngaaGreatAbsSound7
set_option linter.unusedVariables false
set_option linter.unusedSimpArgs false
namespace Go.Proofs.YtlkphnhlibpngaaGreat.Abs
open Go

/-- A call, in the abstract: out of whatever stands for the arguments the function returns what stands for r. -/
def ACall (P : Program) (f : FuncId) (args : List AV) (m : Mem) (r : AV) (m' : Mem) : Prop :=
  ∀ (S : Setup) (vs : List Value), S.m = m → S.WF → VRs S args vs →
    Calls P f vs.toArray S.w fun e w' => ∃ S' y, e = .returned y ∧ S'.w = w' ∧ Ext S S' ∧ S'.WF ∧ S'.m = m' ∧ VR S' r y

structure RO where
  dst : Option Nat
  op : ROp
  guard : Option (Nat × Bool)
  quiet : Bool

def Env.put (L : Env) (d : Option Nat) (x : AV) : Env :=
  match d with
  | some d => (d, x) :: L
  | none => L
def undefAV : AV := .p (.v undef)

/-- One operation, and what is to hold of what it yields. -/
def stepK (P : Program) (L : Env) (m : Mem) (op : ROp) (K : AV → Mem → Prop) : Prop :=
  match op with
  | .call f args => match opds L args with
    | some vs => ∃ r m', ACall P f vs m r m' ∧ K r m'
    | none => False
  | .callv f args => match opd L f, opds L args with
    | some (.fn g caps), some vs => callOk P g = true ∧ ∃ r m', ACall P g (vs ++ caps) m r m' ∧ K r m'
    | _, _ => False
  | op => match aop L m op with
    | some (x, m') => K x m'
    | none => False

/-- One operation of a region. Quiet ones go by whatever memory: a call whose contract asks nothing of it, a load of a block that the region leaves alone (C). -/
def stepQ (P : Program) (C : List Nat) (L : Env) (m : Mem) (r : RO) (K : AV → Mem → Prop) : Prop :=
  match r.quiet with
  | true => match r.op with
    | .call f args => match opds L args with
      | some vs => ∃ x, (∀ m2 : Mem, (∀ c ∈ C, m2[c]? = m[c]?) → ACall P f vs m2 x m2) ∧ K x m
      | none => False
    | .ld n z => match opd L z with
      | some (.ptr c ver off) => c ∈ C ∧ stepK P L m (.ld n z) K
      | some (.fp cs) => stepK P L m (.ld n z) K
      | _ => False
    | _ => False
  | false => stepK P L m r.op fun x m' => (∀ c ∈ C, m'[c]? = m[c]?) ∧ K x m'

def Reg (P : Program) (C : List Nat) : List RO → Env → Mem → (Env → Mem → Prop) → Prop
  | [], L, m, K => K L m
  | r :: rs, L, m, K =>
    match r.guard with
    | none => stepQ P C L m r fun x m' => Reg P C rs (L.put r.dst x) m' K
    | some (t, want) => match L.get t with
      | some (.p (.v (.bool b))) => if b = want then stepQ P C L m r fun x m' => Reg P C rs (L.put r.dst x) m' K else Reg P C rs (L.put r.dst undefAV) m K
      | some (.p (.v (.tuple _))) => Reg P C rs (L.put r.dst undefAV) m K
      | _ => False

/-- What is known of the frame. -/
structure ER (S : Setup) (N : Nat) (L : Env) (a : Act) : Prop where
  size : a.tmps.size = N
  defers : a.defers = []
  get : ∀ t x, L.get t = some x → VR S x (a.tmps.getD t undef)

theorem ER.good {S : Setup} {N : Nat} {L : Env} {a : Act} (h : ER S N L a) (z : Operand) : Good S L a z := by
  intro v hv
  cases z with
  | tmp t => exact h.get t v hv
  | const c => simp only [opd, Option.some.injEq] at hv; subst hv; exact aconst_VR S c
  | global g => simp [opd] at hv
  | func f => simp only [opd, Option.some.injEq] at hv; subst hv; exact ⟨[], rfl, rfl⟩

theorem ER.mono {S S' : Setup} {N : Nat} {L : Env} {a : Act} (h : ER S N L a) (he : Ext S S') : ER S' N L a :=
  ⟨h.size, h.defers, fun t x ht => VR.mono he _ _ (h.get t x ht)⟩

theorem put_tmps {a : Act} {d : Option Nat} {y : Value} : (a.put d y).tmps.size = a.tmps.size := by
  cases d <;> simp [Act.put]
theorem put_get {a : Act} {d t : Nat} {y : Value} (hd : d < a.tmps.size) : (a.put (some d) y).tmps.getD t undef = if d = t then y else a.tmps.getD t undef := by
  by_cases h : d = t
  · subst h
    simp [Act.put, hd, Array.getD_eq_getD_getElem?]
  · rw [if_neg h]
    simp [Act.put, Array.getD_eq_getD_getElem?, Array.getElem?_setIfInBounds_ne h]
theorem put_defers {a : Act} {d : Option Nat} {y : Value} : (a.put d y).defers = a.defers := by
  cases d <;> simp [Act.put]

theorem ER.put {S : Setup} {N : Nat} {L : Env} {a : Act} (h : ER S N L a) {d : Option Nat} (hd : ∀ k, d = some k → k < N) {x : AV} {y : Value} (hv : VR S x y) : ER S N (L.put d x) (a.put d y) := by
  refine ⟨put_tmps.trans h.size, put_defers.trans h.defers, fun t z ht => ?_⟩
  cases d with
  | none => exact h.get t z ht
  | some k =>
    rw [put_get (by rw [h.size]; exact hd k rfl)]
    simp only [Env.put, Env.get_cons] at ht
    split at ht
    · rename_i e; rw [if_pos e]; obtain rfl := Option.some.inj ht; exact hv
    · rename_i e; rw [if_neg e]; exact h.get t z ht

section
variable {P : Program} {o : Oper} {a : Act} {S : Setup} {L : Env} {op : ROp} {N : Nat}

theorem run_callFunc (w : World) {f : FuncId} (h : callOk P f = true) (args : Array Value) : (callFunc f args).run P w = .ok (.enter f args) w := by
  unfold callOk at h
  split at h
  · rename_i fn hf
    simp only [Bool.and_eq_true, bne_iff_ne, ne_eq] at h
    obtain ⟨h1, h2⟩ := h
    have h3 : fn.body.isNone = false := by cases hb : fn.body <;> simp_all
    simp [callFunc, hf, h1, h3]
    intro hb; rw [hb] at h2; simp at h2
  · simp at h

/-- What an operation comes to. -/
def SOut (S : Setup) (x : AV) (m' : Mem) (K : Act → World → Prop) (o : Oper) (a : Act) : Prop :=
  ∀ S' y, Ext S S' → S'.WF → S'.m = m' → VR S' x y → K (a.put o.dst y) S'.w

theorem wp_call {f : FuncId} {args : List AV} {vs : Array Value} {m' : Mem} {r : AV} {K : Act → World → Prop} {Q : Exit → Act → World → Prop} (hrun : (execOp a.eval o).run P S.w = .ok (.enter f vs) S.w)
    (hS : S.WF) (hv : VRs S args vs.toList) (hc : ACall P f args S.m r m') (hK : SOut S r m' K o a) : o.wp P a S.w K Q := by
  unfold Oper.wp
  rw [hrun, Oper.upon_enter]
  have := hc S vs.toList rfl hS hv
  simp only [Array.toArray_toList] at this
  refine Calls.mono this ?_
  rintro e w' ⟨S', y, rfl, rfl, h1, h2, h3, h4⟩
  exact hK S' y h1 h2 h3 h4

theorem stepK_sound {KA : AV → Mem → Prop} {K : Act → World → Prop} {Q : Exit → Act → World → Prop} (hr : rop P o.op = some op) (hS : S.WF) (hg : ∀ z ∈ op.operands, Good S L a z)
    (h : stepK P L S.m op KA) (hK : ∀ x m', KA x m' → SOut S x m' K o a) : o.wp P a S.w K Q := by
  have main : ∀ {x m'}, aop L S.m op = some (x, m') → KA x m' → o.wp P a S.w K Q := by
    intro x m' h1 h2
    obtain ⟨S', y, hrun, e1, e2, e3, e4⟩ := aop_sound hr hS hg h1
    have := hK x m' h2 S' y e1 e2 e3 e4
    unfold Oper.wp
    rcases hrun with hrun | ⟨hrun, rfl⟩
    · rw [hrun, Oper.upon_value]; exact this
    · rw [hrun, Oper.upon_skip]; exact this
  unfold stepK at h
  split at h
  · -- a call
    rename_i f args
    split at h
    case h_2 => exact h.elim
    rename_i vs hvs
    obtain ⟨r, m', hc, hk⟩ := h
    have hv := good_opds (fun z hz => hg z (by simpa [ROp.operands] using hz)) hvs
    have hop : ∃ (A : Array Operand) (ats : Array TypeId), o.op = .call { callee := .value (.func f), args := A, argTypes := ats } ∧ A.toList = args ∧ callOk P f = true := by
      unfold rop at hr
      repeat' split at hr
      all_goals first
        | (simp at hr; done)
        | (simp only [Option.map_eq_some_iff] at hr; obtain ⟨_, _, hr⟩ := hr; cases hr; done)
        | (simp only [Option.some.injEq, ROp.call.injEq] at hr; obtain ⟨rfl, rfl⟩ := hr; exact ⟨_, _, by assumption, rfl, by assumption⟩)
        | (simp only [Option.some.injEq] at hr; cases hr; done)
    obtain ⟨A, ats, ho, rfl, hok⟩ := hop
    refine wp_call (f := f) (args := vs) (vs := A.map a.eval) ?_ hS ?_ hc (hK _ _ hk)
    · simp [execOp, ho, Go.resolve, Act.eval, Deferred.ofValue, invoke, run_callFunc S.w hok]
    · simpa using hv
  · -- a closure's call
    rename_i f args
    split at h
    case h_2 => exact h.elim
    rename_i g caps vs hf hvs
    obtain ⟨hok, r, m', hc, hk⟩ := h
    have hv := good_opds (fun z hz => hg z (by simp [ROp.operands]; exact .inr hz)) hvs
    obtain ⟨cs, hfv, hcs⟩ := hg f (by simp [ROp.operands]) _ hf
    have hop : ∃ (t : Nat) (A : Array Operand) (ats : Array TypeId), o.op = .call { callee := .value (.tmp t), args := A, argTypes := ats } ∧ A.toList = args ∧ f = .tmp t := by
      unfold rop at hr
      repeat' split at hr
      all_goals first
        | (simp at hr; done)
        | (simp only [Option.map_eq_some_iff] at hr; obtain ⟨_, _, hr⟩ := hr; cases hr; done)
        | (simp only [Option.some.injEq, ROp.callv.injEq] at hr; obtain ⟨rfl, rfl⟩ := hr; exact ⟨_, _, _, by assumption, rfl, rfl⟩)
        | (simp only [Option.some.injEq] at hr; cases hr; done)
    obtain ⟨t, A, ats, ho, rfl, rfl⟩ := hop
    refine wp_call (f := g) (args := vs ++ caps) (vs := A.map a.eval ++ cs.toArray) ?_ hS ?_ hc (hK _ _ hk)
    · simp [execOp, ho, Go.resolve, hfv, Deferred.ofValue, invoke, run_callFunc S.w hok]
    · have := hv.append hcs
      simpa using this
  · -- all else
    split at h
    · exact main (by assumption) h
    · exact h.elim

theorem stepK_mono {m : Mem} {K K' : AV → Mem → Prop} (h : stepK P L m op K) (hk : ∀ x m', K x m' → K' x m') : stepK P L m op K' := by
  unfold stepK at h ⊢
  split
  · rename_i f args
    simp only at h
    split at h
    case h_2 => exact h.elim
    rename_i vs hvs
    obtain ⟨r, m', h1, h2⟩ := h
    exact ⟨r, m', h1, hk _ _ h2⟩
  · rename_i f args
    simp only at h
    split at h
    case h_2 => exact h.elim
    rename_i g caps vs hf hvs
    obtain ⟨hok, r, m', h1, h2⟩ := h
    exact ⟨hok, r, m', h1, hk _ _ h2⟩
  · rename_i h1 h2
    split at h
    · exact absurd rfl (h1 _ _)
    · exact absurd rfl (h2 _ _)
    · split at h
      · exact hk _ _ h
      · exact h.elim

/-- As a step like any other. -/
theorem stepQ_K {C : List Nat} {m : Mem} {r : RO} {K : AV → Mem → Prop} (h : stepQ P C L m r K) : stepK P L m r.op K := by
  unfold stepQ at h
  split at h
  · split at h
    · rename_i f args hop
      rw [hop]
      split at h
      case h_2 => exact h.elim
      rename_i vs hvs
      obtain ⟨x, h1, h2⟩ := h
      simp only [stepK, hvs]
      exact ⟨x, m, h1 m (fun _ _ => rfl), h2⟩
    · rename_i n z hop
      rw [hop]
      split at h
      · exact h.2
      · exact h
      · exact h.elim
    · exact h.elim
  · exact stepK_mono h fun x m' h => h.2

/-! ### in text order -/
def guardOf (ops : Array Oper) : Option (Nat × Bool) → Option (Option (Nat × Bool))
  | none => some none
  | some (j, want) => match (ops[j]?).bind (·.dst) with
    | some t => some (some (t, want))
    | none => none

structure Same (P : Program) (ops : Array Oper) (N : Nat) (o : Oper) (r : RO) : Prop where
  op : rop P o.op = some r.op
  dst : o.dst = r.dst
  lt : ∀ k, r.dst = some k → k < N
  guard : guardOf ops o.guard = some r.guard

theorem wanted_none {ops : Array Oper} {tmps : Array Value} (h : guardOf ops o.guard = some none) : Region.wanted o (yielded ops tmps) = true := by
  unfold guardOf at h
  unfold Region.wanted
  cases hg : o.guard with
  | none => rfl
  | some p =>
    obtain ⟨j, w⟩ := p
    rw [hg] at h
    simp only at h
    split at h <;> simp at h
theorem wanted_some {ops : Array Oper} {tmps : Array Value} {t : Nat} {want b : Bool} (h : guardOf ops o.guard = some (some (t, want))) (hv : tmps.getD t undef = .bool b) :
    Region.wanted o (yielded ops tmps) = (b == want) := by
  unfold guardOf at h
  unfold Region.wanted
  cases hg : o.guard with
  | none => rw [hg] at h; simp at h
  | some p =>
    obtain ⟨j, w⟩ := p
    rw [hg] at h
    simp only at h
    split at h
    · rename_i t' ht
      simp only [Option.some.injEq, Prod.mk.injEq] at h
      obtain ⟨rfl, rfl⟩ := h
      have : tmps[t']? = some (.bool b) := by
        rw [Array.getD_eq_getD_getElem?] at hv
        cases hq : tmps[t']? with
        | none => rw [hq] at hv; simp [undef] at hv
        | some q => rw [hq] at hv; simp at hv; rw [hv]
      simp only [yielded, ht, Option.bind_some, this]
      cases b <;> cases w <;> rfl
    · simp at h

theorem wanted_off {ops : Array Oper} {tmps : Array Value} {t : Nat} {want : Bool} {vs : Array Value} (h : guardOf ops o.guard = some (some (t, want))) (hv : tmps.getD t undef = .tuple vs) :
    Region.wanted o (yielded ops tmps) = false := by
  unfold guardOf at h
  unfold Region.wanted
  cases hg : o.guard with
  | none => rw [hg] at h; simp at h
  | some p =>
    obtain ⟨j, w⟩ := p
    rw [hg] at h
    simp only at h
    split at h
    · rename_i t' ht
      simp only [Option.some.injEq, Prod.mk.injEq] at h
      obtain ⟨rfl, rfl⟩ := h
      rw [Array.getD_eq_getD_getElem?] at hv
      cases hq : tmps[t']? with
      | none => simp only [yielded, ht, Option.bind_some, hq]; rfl
      | some q =>
        rw [hq] at hv; simp at hv; subst hv
        simp only [yielded, ht, Option.bind_some, hq]; rfl
    · simp at h

def RegPost (S : Setup) (N : Nat) (K : Env → Mem → Prop) (Q : Exit → Act → World → Prop) : Prop :=
  ∀ S' L' a', Ext S S' → S'.WF → ER S' N L' a' → K L' S'.m → Q .normal a' S'.w

theorem wp_text {C : List Nat} {ops : Array Oper} {Q : Exit → Act → World → Prop} : ∀ (os : List (Nat × Oper)) (rs : List RO) (S : Setup) (L : Env) (a : Act) (K : Env → Mem → Prop), os.length = rs.length →
    (∀ (j : Nat) (i : Nat) (o : Oper) (r : RO), os[j]? = some (i, o) → rs[j]? = some r → ops[i]? = some o ∧ Same P ops N o r) →
    S.WF → ER S N L a → Reg P C rs L S.m K → RegPost S N K Q → wpOps P ops Q (os.map (·.1)) a S.w
  | [], [], S, L, a, K, _, _, hS, hL, h, hQ => by
    simp only [List.map_nil, wpOps]
    exact hQ S L a (Ext.refl S) hS hL h
  | [], _ :: _, _, _, _, _, hl, _, _, _, _, _ => by simp at hl
  | _ :: _, [], _, _, _, _, hl, _, _, _, _, _ => by simp at hl
  | (i, o) :: os, r :: rs, S, L, a, K, hl, hsame, hS, hL, h, hQ => by
    obtain ⟨hi, hs⟩ := hsame 0 i o r rfl rfl
    have hrest : ∀ (S' : Setup) (L' : Env) (a' : Act), Ext S S' → S'.WF → ER S' N L' a' → Reg P C rs L' S'.m K → wpOps P ops Q (os.map (·.1)) a' S'.w := by
      intro S' L' a' he hS' hL' h'
      exact wp_text os rs S' L' a' K (by simpa using hl) (fun j i' o' r' hj hr => hsame (j + 1) i' o' r' (by simpa using hj) (by simpa using hr)) hS' hL' h'
        (fun S'' L'' a'' he' => hQ S'' L'' a'' (he.trans he'))
    have hrun : stepQ P C L S.m r (fun x m' => Reg P C rs (L.put r.dst x) m' K) → o.wp P a S.w (wpOps P ops Q (os.map (·.1))) Q := by
      intro hk
      refine stepK_sound hs.op hS (fun z _ => hL.good z) (stepQ_K hk) ?_
      rintro x m' hreg S' y he hS' rfl hv
      rw [hs.dst]
      exact hrest S' (L.put r.dst x) _ he hS' ((hL.mono he).put hs.lt hv) hreg
    have hskip : Reg P C rs (L.put r.dst undefAV) S.m K → wpOps P ops Q (os.map (·.1)) (a.put o.dst undef) S.w := by
      intro hreg
      rw [hs.dst]
      exact hrest S (L.put r.dst undefAV) _ (Ext.refl S) hS (hL.put hs.lt rfl) hreg
    simp only [List.map_cons, wpOps, hi]
    simp only [Reg] at h
    split at h
    · rename_i hg
      have hw : Region.wanted o (yielded ops a.tmps) = true := wanted_none (by rw [hs.guard, hg])
      simp only [hw, if_true]
      exact .inl (hrun h)
    · rename_i t want hg
      split at h
      · rename_i b hb
        have hv := VR.v (hL.get t _ hb)
        have hw : Region.wanted o (yielded ops a.tmps) = (b == want) := wanted_some (by rw [hs.guard, hg]) hv
        split at h
        · rename_i hbw
          simp only [hw, hbw, beq_self_eq_true, if_true]
          exact .inl (hrun h)
        · rename_i hbw
          have : (b == want) = false := by simpa using hbw
          simp only [hw, this, Bool.false_eq_true, if_false]
          exact hskip h
      · rename_i vs hb
        have hv := VR.v (hL.get t _ hb)
        have hw : Region.wanted o (yielded ops a.tmps) = false := wanted_off (by rw [hs.guard, hg]) hv
        simp only [hw, Bool.false_eq_true, if_false]
        exact hskip h
      · exact h.elim
end
end Go.Proofs.YtlkphnhlibpngaaGreat.Abs
