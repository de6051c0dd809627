/- Abs, part 18: the walk as a function that computes by definition alone; it stops at what is not known: a number's comparison, a call, a loop, an index. -/
import Derived.Test.YtlkphnhlibpngaaGreatAbsLift
set_option linter.unusedVariables false
set_option linter.unusedSimpArgs false
namespace Go.Proofs.YtlkphnhlibpngaaGreat.Abs
open Go

/-- Either way. -/
inductive WB (c : Bool) (F : Bool → Prop) : Prop
  | mk (t : c = true → F true) (f : c = false → F false)
/-- A call. -/
inductive WCall (P : Program) (f : FuncId) (vs : List AV) (q : Bool) (C : List Nat) (m : Mem) (F : AV → Mem → Prop) : Prop
  | any (r : AV) (h : ∀ m, ACall P f vs m r m) (k : F r m)
  | look (r : AV) (h : ∀ m2, keeps C m m2 → ACall P f vs m2 r m2) (k : F r m)
  | here (hq : q = false) (r : AV) (m' : Mem) (h : ACall P f vs m r m') (hk : keeps C m m') (k : F r m')
/-- A closure's. -/
inductive WCallV (P : Program) (f : FuncId) (vs : List AV) (C : List Nat) (m : Mem) (F : AV → Mem → Prop) : Prop
  | mk (hok : callOk P f = true) (r : AV) (m' : Mem) (h : ACall P f vs m r m') (hk : keeps C m m') (k : F r m')
/-- What is to be known of an operation is not at hand. -/
inductive WOp (L : Env) (m : Mem) (op : ROp) (C : List Nat) (F : AV → Mem → Prop) : Prop
  | mk (x : AV) (m' : Mem) (h : aop L m op = some (x, m')) (hk : keeps C m m') (k : F x m')
inductive WLoop (P : Program) (N : Nat) (b : RCode) (k : List Item) (L : Env) (m : Mem) (Q : QT) : Prop
  | mk (h : Stop P N [] [] (.code (.loop b) :: k) L m Q)
inductive WRegf (P : Program) (N : Nat) (ops : List RO) (ms : List Nat) (k : List Item) (L : Env) (m : Mem) (Q : QT) : Prop
  | mk (h : Stop P N [] [] (.code (.regf ops ms) :: k) L m Q)
inductive WReg (F : List Nat → Prop) : Prop
  | mk (C : List Nat) (h : F C)

theorem keeps_of {m m' : Mem} : ∀ {C : List Nat}, (∀ c ∈ C, m'[c]? = m[c]?) → keeps C m m'
  | [], _ => trivial
  | c :: C, h => ⟨h c (by simp), keeps_of fun d hd => h d (by simp [hd])⟩

def WyK (C : List Nat) (m m' : Mem) (p : Prop) : Prop :=
  match C with
  | [] => p
  | c :: C => keeps (c :: C) m m' ∧ p
theorem WyK_iff {C : List Nat} {m m' : Mem} {p : Prop} (h : WyK C m m' p) : keeps C m m' ∧ p := by
  cases C with
  | nil => exact ⟨trivial, h⟩
  | cons c C => exact h
/-! values and blocks are brought to the form that they are looked at in -/
def fcL {α : Type} : List α → (List α → Prop) → Prop
  | [], k => k []
  | x :: xs, k => fcL xs fun ys => k (x :: ys)
theorem fcL_iff {α : Type} : ∀ {xs : List α} {k : List α → Prop}, fcL xs k → k xs
  | [], _, h => h
  | x :: xs, k, h => fcL_iff (xs := xs) (k := fun ys => k (x :: ys)) h
def fcV (x : AV) (k : AV → Prop) : Prop :=
  match x with
  | .agg cs => fcL cs fun cs => k (.agg cs)
  | x => k x
theorem fcV_iff {x : AV} {k : AV → Prop} (h : fcV x k) : k x := by
  cases x <;> first | exact fcL_iff (k := fun cs => k (.agg cs)) h | exact h
def fcN (n : Nat) (k : Nat → Prop) : Prop :=
  match n with
  | 0 => k 0
  | n + 1 => k (n + 1)
theorem fcN_iff {n : Nat} {k : Nat → Prop} (h : fcN n k) : k n := by cases n <;> exact h
def fcB (b : Blk) (k : Blk → Prop) : Prop :=
  fcL b.cells fun cs => fcN b.cur fun c => match b.alive with
    | true => k ⟨cs, c, true⟩
    | false => k ⟨cs, c, false⟩
theorem fcB_iff {b : Blk} {k : Blk → Prop} (h : fcB b k) : k b := by
  obtain ⟨cs, c, al⟩ := b
  have h1 := fcL_iff h
  have h2 := fcN_iff h1
  cases al <;> exact h2
def fcEnd : Mem → (Mem → Prop) → Prop
  | [], k => k []
  | [b], k => fcB b fun b => k [b]
  | b :: c :: m, k => fcEnd (c :: m) fun m => k (b :: m)
theorem fcEnd_iff : ∀ {m : Mem} {k : Mem → Prop}, fcEnd m k → k m
  | [], _, h => h
  | [b], k, h => fcB_iff (k := fun b => k [b]) h
  | b :: c :: m, k, h => fcEnd_iff (m := c :: m) (k := fun m => k (b :: m)) h
def fcAt : Nat → Mem → (Mem → Prop) → Prop
  | _, [], k => k []
  | 0, b :: m, k => fcB b fun b => fcL m fun m => k (b :: m)
  | n + 1, b :: m, k => fcAt n m fun m => k (b :: m)
theorem fcAt_iff : ∀ {n : Nat} {m : Mem} {k : Mem → Prop}, fcAt n m k → k m
  | 0, [], _, h => h
  | n + 1, [], _, h => h
  | 0, b :: m, k, h => fcL_iff (k := fun m => k (b :: m)) (fcB_iff (k := fun b => fcL m fun m => k (b :: m)) h)
  | n + 1, b :: m, k, h => fcAt_iff (n := n) (m := m) (k := fun m => k (b :: m)) h
def fcOp (op : ROp) (L : Env) (x : AV) (m' : Mem) (k : AV → Mem → Prop) : Prop :=
  match op with
  | .new _ => fcEnd m' (k x)
  | .box _ => fcEnd m' (k x)
  | .st _ a _ => match opd L a with
    | some (.ptr b _ _) => fcAt b m' (k x)
    | _ => k x m'
  | .ld (some _) _ => fcV x fun x => k x m'
  | .build _ _ => fcV x fun x => k x m'
  | .fld _ (some _) _ => fcV x fun x => k x m'
  | _ => k x m'
theorem fcOp_iff {op : ROp} {L : Env} {x : AV} {m' : Mem} {k : AV → Mem → Prop} (h : fcOp op L x m' k) : k x m' := by
  unfold fcOp at h
  split at h
  · exact fcEnd_iff h
  · exact fcEnd_iff h
  · split at h
    · exact fcAt_iff h
    · exact h
  · exact fcV_iff (k := fun x => k x m') h
  · exact fcV_iff (k := fun x => k x m') h
  · exact fcV_iff (k := fun x => k x m') h
  · exact h
def putK (L : Env) (d : Option Nat) (x : AV) (k : Env → Prop) : Prop :=
  match d with
  | some d => k ((d, x) :: L)
  | none => k L
theorem putK_iff {L : Env} {d : Option Nat} {x : AV} {k : Env → Prop} (h : putK L d x k) : k (L.put d x) := by
  cases d <;> exact h
def WyV (sp : Bool) (F : AV → Mem → Prop) (x : AV) (m' : Mem) : Prop :=
  match sp with
  | false => F x m'
  | true => match x with
    | .p (.v (.bool c)) => WB c fun b => F (bools b) m'
    | x => F x m'
theorem WyV_iff {sp : Bool} {F : AV → Mem → Prop} {x : AV} {m' : Mem} (h : WyV sp F x m') : F x m' := by
  unfold WyV at h
  split at h
  · exact h
  · split at h
    · rename_i c
      obtain ⟨t, f⟩ := h
      cases c
      · exact f rfl
      · exact t rfl
    · exact h
def isSplit : ROp → Bool
  | .bin _ _ _ _ => true
  | .ld _ _ => true
  | .fld _ _ _ => true
  | .ext _ _ => true
  | _ => false
def isFar : ROp → Bool
  | .iad _ _ _ => true
  | .app _ _ _ _ => true
  | .slc _ _ _ _ => true
  | .bin .quo _ _ _ => true
  | .bin .rem _ _ _ => true
  | .bin .shr _ _ (.tmp _) => true
  | .bin .shl _ _ (.tmp _) => true
  | .snil _ _ => true
  | _ => false

section
variable {P : Program} {N : Nat}

def WyA (op : ROp) (C : List Nat) (L : Env) (m : Mem) (F : AV → Mem → Prop) : Option (AV × Mem) → Prop
  | some (x, m') => match op.eff with
    | true => WyK C m m' (fcOp op L x m' (WyV (isSplit op) F))
    | false => fcOp op L x m' (WyV (isSplit op) F)
  | none => False
def WyF (op : ROp) (L : Env) (C : List Nat) (m : Mem) (F : AV → Mem → Prop) : Bool → Prop
  | true => WOp L m op C F
  | false => WyA op C L m F (aop L m op)
def WyL (op : ROp) (C : List Nat) (L : Env) (m : Mem) (F : AV → Mem → Prop) : Option AV → Prop
  | some (.ptr c _ _) => match C.elem c with
    | true => WyA op [] L m F (aop L m op)
    | false => False
  | some (.fp _) => WyA op [] L m F (aop L m op)
  | _ => False
def WyC (P : Program) (q : Bool) (f : FuncId) (C : List Nat) (m : Mem) (F : AV → Mem → Prop) : Option (List AV) → Prop
  | some vs => WCall P f vs q C m (WyV true F)
  | none => False
def WyCV (P : Program) (C : List Nat) (m : Mem) (F : AV → Mem → Prop) : Option AV → Option (List AV) → Prop
  | some (.fn g caps), some vs => WCallV P g (vs ++ caps) C m (WyV true F)
  | _, _ => False
def WyO (P : Program) (C : List Nat) (q : Bool) (L : Env) (m : Mem) (F : AV → Mem → Prop) (op : ROp) : Prop :=
  match op with
  | .call f args => WyC P q f C m F (opds L args)
  | .callv f args => match q with
    | false => WyCV P C m F (opd L f) (opds L args)
    | true => False
  | op => match q with
    | false => WyF op L C m F (isFar op)
    | true => match op with
      | .ld n z => WyL (.ld n z) C L m F (opd L z)
      | _ => False
def WyG (F : Prop) (s : Prop) : Option Bool → Prop
  | some true => F
  | some false => s
  | none => False

def WyI (P : Program) (N : Nat) (F : WT) (C : List Nat) (k : List Item) (L : Env) (m : Mem) (Q : QT) : RCode → Prop
  | .skip => F C [] k L m Q
  | .reg ops => match loose ops with
    | true => WReg fun C => F C ops k L m Q
    | false => F [] ops k L m Q
  | .regf ops ms => WRegf P N ops ms k L m Q
  | .seq a b => F C [] (.code a :: .code b :: k) L m Q
  | .cond z t e => WxC F C t e k L m Q (opd L z)
  | .block id b => F C [] (.code b :: .blk id :: k) L m Q
  | .loop b => WLoop P N b k L m Q
  | .exit id => WxE F C id L m Q (unw id k)
  | .ret => Q .ret L m

def Wy (P : Program) (N : Nat) : Nat → WT
  | 0, C, ops, k, L, m, Q => Stop P N C ops k L m Q
  | n + 1, C, r :: ops, k, L, m, Q => WyG (WyO P C r.quiet L m (fun x m' => putK L r.dst x fun L' => Wy P N n C ops k L' m' Q) r.op) (putK L r.dst undefAV fun L' => Wy P N n C ops k L' m Q) (guardOn L r.guard)
  | n + 1, C, [], [], L, m, Q => Q .normal L m
  | n + 1, C, [], .blk _ :: k, L, m, Q => Wy P N n C [] k L m Q
  | n + 1, C, [], .code c :: k, L, m, Q => WyI P N (Wy P N n) C k L m Q c

theorem WyA_sound {op : ROp} {C : List Nat} {L : Env} {m : Mem} {F : AV → Mem → Prop} (h : WyA op C L m F (aop L m op)) : ∃ x m', aop L m op = some (x, m') ∧ keeps C m m' ∧ F x m' := by
  cases ha : aop L m op with
  | none => rw [ha] at h; exact h.elim
  | some p =>
    rw [ha] at h
    have h : match op.eff with
      | true => WyK C m p.2 (fcOp op L p.1 p.2 (WyV (isSplit op) F))
      | false => fcOp op L p.1 p.2 (WyV (isSplit op) F) := h
    cases he : op.eff with
    | true =>
      rw [he] at h
      obtain ⟨h1, h2⟩ := WyK_iff h
      exact ⟨p.1, p.2, rfl, h1, WyV_iff (fcOp_iff h2)⟩
    | false =>
      rw [he] at h
      refine ⟨p.1, p.2, rfl, ?_, WyV_iff (fcOp_iff h)⟩
      have hm : p.2 = m := aop_noeff (x := p.1) ha he
      rw [hm]
      exact keeps_of fun _ _ => rfl
theorem stepK_aop {L : Env} {m : Mem} {op : ROp} {K : AV → Mem → Prop} (hc : isCall op = false) {x : AV} {m' : Mem} (ha : aop L m op = some (x, m')) (hk : K x m') : stepK P L m op K := by
  unfold stepK
  split
  · simp [isCall] at hc
  · simp [isCall] at hc
  · rw [ha]; exact hk
theorem WyO_sound {C : List Nat} {L : Env} {m : Mem} {r : RO} {F : AV → Mem → Prop} (h : WyO P C r.quiet L m F r.op) : stepQ P C L m r F := by
  obtain ⟨d, op, g, q⟩ := r
  simp only at h
  have hrest : isCall op = false → (q = false → WyF op L C m F (isFar op)) → (q = true → ∃ n z, op = .ld n z ∧ WyL (.ld n z) C L m F (opd L z)) → stepQ P C L m ⟨d, op, g, q⟩ F := by
    intro hc h1 h2
    cases q with
    | false =>
      have h := h1 rfl
      show stepK P L m op fun x m' => (∀ c ∈ C, m'[c]? = m[c]?) ∧ F x m'
      unfold WyF at h
      split at h
      · obtain ⟨x, m', ha, hk, hF⟩ := h
        exact stepK_aop hc ha ⟨keeps_all hk, hF⟩
      · obtain ⟨x, m', ha, hk, hF⟩ := WyA_sound h
        exact stepK_aop hc ha ⟨keeps_all hk, hF⟩
    | true =>
      obtain ⟨n, z, rfl, h⟩ := h2 rfl
      simp only [stepQ]
      have h : WyL (.ld n z) C L m F (opd L z) := h
      generalize hz : opd L z = v at h
      unfold WyL at h
      split at h
      · split at h
        · rename_i he
          obtain ⟨x, m', ha, hk, hF⟩ := WyA_sound h
          exact ⟨List.elem_iff.1 he, stepK_aop rfl ha hF⟩
        · exact h.elim
      · obtain ⟨x, m', ha, hk, hF⟩ := WyA_sound h
        exact stepK_aop rfl ha hF
      · exact h.elim
  cases op with
  | call f args =>
    simp only [WyO] at h
    cases hv : opds L args with
    | none => rw [hv] at h; exact h.elim
    | some vs =>
      rw [hv] at h
      simp only [WyC] at h
      cases h with
      | any r h k =>
        cases q with
        | true => simp only [stepQ, hv]; exact ⟨r, fun m2 _ => h m2, WyV_iff k⟩
        | false => simp only [stepQ, stepK, hv]; exact ⟨r, m, h m, fun _ _ => rfl, WyV_iff k⟩
      | look r h k =>
        cases q with
        | true => simp only [stepQ, hv]; exact ⟨r, fun m2 hm2 => h m2 (keeps_of hm2), WyV_iff k⟩
        | false => simp only [stepQ, stepK, hv]; exact ⟨r, m, h m (keeps_of fun _ _ => rfl), fun _ _ => rfl, WyV_iff k⟩
      | here hq r m' h hk k =>
        subst hq
        simp only [stepQ, stepK, hv]
        exact ⟨r, m', h, keeps_all hk, WyV_iff k⟩
  | callv f args =>
    simp only [WyO] at h
    cases q with
    | true => exact h.elim
    | false =>
      simp only at h
      unfold WyCV at h
      split at h
      · rename_i g caps vs hf hv
        obtain ⟨hok, r, m', hc, hk, k⟩ := h
        simp only [stepQ, stepK, hf, hv]
        exact ⟨hok, r, m', hc, keeps_all hk, WyV_iff k⟩
      · exact h.elim
  | ld n z => exact hrest rfl (fun hq => by subst hq; exact h) (fun hq => by subst hq; exact ⟨n, z, rfl, h⟩)
  | _ => exact hrest rfl (fun hq => by subst hq; exact h) (fun hq => by subst hq; exact h.elim)

theorem reg_skip {C : List Nat} {r : RO} {ops : List RO} {L : Env} {m : Mem} {K : Env → Mem → Prop} (hg : guardOn L r.guard = some false) (h : Reg P C ops (L.put r.dst undefAV) m K) : Reg P C (r :: ops) L m K := by
  simp only [Reg]
  cases hgr : r.guard with
  | none => rw [hgr] at hg; simp [guardOn] at hg
  | some p =>
    obtain ⟨t, want⟩ := p
    rw [hgr] at hg
    simp only [guardOn] at hg
    split at hg
    · rename_i c hc
      have hcw : ¬ c = want := by simpa using hg
      simp only [hc, if_neg hcw]
      exact h
    · rename_i vs hc
      simp only [hc]
      exact h
    · simp at hg
theorem reg_on {C : List Nat} {r : RO} {ops : List RO} {L : Env} {m : Mem} {K : Env → Mem → Prop} (hg : guardOn L r.guard = some true) (h : stepQ P C L m r (fun x m' => Reg P C ops (L.put r.dst x) m' K)) : Reg P C (r :: ops) L m K := by
  simp only [Reg]
  cases hgr : r.guard with
  | none => exact h
  | some p =>
    obtain ⟨t, want⟩ := p
    rw [hgr] at hg
    simp only [guardOn] at hg
    split at hg
    · rename_i c hc
      have hcw : c = want := by simpa using hg
      simp only [hc, if_pos hcw]
      exact h
    · simp at hg
    · simp at hg

theorem stepQ_mono {C : List Nat} {L : Env} {m : Mem} {r : RO} {K K' : AV → Mem → Prop} (h : stepQ P C L m r K) (hk : ∀ x m', K x m' → K' x m') : stepQ P C L m r K' := by
  unfold stepQ at h ⊢
  split at h
  · split at h
    · split at h
      · obtain ⟨x, h1, h2⟩ := h; exact ⟨x, h1, hk _ _ h2⟩
      · exact h.elim
    · split at h
      · exact ⟨h.1, stepK_mono h.2 hk⟩
      · exact stepK_mono h hk
      · exact h.elim
    · exact h.elim
  · exact stepK_mono h fun x m' ⟨h1, h2⟩ => ⟨h1, hk _ _ h2⟩

theorem Wy_sound : ∀ (n : Nat) (C : List Nat) (ops : List RO) (k : List Item) (L : Env) (m : Mem) (Q : QT), Wy P N n C ops k L m Q → Stop P N C ops k L m Q
  | 0, C, ops, k, L, m, Q, h => h
  | n + 1, C, r :: ops, k, L, m, Q, h => by
    simp only [Wy] at h
    cases hg : guardOn L r.guard with
    | none => rw [hg] at h; exact h.elim
    | some b =>
      rw [hg] at h
      cases b with
      | false => exact reg_skip hg (Wy_sound n C ops k _ _ Q (putK_iff (k := fun L' => Wy P N n C ops k L' m Q) h))
      | true =>
        exact reg_on hg (stepQ_mono (WyO_sound h) fun x m' h' => Wy_sound n C ops k _ _ Q (putK_iff (k := fun L' => Wy P N n C ops k L' m' Q) h'))
  | n + 1, C, [], [], L, m, Q, h => h
  | n + 1, C, [], .blk id :: k, L, m, Q, h => by
    simp only [Wy] at h
    exact Wy_sound n C [] k L m Q h
  | n + 1, C, [], .code c :: k, L, m, Q, h => by
    show V P N c L m _
    simp only [Wy] at h
    cases c with
    | skip => exact V_skip (Wy_sound n C [] k L m Q h)
    | reg ops =>
      simp only [WyI] at h
      cases hl : loose ops with
      | true =>
        rw [hl] at h
        obtain ⟨C', h⟩ := h
        exact V_reg C' (Wy_sound n C' ops k L m Q h)
      | false => rw [hl] at h; exact V_reg [] (Wy_sound n [] ops k L m Q h)
    | regf ops ms => obtain ⟨h⟩ := h; exact h
    | seq a b =>
      have := Wy_sound n C [] (.code a :: .code b :: k) L m Q h
      refine V_seq (V.mono this ?_)
      intro e L' m' h'
      cases e <;> exact h'
    | cond z t e =>
      simp only [WyI] at h
      unfold WxC at h
      split at h
      · rename_i b hb
        cases b with
        | true => exact V_cond (b := true) hb (fun _ => Wy_sound n C [] (.code t :: k) L m Q h) (fun hf => by simp at hf)
        | false => exact V_cond (b := false) hb (fun hf => by simp at hf) (fun _ => Wy_sound n C [] (.code e :: k) L m Q h)
      · exact h.elim
    | block id b =>
      have := Wy_sound n C [] (.code b :: .blk id :: k) L m Q h
      refine V_block (V.mono this ?_)
      intro e L' m' h'
      cases e <;> exact h'
    | loop b => obtain ⟨h⟩ := h; exact h
    | exit id =>
      refine V_exit ?_
      simp only [WyI] at h
      cases hk : unw id k with
      | some k' => rw [hk] at h; exact unw_some hk (Wy_sound n C [] k' L m Q h)
      | none => rw [hk] at h; exact unw_none hk h
    | ret => exact V_ret h

variable {L : Env} {m : Mem} {Q : QT} {k : List Item} {C : List Nat}

theorem fcL_of {α : Type} : ∀ {xs : List α} {k : List α → Prop}, k xs → fcL xs k
  | [], _, h => h
  | x :: xs, k, h => fcL_of (xs := xs) (k := fun ys => k (x :: ys)) h
theorem fcV_of {x : AV} {k : AV → Prop} (h : k x) : fcV x k := by
  cases x <;> first | exact fcL_of (k := fun cs => k (.agg cs)) h | exact h
theorem fcB_of {b : Blk} {k : Blk → Prop} (h : k b) : fcB b k := by
  obtain ⟨cs, c, al⟩ := b
  refine fcL_of ?_
  cases c <;> cases al <;> exact h
theorem fcEnd_of : ∀ {m : Mem} {k : Mem → Prop}, k m → fcEnd m k
  | [], _, h => h
  | [b], k, h => fcB_of (k := fun b => k [b]) h
  | b :: c :: m, k, h => fcEnd_of (m := c :: m) (k := fun m => k (b :: m)) h
theorem fcAt_of : ∀ {n : Nat} {m : Mem} {k : Mem → Prop}, k m → fcAt n m k
  | 0, [], _, h => h
  | n + 1, [], _, h => h
  | 0, b :: m, k, h => fcB_of (k := fun b => fcL m fun m => k (b :: m)) (fcL_of (k := fun m => k (b :: m)) h)
  | n + 1, b :: m, k, h => fcAt_of (n := n) (m := m) (k := fun m => k (b :: m)) h
theorem fcOp_of {op : ROp} {L : Env} {x : AV} {m' : Mem} {k : AV → Mem → Prop} (h : k x m') : fcOp op L x m' k := by
  unfold fcOp
  split
  · exact fcEnd_of h
  · exact fcEnd_of h
  · split
    · exact fcAt_of h
    · exact h
  · exact fcV_of (k := fun x => k x m') h
  · exact fcV_of (k := fun x => k x m') h
  · exact fcV_of (k := fun x => k x m') h
  · exact h
/-- An operation whose outcome is told. -/
theorem WyA_of {op : ROp} {C : List Nat} {L : Env} {m : Mem} {F : AV → Mem → Prop} (x : AV) (m' : Mem) (h : aop L m op = some (x, m')) (hk : keeps C m m') (k : WyV (isSplit op) F x m') : WyA op C L m F (aop L m op) := by
  rw [h]
  have hp : fcOp op L x m' (WyV (isSplit op) F) := fcOp_of k
  show match op.eff with
    | true => WyK C m m' (fcOp op L x m' (WyV (isSplit op) F))
    | false => fcOp op L x m' (WyV (isSplit op) F)
  cases op.eff with
  | true =>
    cases C with
    | nil => exact hp
    | cons c C => exact ⟨hk, hp⟩
  | false => exact hp

/-- A function's walk. -/
theorem acall_run {H : List FuncId} {f : FuncId} {args : List AV} {m m' : Mem} {r : AV} {R : RFn} (hR : rfn P H f args.length = some R)
    (h : Wy P R.n 100000 [] [] [.code R.code] (enum 0 args) m (Ends R m r m')) : ACall P f args m r m' :=
  acall_walk hR fun _ => Wy_sound _ _ _ _ _ _ _ h
/-- A function's end, nothing of the memory is left. -/
theorem endP {R : RFn} {mm : Mem} {r : AV} {vs : List AV} {e : Exit} (he : e = .normal ∨ e = .ret) (hv : aress L mm R.res = some vs) (hr : tupled vs = r) (hu : r.under 0) : Ends R [] r [] e L mm := by
  refine ⟨he, vs, hv, ?_⟩
  rw [hr]
  have := Gives.cut (n := 0) (m := mm) (v := r) 0 (Nat.le_refl _) hu (fun b blk hb => by simp at hb)
  simpa using this
/-- Likewise; less is told of the result. -/
theorem endW {R : RFn} {mm : Mem} {r x : AV} {vs : List AV} {e : Exit} (he : e = .normal ∨ e = .ret) (hv : aress L mm R.res = some vs) (hx : tupled vs = x) (hr : x.le r) (hu : x.under 0) : Ends R [] r [] e L mm := by
  refine ⟨he, vs, hv, ?_⟩
  rw [hx]
  have := Gives.cut (n := 0) (m := mm) (v := x) 0 (Nat.le_refl _) hu (fun b blk hb => by simp at hb)
  rw [List.take_zero] at this
  exact this.trans (Gives.le hr)
/-- A row of one's own is handed out, and only read from then on. -/
theorem endL {R : RFn} {mm : Mem} {b ver n sz : Nat} {blk : Blk} {xs : List (List PV)} {vs : List AV} {e : Exit} (he : e = .normal ∨ e = .ret) (hv : aress L mm R.res = some vs) (hx : tupled vs = .sl b ver 0 n sz)
    (hb : mm[b]? = some blk) (ha : blk.alive = true) (hve : ver = blk.cur) (hc : blk.cells = (xs.flatten).map .p) (hn : xs.length = n) (hl : ∀ r ∈ xs, r.length = sz) (h1 : ∀ c ∈ blk.cells, c.one = true) : Ends R [] (.p (.list sz false xs)) [] e L mm := by
  refine ⟨he, vs, hv, ?_⟩
  rw [hx]
  have := Gives.cut (n := 0) (m := mm.set b (.dead (blk.cur + 1))) (v := .p (.list sz false xs)) 0 (Nat.le_refl _) trivial (fun b blk hb => by simp at hb)
  rw [List.take_zero] at this
  exact (Gives.list hb ha hve hc hn hl h1).trans this
/-- One that hands one block back. -/
theorem end1 {R : RFn} {m0 mm : Mem} {r : AV} {vs : List AV} {e : Exit} {blk : Blk} (hm0 : m0.length = 1) (he : e = .normal ∨ e = .ret) (hv : aress L mm R.res = some vs) (hr : tupled vs = r) (hu : r.under 1) (hb : mm.take 1 = [blk]) (hc : AV.unders 1 blk.cells) : Ends R m0 r [blk] e L mm := by
  refine ⟨he, vs, hv, ?_⟩
  rw [hr, hm0]
  have := Gives.cut (n := 1) (m := mm) (v := r) 1 (Nat.le_refl _) hu (fun b bl hbl ha => by
    rw [hb] at hbl
    cases b with
    | zero => simp at hbl; subst hbl; exact hc
    | succ b => simp at hbl)
  rwa [hb] at this
/-- One that makes a block, and hands out its address. -/
theorem endN {R : RFn} {mm : Mem} {b ver off : Nat} {vs : List AV} {e : Exit} {blk : Blk} (he : e = .normal ∨ e = .ret) (hv : aress L mm R.res = some vs) (hr : tupled vs = .ptr b ver off) (hb : mm[b]? = some blk) (hc : AV.unders 0 blk.cells) : Ends R [] (.ptr 0 ver off) [blk] e L mm := by
  refine ⟨he, vs, hv, ?_⟩
  rw [hr]
  exact Gives.pick hb hc

/-! loops -/
/-- The frame is as told. -/
def Says (L : Env) : Env → Prop
  | [] => True
  | (t, x) :: E => L.get t = some x ∧ Says L E
theorem Says.get {L : Env} : ∀ {E : Env}, Says L E → ∀ {t : Nat} {x : AV}, E.get t = some x → L.get t = some x
  | [], _, _, _, h => by simp [Env.get] at h
  | (s, y) :: E, hs, t, x, h => by
    simp only [Env.get_cons] at h
    split at h
    · rename_i e; subst e; obtain rfl := Option.some.inj h; exact hs.1
    · exact Says.get hs.2 h
theorem stop_le {L' : Env} {c : RCode} (hl : Env.le L L') (h : Stop P N C [] (.code c :: k) L' m Q) : Stop P N C [] (.code c :: k) L m Q := by
  intro H c' hc S a h1 h2 h3
  exact h H c' hc S a h1 h2 (h3.le hl)
theorem Says.le {L E : Env} (h : Says L E) : Env.le L E := fun t x hx => ⟨x, h.get hx, AV.le.refl x⟩

/-- The rest behind a loop, as seen from within. -/
def Goes (P : Program) (N : Nat) (k : List Item) (Q : QT) (I : Env → Mem → Prop) : QT := fun e L m => match e with
  | .normal => I L m
  | .exit i => match unw i k with
    | some k' => Wy P N 100000 [] [] k' L m Q
    | none => Q (.exit i) L m
  | e => Q e L m
/-- Values and blocks that lead to none beyond k. -/
def Env.under (k : Nat) : Env → Prop
  | [] => True
  | (_, x) :: E => x.under k ∧ Env.under k E
theorem Env.under_get {k : Nat} : ∀ {E : Env}, Env.under k E → ∀ {t : Nat} {x : AV}, E.get t = some x → x.under k
  | [], _, _, _, h => by simp [Env.get] at h
  | (s, y) :: E, hs, t, x, h => by
    simp only [Env.get_cons] at h
    split at h
    · obtain rfl := Option.some.inj h; exact hs.1
    · exact Env.under_get hs.2 h
def munder (k : Nat) : Mem → Prop
  | [] => True
  | blk :: m => AV.unders k blk.cells ∧ munder k m
theorem munder_get {k : Nat} : ∀ {m : Mem}, munder k m → ∀ {b : Nat} {blk : Blk}, m[b]? = some blk → AV.unders k blk.cells
  | [], _, b, blk, h => by simp at h
  | x :: m, hm, 0, blk, h => by simp at h; subst h; exact hm.1
  | x :: m, hm, b + 1, blk, h => munder_get hm.2 (b := b) (blk := blk) (by simpa using h)
/-- Blocks that nothing leads to any more are dropped. -/
theorem tells_cut {L E : Env} {m M : Mem} (hs : Says L E) (hm : m.take M.length = M) (hE : Env.under M.length E) (hM : munder M.length M) : Tells N L m E M := by
  intro S a h1 h2 h3
  -- the frame's values, as told with the blocks cut
  have hget : ∀ {b : Nat} {blk : Blk}, M[b]? = some blk → S.m[b]? = some blk := by
    intro b blk h
    rw [← hm, ← h1] at h
    rw [List.getElem?_take] at h
    split at h
    · exact h
    · simp at h
  have hwf : ({ S with m := M } : Setup).WF := by
    refine ⟨fun b blk hb ha => ?_, fun b c blk blk' hb hc ha ha' he => h2.inj b c blk blk' (hget hb) (hget hc) ha ha' he, h2.fzlt⟩
    obtain ⟨⟨ys, rest, ty, g1, g2, g3⟩, g4⟩ := h2.lies b blk (hget hb) ha
    exact ⟨⟨ys, rest, ty, g1, VRs.cut (S := S) (S' := { S with m := M }) (k := M.length) rfl rfl rfl rfl (by rw [h1, hm]) _ _ (munder_get hM hb) g2, g3⟩, g4⟩
  refine ⟨{ S with m := M }, rfl, hwf, rfl, ⟨h3.size, h3.defers, fun t x ht => VR.cut (S := S) (S' := { S with m := M }) (k := M.length) rfl rfl rfl rfl (by rw [h1, hm]) _ _ (Env.under_get hE ht) (h3.get t x (hs.get ht))⟩, fun S0 he hle => ?_⟩
  refine ⟨he.os, he.tape, he.output, he.size, fun b blk hb => ?_, he.fz, he.kept, ?_, he.thaw⟩
  · obtain ⟨blk', g1, g2⟩ := he.blk b blk hb
    have hbl : b < S0.m.length := (List.getElem?_eq_some_iff.1 hb).1
    have hb' : b < M.length := by omega
    refine ⟨blk', ?_, g2⟩
    show M[b]? = _
    rw [← hm, List.getElem?_take, if_pos hb', ← h1]; exact g1
  · rintro q ⟨b, blk, g1, g2, g3⟩
    exact he.fresh q ⟨b, blk, hget g1, g2, g3⟩

/-- A loop whose state is s: the frame E s says what is known of it, the memory is M s. -/
theorem wloop {b : RCode} {σ : Type} (E : σ → Env) (M : σ → Mem) (I : σ → Prop) (μ : σ → Nat) (s : σ) (h0 : Says L (E s)) (hm : m = M s) (hI : I s)
    (h : ∀ s, I s → Wy P N 100000 [] [] [.code b] (E s) (M s) (Goes P N k Q fun L' m' => ∃ s', Says L' (E s') ∧ m' = M s' ∧ I s' ∧ μ s' < μ s)) : WLoop P N b k L m Q := by
  refine .mk ?_
  refine stop_loop (fun n L m => ∃ s, Says L (E s) ∧ m = M s ∧ I s ∧ n = μ s) (μ s) ⟨s, h0, hm, hI, rfl⟩ ?_
  rintro n L m ⟨s, h1, rfl, h2, rfl⟩ Q' hn ho
  refine stop_le h1.le ?_
  refine stop_mono (Wy_sound _ _ _ _ _ _ _ (h s h2)) ?_
  intro e L' m' hg
  cases e with
  | normal =>
    obtain ⟨s', g1, g2, g3, g4⟩ := hg
    exact hn _ L' m' g4 ⟨s', g1, g2, g3, rfl⟩
  | exit i =>
    simp only [Goes] at hg
    cases hu : unw i k with
    | some k' => rw [hu] at hg; exact ho.exit i k' L' m' hu (Wy_sound _ _ _ _ _ _ _ hg)
    | none =>
      rw [hu] at hg
      exact ho.none i L' m' hu hg
  | ret => exact ho.ret L' m' hg
  | _ => exact ho.rest _ L' m' (fun h => by cases h) (fun i h => by cases h) hg
/-- Likewise; blocks of the body are dropped when it goes round. -/
theorem wloopc {b : RCode} {σ : Type} (E : σ → Env) (M : σ → Mem) (I : σ → Prop) (μ : σ → Nat) (s : σ) (h0 : Says L (E s)) (hm : m = M s) (hI : I s)
    (hE : ∀ s, I s → Env.under (M s).length (E s)) (hM : ∀ s, I s → munder (M s).length (M s)) (hl : ∀ s', I s' → (M s).length ≤ (M s').length)
    (h : ∀ s, I s → Wy P N 100000 [] [] [.code b] (E s) (M s) (Goes P N k Q fun L' m' => ∃ s', Says L' (E s') ∧ m'.take (M s').length = M s' ∧ I s' ∧ μ s' < μ s)) : WLoop P N b k L m Q := by
  refine .mk ?_
  refine stop_loopT (fun n L m => ∃ s, Env.le L (E s) ∧ m = M s ∧ I s ∧ n = μ s) (μ s) ⟨s, h0.le, hm, hI, rfl⟩ ?_
  rintro n L1 m1 ⟨s1, h1, rfl, h2, rfl⟩ Q' hn ho
  refine stop_le h1 ?_
  refine stop_mono (Wy_sound _ _ _ _ _ _ _ (h s1 h2)) ?_
  intro e L' m' hg
  cases e with
  | normal =>
    obtain ⟨s', g1, g2, g3, g4⟩ := hg
    exact hn _ L' m' (E s') (M s') g4 ⟨s', fun t x h => ⟨x, h, AV.le.refl x⟩, rfl, g3, rfl⟩ (by rw [hm]; exact hl s' g3) (tells_cut g1 g2 (hE s' g3) (hM s' g3))
  | exit i =>
    simp only [Goes] at hg
    cases hu : unw i k with
    | some k' => rw [hu] at hg; exact ho.exit i k' L' m' hu (Wy_sound _ _ _ _ _ _ _ hg)
    | none =>
      rw [hu] at hg
      exact ho.none i L' m' hu hg
  | ret => exact ho.ret L' m' hg
  | _ => exact ho.rest _ L' m' (fun h => by cases h) (fun i h => by cases h) hg
end
theorem wregf {P : Program} {N : Nat} {ops : List RO} {ms : List Nat} {k : List Item} {L : Env} {m : Mem} {Q : QT} (n : Nat) (es : List TF) (hes : es.map (·.r) = ops) (hok : okFrom es 0 es ms = true) (ht : TraceF P es L (m ++ List.replicate n (.dead 0)))
    (h : Stop P N [] [] k (envF (fun _ => true) 0 es L) (memF (fun _ => true) 0 es (m ++ List.replicate n (.dead 0))) Q) : WRegf P N ops ms k L m Q := ⟨V_regf n es hes hok ht h⟩
end Go.Proofs.YtlkphnhlibpngaaGreat.Abs
