/- Abs, part 14: control flow: the code with its types looked up (RCode), and the rules by which a walk goes over it. -/
import Derived.Test.YtlkphnhlibpngaaGreatAbsDraw3
set_option linter.unusedVariables false
set_option linter.unusedSimpArgs false
namespace Go.Proofs.YtlkphnhlibpngaaGreat.Abs
open Go

inductive RCode where
  | skip
  | reg (rs : List RO)
  | regf (rs : List RO) (ms : List Nat)
  | seq (a b : RCode)
  | cond (c : Operand) (t e : RCode)
  | block (id : Nat) (b : RCode)
  | loop (b : RCode)
  | exit (id : Nat)
  | ret

def ro0 (P : Program) (ops : Array Oper) (N : Nat) (o : Oper) : Option RO :=
  match rop P o.op, guardOf ops o.guard with
  | some op, some g => if (match o.dst with | some d => decide (d < N) | none => true) then some ⟨o.dst, op, g, false⟩ else none
  | _, _ => none
def ros0 (P : Program) (ops : Array Oper) (N : Nat) : List Oper → Option (List RO)
  | [] => some []
  | o :: os => match ro0 P ops N o, ros0 P ops N os with
    | some r, some rs => some (r :: rs)
    | _, _ => none
def orderedB (ms : List Nat) (i j : Nat) : Bool := if j < i then (ms.getD i 0).testBit j else (ms.getD j 0).testBit i
/-- A call that may turn memory: of one of these functions. -/
def hardCall (H : List FuncId) : ROp → Bool
  | .call f _ => H.contains f
  | .callv _ _ => true
  | _ => false
def setQuiet (H : List FuncId) (ms : List Nat) (all : List RO) : Nat → List RO → List RO
  | _, [] => []
  | i, r :: rs => { r with quiet := (match r.op with
      | .call f _ => !H.contains f && !((List.range all.length).all fun j => j == i || !((all[j]?).any fun q => q.op.sens) || orderedB ms i j)
      | .ld _ _ => !((List.range all.length).all fun j => j == i || !((all[j]?).any fun q => q.op.eff || hardCall H q.op) || orderedB ms i j)
      | _ => false) } :: setQuiet H ms all (i + 1) rs
def rreg (P : Program) (N : Nat) (H : List FuncId) (ops : Array Oper) (draw : Bool) : Option (List RO) :=
  match ros0 P ops N ops.toList with
  | none => none
  | some rs =>
    if draw then
      let rs' := setQuiet H (masks (aftersOf ops)) rs 0 rs
      if P.follows .mixedOrders && drawOk ops rs' then some rs' else none
    else some rs
/-- A region whose order is drawn and matters to a look at operations alone. -/
def rregf (P : Program) (N : Nat) (ops : Array Oper) (draw : Bool) : Option (List RO) :=
  if draw && P.follows .mixedOrders && backFrom 0 (aftersOf ops) then ros0 P ops N ops.toList else none
def rcode (P : Program) (N : Nat) (H : List FuncId) : Code → Option RCode
  | .skip => some .skip
  | .region _ ops draw => match rreg P N H ops draw with
    | some rs => some (.reg rs)
    | none => (rregf P N ops draw).map fun rs => .regf rs (masks (aftersOf ops))
  | .seq a b => match rcode P N H a, rcode P N H b with
    | some x, some y => some (.seq x y)
    | _, _ => none
  | .cond c a b => match rcode P N H a, rcode P N H b with
    | some x, some y => some (.cond c x y)
    | _, _ => none
  | .block id a => (rcode P N H a).map (.block id)
  | .loop a => (rcode P N H a).map .loop
  | .exit id => some (.exit id)
  | .ret => some .ret
  | .label _ => some .skip
  | _ => none

section
variable {P : Program} {N : Nat}

theorem ro0_same {ops : Array Oper} {o : Oper} {r : RO} (h : ro0 P ops N o = some r) (q : Bool) : Same P ops N o { r with quiet := q } := by
  unfold ro0 at h
  split at h
  · rename_i op g h1 h2
    cases hd : o.dst with
    | none =>
      simp only [hd, if_true, Option.some.injEq] at h
      subst h
      exact ⟨h1, hd, fun k hk => by simp at hk, h2⟩
    | some d =>
      simp only [hd] at h
      by_cases hlt : d < N
      · simp only [hlt, decide_true, if_true, Option.some.injEq] at h
        subst h
        exact ⟨h1, hd, fun k hk => by have e : some d = some k := hk; obtain rfl := Option.some.inj e; exact hlt, h2⟩
      · simp [hlt] at h
  · simp at h
theorem ros0_get {ops : Array Oper} : ∀ {os : List Oper} {rs : List RO}, ros0 P ops N os = some rs → rs.length = os.length ∧ ∀ (i : Nat) o r, os[i]? = some o → rs[i]? = some r → ro0 P ops N o = some r
  | [], rs, h => by simp [ros0] at h; subst h; simp
  | o :: os, rs, h => by
    simp only [ros0] at h
    split at h
    · rename_i r rs' h1 h2
      obtain rfl := Option.some.inj h
      obtain ⟨g1, g2⟩ := ros0_get h2
      refine ⟨by simp [g1], fun i o' r' ho hr => ?_⟩
      cases i with
      | zero => simp at ho hr; subst ho; subst hr; exact h1
      | succ i => simp at ho hr; exact g2 i o' r' ho hr
    · simp at h
theorem setQuiet_get {H : List FuncId} {ms : List Nat} {all : List RO} : ∀ (rs : List RO) (k : Nat), (setQuiet H ms all k rs).length = rs.length ∧ ∀ (i : Nat) r', (setQuiet H ms all k rs)[i]? = some r' → ∃ r q, rs[i]? = some r ∧ r' = { r with quiet := q }
  | [], k => by simp [setQuiet]
  | r :: rs, k => by
    obtain ⟨g1, g2⟩ := setQuiet_get (H := H) (ms := ms) (all := all) rs (k + 1)
    refine ⟨by simp [setQuiet, g1], fun i r' h => ?_⟩
    cases i with
    | zero => simp [setQuiet] at h; exact ⟨r, _, rfl, h.symm⟩
    | succ i => simp only [setQuiet, List.getElem?_cons_succ] at h ⊢; exact g2 i r' h

/-- What is behind a piece of code, in the model's words. -/
def Post (S : Setup) (N : Nat) (Q : Exit → Env → Mem → Prop) : Exit → Act → World → Prop :=
  fun e a w => ∃ S' L, S'.w = w ∧ Ext S S' ∧ S'.WF ∧ ER S' N L a ∧ Q e L S'.m

/-- The code, from this frame and memory on, comes to Q. -/
def V (P : Program) (N : Nat) (r : RCode) (L : Env) (m : Mem) (Q : Exit → Env → Mem → Prop) : Prop :=
  ∀ H c, rcode P N H c = some r → ∀ S a, S.m = m → S.WF → ER S N L a → c.wp P (Post S N Q) a S.w

theorem Post.ext {S S' : Setup} {Q : Exit → Env → Mem → Prop} {e : Exit} {a : Act} {w : World} (h : Ext S S') (hp : Post S' N Q e a w) : Post S N Q e a w := by
  obtain ⟨S'', L, h1, h2, h3⟩ := hp
  exact ⟨S'', L, h1, h.trans h2, h3⟩

theorem V.mono {r : RCode} {L : Env} {m : Mem} {Q Q' : Exit → Env → Mem → Prop} (h : V P N r L m Q) (hq : ∀ e L m, Q e L m → Q' e L m) : V P N r L m Q' := by
  intro H c hc S a h1 h2 h3
  refine wp_mono (h H c hc S a h1 h2 h3) ?_
  rintro e a w ⟨S', L', g1, g2, g3, g4, g5⟩
  exact ⟨S', L', g1, g2, g3, g4, hq _ _ _ g5⟩

theorem V_reg (C : List Nat) {rs : List RO} {L : Env} {m : Mem} {Q : Exit → Env → Mem → Prop} (h : Reg P C rs L m (fun L' m' => Q .normal L' m')) : V P N (.reg rs) L m Q := by
  intro H c hc S a h1 h2 h3
  subst h1
  have hpost : RegPost S N (fun L' m' => Q .normal L' m') (Post S N Q) := by
    intro S' L' a' he hwf her hk
    exact ⟨S', L', rfl, he, hwf, her, hk⟩
  cases c <;> simp only [rcode] at hc
  case region id ops draw =>
    split at hc
    case h_2 => simp at hc
    rename_i rs' hc'
    simp only [Option.some.injEq, RCode.reg.injEq] at hc
    subst hc
    have hc := hc'
    unfold rreg at hc
    split at hc
    · simp at hc
    rename_i rs0 h0
    obtain ⟨g1, g2⟩ := ros0_get h0
    split at hc
    · rename_i hdraw
      subst hdraw
      simp only at hc
      split at hc
      · rename_i hok
        simp only [Bool.and_eq_true] at hok
        obtain rfl := Option.some.inj hc
        obtain ⟨q1, q2⟩ := setQuiet_get (H := H) (ms := masks (aftersOf ops)) (all := rs0) rs0 0
        refine wp_drawn hok.1 ⟨by rw [q1, g1]; simp, fun i o r ho hr => ?_, hok.2⟩ h2 h3 h hpost
        obtain ⟨r0, q, e1, rfl⟩ := q2 i r hr
        exact ro0_same (g2 i o r0 (by simpa using ho) e1) q
      · simp at hc
    · rename_i hdraw
      have hd : draw = false := by simpa using hdraw
      subst hd
      obtain rfl := Option.some.inj hc
      refine wp_region ?_
      have hos : (List.range ops.size) = ((ops.toList.zipIdx).map fun (p : Oper × Nat) => (p.2, p.1)).map (·.1) := by
        rw [List.map_map]
        have : ((fun (x : Nat × Oper) => x.1) ∘ fun (p : Oper × Nat) => (p.2, p.1)) = Prod.snd := rfl
        rw [this, List.zipIdx_map_snd]
        simp [List.range_eq_range']
      rw [hos]
      refine wp_text _ rs0 S L a _ (by simp [g1]) (fun j i o r hj hr => ?_) h2 h3 h hpost
      simp only [List.getElem?_map, Option.map_eq_some_iff] at hj
      obtain ⟨p, hp, hpe⟩ := hj
      obtain ⟨p1, p2⟩ := p
      simp only [Prod.mk.injEq] at hpe
      obtain ⟨rfl, rfl⟩ := hpe
      rw [List.getElem?_zipIdx, Option.map_eq_some_iff] at hp
      obtain ⟨o', ho', hp⟩ := hp
      simp only [Prod.mk.injEq] at hp
      obtain ⟨rfl, rfl⟩ := hp
      refine ⟨by simpa using ho', ro0_same (r := r) (g2 j o' r ho' hr) r.quiet⟩
  all_goals first
    | (simp at hc; done)
    | (simp only [Option.map_eq_some_iff] at hc; obtain ⟨_, _, hc⟩ := hc; cases hc; done)
    | (split at hc <;> simp at hc; done)

/-- As a setup that keeps room for n blocks. -/
theorem Setup.room {S : Setup} (hS : S.WF) (n : Nat) : ∃ S' : Setup, S'.w = S.w ∧ S'.WF ∧ S'.m = S.m ++ List.replicate n (.dead 0) ∧ Ext S S' := by
  have hdead : ∀ {b : Nat} {blk : Blk}, (S.m ++ List.replicate n (.dead 0))[b]? = some blk → blk.alive = true → S.m[b]? = some blk := by
    intro b blk h ha
    by_cases hb : b < S.m.length
    · rwa [List.getElem?_append_left hb] at h
    · rw [List.getElem?_append_right (by omega), List.getElem?_replicate] at h
      split at h
      · obtain rfl := Option.some.inj h; simp [Blk.dead] at ha
      · simp at h
  have he : Ext S { S with m := S.m ++ List.replicate n (.dead 0) } := by
    refine ⟨rfl, rfl, rfl, Nat.le_refl _, fun b blk hb => ⟨blk, ?_, Nat.le_refl _, fun ha _ => ⟨ha, rfl, rfl⟩⟩, fun q hq => ⟨hq, rfl⟩, fun _ _ _ => rfl, ?_, fun _ h => .inl h⟩
    · show (S.m ++ _)[b]? = _
      rw [List.getElem?_append_left (List.getElem?_eq_some_iff.1 hb).1]; exact hb
    · rintro q ⟨b, blk, g1, g2, g3⟩
      exact .inl ⟨b, blk, hdead g1 g2, g2, g3⟩
  exact ⟨{ S with m := S.m ++ List.replicate n (.dead 0) }, rfl, ⟨fun b blk hb ha => (hS.lies b blk (hdead hb ha) ha).of_ext he rfl rfl rfl (hS.lies b blk (hdead hb ha) ha).nofz, fun b d x y hb hd ha ha' => hS.inj b d x y (hdead hb ha) (hdead hd ha') ha ha', hS.fzlt⟩, rfl, he⟩
theorem V_regf (n : Nat) (es : List TF) {rs : List RO} {ms : List Nat} {L : Env} {m : Mem} {Q : Exit → Env → Mem → Prop} (hes : es.map (·.r) = rs) (hok : okFrom es 0 es ms = true) (ht : TraceF P es L (m ++ List.replicate n (.dead 0)))
    (h : Q .normal (envF (fun _ => true) 0 es L) (memF (fun _ => true) 0 es (m ++ List.replicate n (.dead 0)))) : V P N (.regf rs ms) L m Q := by
  intro H c hc S a h1 h2 h3
  subst h1
  obtain ⟨S', hw, hwf, hm, hext⟩ := Setup.room h2 n
  have hpost : RegPost S' N (fun L' m' => Q .normal L' m') (Post S N Q) := by
    intro S2 L' a' he hwf her hk
    exact ⟨S2, L', rfl, hext.trans he, hwf, her, hk⟩
  cases c <;> simp only [rcode] at hc
  case region id ops draw =>
    split at hc
    · simp at hc
    simp only [Option.map_eq_some_iff, RCode.regf.injEq] at hc
    obtain ⟨rs', hc, rfl, rfl⟩ := hc
    unfold rregf at hc
    split at hc
    case isFalse => simp at hc
    rename_i hcond
    simp only [Bool.and_eq_true] at hcond
    obtain ⟨⟨rfl, hmix⟩, hback⟩ := hcond
    obtain ⟨g1, g2⟩ := ros0_get hc
    rw [← hw]
    refine wp_drawnF (es := es) hmix ⟨?_, fun i o e ho he => ?_, hback, hok⟩ hwf (h3.mono hext) (by rw [hm]; exact ht) (by rw [hm]; exact h) hpost
    · have : es.length = rs'.length := by rw [← hes, List.length_map]
      rw [this, g1]; simp
    · have hr : rs'[i]? = some e.r := by rw [← hes, List.getElem?_map, he]; rfl
      exact ro0_same (r := e.r) (g2 i o e.r (by simpa using ho) hr) e.r.quiet
  all_goals first
    | (simp at hc; done)
    | (simp only [Option.map_eq_some_iff] at hc; obtain ⟨_, _, hc⟩ := hc; cases hc; done)
    | (split at hc <;> simp at hc; done)

theorem V_seq {a b : RCode} {L : Env} {m : Mem} {Q : Exit → Env → Mem → Prop} (h : V P N a L m (fun e L' m' => match e with | .normal => V P N b L' m' Q | e => Q e L' m')) : V P N (.seq a b) L m Q := by
  intro H c hc S x h1 h2 h3
  cases c <;> simp only [rcode] at hc
  case seq ca cb =>
    split at hc
    · rename_i x' y' e1 e2
      simp only [Option.some.injEq, RCode.seq.injEq] at hc
      obtain ⟨rfl, rfl⟩ := hc
      refine wp_seq (wp_mono (h H ca e1 S x h1 h2 h3) ?_)
      rintro e a' w' ⟨S', L', rfl, g2, g3, g4, g5⟩
      cases e with
      | normal =>
        simp only [Exit.then]
        refine wp_mono (g5 H cb e2 S' a' rfl g3 g4) ?_
        intro e a w hp
        exact hp.ext g2
      | _ => exact ⟨S', L', rfl, g2, g3, g4, g5⟩
    · simp at hc
  all_goals first
    | (simp at hc; done)
    | (simp only [Option.map_eq_some_iff] at hc; obtain ⟨_, _, hc⟩ := hc; cases hc; done)
    | (split at hc <;> simp at hc; done)

theorem V_cond {z : Operand} {t e : RCode} {L : Env} {m : Mem} {Q : Exit → Env → Mem → Prop} {b : Bool} (hb : opd L z = some (bools b)) (ht : b = true → V P N t L m Q) (hf : b = false → V P N e L m Q) : V P N (.cond z t e) L m Q := by
  intro H c hc S x h1 h2 h3
  cases c <;> simp only [rcode] at hc
  case cond cz ca cb =>
    split at hc
    · rename_i x' y' e1 e2
      simp only [Option.some.injEq, RCode.cond.injEq] at hc
      obtain ⟨rfl, rfl, rfl⟩ := hc
      have hv : x.eval cz = .bool b := VR.v (h3.good cz _ hb)
      exact wp_cond_split hv (fun hb => ht hb H ca e1 S x h1 h2 h3) (fun hb => hf hb H cb e2 S x h1 h2 h3)
    · simp at hc
  all_goals first
    | (simp at hc; done)
    | (simp only [Option.map_eq_some_iff] at hc; obtain ⟨_, _, hc⟩ := hc; cases hc; done)
    | (split at hc <;> simp at hc; done)

theorem V_block {id : Nat} {b : RCode} {L : Env} {m : Mem} {Q : Exit → Env → Mem → Prop} (h : V P N b L m (fun e L' m' => match e with | .exit i => if i = id then Q .normal L' m' else Q (.exit i) L' m' | e => Q e L' m')) : V P N (.block id b) L m Q := by
  intro H c hc S x h1 h2 h3
  cases c <;> simp only [rcode] at hc
  case block cid ca =>
    simp only [Option.map_eq_some_iff, RCode.block.injEq] at hc
    obtain ⟨x', e1, rfl, rfl⟩ := hc
    refine wp_block (wp_mono (h H ca e1 S x h1 h2 h3) ?_)
    rintro e a' w' ⟨S', L', rfl, g2, g3, g4, g5⟩
    cases e with
    | exit i =>
      simp only [Exit.inBlock]
      simp only at g5
      split
      · rename_i hi; rw [if_pos hi] at g5; exact ⟨S', L', rfl, g2, g3, g4, g5⟩
      · rename_i hi; rw [if_neg hi] at g5; exact ⟨S', L', rfl, g2, g3, g4, g5⟩
    | _ => exact ⟨S', L', rfl, g2, g3, g4, g5⟩
  all_goals first
    | (simp at hc; done)
    | (simp only [Option.map_eq_some_iff] at hc; obtain ⟨_, _, hc⟩ := hc; cases hc; done)
    | (split at hc <;> simp at hc; done)

theorem least {p : Nat → Prop} (h : ∃ n, p n) : ∃ n, p n ∧ ∀ k, p k → n ≤ k := by
  obtain ⟨n, hn⟩ := h
  induction n using Nat.strongRecOn with
  | _ n ih =>
    by_cases hx : ∃ k, k < n ∧ p k
    · obtain ⟨k, hk, hp⟩ := hx
      exact ih k hk hp
    · exact ⟨n, hn, fun k hk => Nat.le_of_not_lt fun hlt => hx ⟨k, hlt, hk⟩⟩
noncomputable def leastOf {p : Nat → Prop} (h : ∃ n, p n) : Nat := (least h).choose
theorem leastOf_spec {p : Nat → Prop} (h : ∃ n, p n) : p (leastOf h) := (least h).choose_spec.1
theorem leastOf_le {p : Nat → Prop} (h : ∃ n, p n) {k : Nat} (hk : p k) : leastOf h ≤ k := (least h).choose_spec.2 k hk

/-- What is known of a frame and a memory may be told otherwise. -/
def Tells (N : Nat) (L : Env) (m : Mem) (L' : Env) (m' : Mem) : Prop :=
  ∀ S a, S.m = m → S.WF → ER S N L a → ∃ S', S'.w = S.w ∧ S'.WF ∧ S'.m = m' ∧ ER S' N L' a ∧ (∀ S0, Ext S0 S → S0.m.length ≤ m'.length → Ext S0 S')
theorem Tells.refl (N : Nat) (L : Env) (m : Mem) : Tells N L m L m := fun S a h1 h2 h3 => ⟨S, rfl, h2, h1, h3, fun _ h _ => h⟩
theorem V_loopT {b : RCode} {L : Env} {m : Mem} {Q : Exit → Env → Mem → Prop} (I : Nat → Env → Mem → Prop) (n : Nat) (h0 : I n L m)
    (h : ∀ n L1 m1, I n L1 m1 → V P N b L1 m1 (fun e L' m' => match e with | .normal => ∃ k L2 m2, k < n ∧ I k L2 m2 ∧ m.length ≤ m2.length ∧ Tells N L' m' L2 m2 | e => Q e L' m')) : V P N (.loop b) L m Q := by
  intro H c hc S x h1 h2 h3
  cases c <;> simp only [rcode] at hc
  case loop ca =>
    simp only [Option.map_eq_some_iff, RCode.loop.injEq] at hc
    obtain ⟨x', e1, rfl⟩ := hc
    let J : Act → World → Prop := fun a w => ∃ k S' L', S'.w = w ∧ Ext S S' ∧ S'.WF ∧ ER S' N L' a ∧ I k L' S'.m
    classical
    let μ : Act → World → Nat := fun a w => if hj : J a w then leastOf hj else 0
    refine wp_loop J μ ⟨n, S, L, rfl, Ext.refl S, h2, h3, by rw [h1]; exact h0⟩ ?_
    intro a w hJ
    have hμ : μ a w = leastOf hJ := by simp only [μ, dif_pos hJ]
    obtain ⟨S', L', hw, k1, k2, k3, k4⟩ := leastOf_spec hJ
    subst hw
    refine wp_mono (h _ L' S'.m k4 H ca e1 S' a rfl k2 k3) ?_
    rintro e a' w' ⟨S'', L'', rfl, g2, g3, g4, g5⟩
    cases e with
    | normal =>
      obtain ⟨k, L2, m2, hk, hI, hlen, hT⟩ := g5
      obtain ⟨S3, j1, j2, rfl, j4, j5⟩ := hT S'' a' rfl g3 g4
      have hext := j5 S (k1.trans g2) (by rw [h1]; exact hlen)
      have hJ' : J a' S''.w := ⟨k, S3, L2, j1, hext, j2, j4, hI⟩
      refine ⟨hJ', ?_⟩
      rw [hμ]
      have : μ a' S''.w = leastOf hJ' := by simp only [μ, dif_pos hJ']
      rw [this]
      exact Nat.lt_of_le_of_lt (leastOf_le hJ' ⟨S3, L2, j1, hext, j2, j4, hI⟩) hk
    | _ => exact ⟨S'', L'', rfl, k1.trans g2, g3, g4, g5⟩
  all_goals first
    | (simp at hc; done)
    | (simp only [Option.map_eq_some_iff] at hc; obtain ⟨_, _, hc⟩ := hc; cases hc; done)
    | (split at hc <;> simp at hc; done)

theorem V_loop {b : RCode} {L : Env} {m : Mem} {Q : Exit → Env → Mem → Prop} (I : Nat → Env → Mem → Prop) (n : Nat) (h0 : I n L m)
    (h : ∀ n L m, I n L m → V P N b L m (fun e L' m' => match e with | .normal => ∃ k, k < n ∧ I k L' m' | e => Q e L' m')) : V P N (.loop b) L m Q := by
  intro H c hc S x h1 h2 h3
  cases c <;> simp only [rcode] at hc
  case loop ca =>
    simp only [Option.map_eq_some_iff, RCode.loop.injEq] at hc
    obtain ⟨x', e1, rfl⟩ := hc
    let J : Act → World → Prop := fun a w => ∃ k S' L', S'.w = w ∧ Ext S S' ∧ S'.WF ∧ ER S' N L' a ∧ I k L' S'.m
    classical
    let μ : Act → World → Nat := fun a w => if hj : J a w then leastOf hj else 0
    refine wp_loop J μ ⟨n, S, L, rfl, Ext.refl S, h2, h3, by rw [h1]; exact h0⟩ ?_
    intro a w hJ
    have hμ : μ a w = leastOf hJ := by simp only [μ, dif_pos hJ]
    obtain ⟨S', L', hw, k1, k2, k3, k4⟩ := leastOf_spec hJ
    subst hw
    refine wp_mono (h _ L' S'.m k4 H ca e1 S' a rfl k2 k3) ?_
    rintro e a' w' ⟨S'', L'', rfl, g2, g3, g4, g5⟩
    cases e with
    | normal =>
      obtain ⟨k, hk, hI⟩ := g5
      have hJ' : J a' S''.w := ⟨k, S'', L'', rfl, k1.trans g2, g3, g4, hI⟩
      refine ⟨hJ', ?_⟩
      rw [hμ]
      have : μ a' S''.w = leastOf hJ' := by simp only [μ, dif_pos hJ']
      rw [this]
      exact Nat.lt_of_le_of_lt (leastOf_le hJ' ⟨S'', L'', rfl, k1.trans g2, g3, g4, hI⟩) hk
    | _ => exact ⟨S'', L'', rfl, k1.trans g2, g3, g4, g5⟩
  all_goals first
    | (simp at hc; done)
    | (simp only [Option.map_eq_some_iff] at hc; obtain ⟨_, _, hc⟩ := hc; cases hc; done)
    | (split at hc <;> simp at hc; done)

theorem V_skip {L : Env} {m : Mem} {Q : Exit → Env → Mem → Prop} (h : Q .normal L m) : V P N .skip L m Q := by
  intro H c hc S x h1 h2 h3
  subst h1
  have hp : Post S N Q .normal x S.w := ⟨S, L, rfl, Ext.refl S, h2, h3, h⟩
  cases c <;> simp only [rcode] at hc
  case skip => exact wp_skip hp
  case label l => exact wp_label hp
  all_goals first
    | (simp at hc; done)
    | (simp only [Option.map_eq_some_iff] at hc; obtain ⟨_, _, hc⟩ := hc; cases hc; done)
    | (split at hc <;> simp at hc; done)
theorem V_exit {id : Nat} {L : Env} {m : Mem} {Q : Exit → Env → Mem → Prop} (h : Q (.exit id) L m) : V P N (.exit id) L m Q := by
  intro H c hc S x h1 h2 h3
  subst h1
  cases c <;> simp only [rcode] at hc
  case exit i =>
    simp only [Option.some.injEq, RCode.exit.injEq] at hc
    subst hc
    exact wp_exit ⟨S, L, rfl, Ext.refl S, h2, h3, h⟩
  all_goals first
    | (simp at hc; done)
    | (simp only [Option.map_eq_some_iff] at hc; obtain ⟨_, _, hc⟩ := hc; cases hc; done)
    | (split at hc <;> simp at hc; done)
theorem V_ret {L : Env} {m : Mem} {Q : Exit → Env → Mem → Prop} (h : Q .ret L m) : V P N .ret L m Q := by
  intro H c hc S x h1 h2 h3
  subst h1
  cases c <;> simp only [rcode] at hc
  case ret => exact wp_ret ⟨S, L, rfl, Ext.refl S, h2, h3, h⟩
  all_goals first
    | (simp at hc; done)
    | (simp only [Option.map_eq_some_iff] at hc; obtain ⟨_, _, hc⟩ := hc; cases hc; done)
    | (split at hc <;> simp at hc; done)
end
end Go.Proofs.YtlkphnhlibpngaaGreat.Abs
