/- Abs, part 23: a region whose order is drawn, by the blocks that each operation asks for; room for new blocks is kept ahead. -/
import Derived.Test.YtlkphnhlibpngaaGreatAbsDraw2
set_option linter.unusedVariables false
set_option linter.unusedSimpArgs false
namespace Go.Proofs.YtlkphnhlibpngaaGreat.Abs
open Go

/-- An operation, what it comes to, the blocks that it asks for (F), and those that it writes (W). -/
structure TF where
  r : RO
  x : AV
  F : List Nat
  W : List (Nat × Blk)
def wr : Mem → List (Nat × Blk) → Mem
  | m, [] => m
  | m, (b, blk) :: W => wr (m.set b blk) W
def TF.te (e : TF) : TE := ⟨e.r, e.x, false, []⟩

section
variable {P : Program} {N : Nat}

theorem wr_length : ∀ (W : List (Nat × Blk)) (m : Mem), (wr m W).length = m.length
  | [], m => rfl
  | (b, blk) :: W, m => by simp [wr, wr_length W]
theorem wr_get {b : Nat} : ∀ (W : List (Nat × Blk)) (m m' : Mem), m.length = m'.length → m[b]? = m'[b]? → (wr m W)[b]? = (wr m' W)[b]?
  | [], m, m', _, h => h
  | (c, blk) :: W, m, m', hl, h => by
    refine wr_get W _ _ (by simp [hl]) ?_
    simp only [List.getElem?_set]
    split
    · rw [hl]
    · exact h
theorem wr_skip {b : Nat} : ∀ (W : List (Nat × Blk)) (m : Mem), b ∉ W.map (·.1) → (wr m W)[b]? = m[b]?
  | [], m, _ => rfl
  | (c, blk) :: W, m, h => by
    simp only [List.map_cons, List.mem_cons, not_or] at h
    rw [wr, wr_skip W _ h.2, List.getElem?_set_ne (fun e => h.1 e.symm)]
theorem wr_hit {b : Nat} : ∀ (W : List (Nat × Blk)) (m m' : Mem), m.length = m'.length → b ∈ W.map (·.1) → (wr m W)[b]? = (wr m' W)[b]?
  | [], m, m', _, h => by simp at h
  | (c, blk) :: W, m, m', hl, h => by
    by_cases hb : b ∈ W.map (·.1)
    · exact wr_hit W _ _ (by simp [hl]) hb
    · rw [wr, wr, wr_skip W _ hb, wr_skip W _ hb]
      have : b = c := by simp only [List.map_cons, List.mem_cons] at h; exact h.resolve_right hb
      subst this
      simp only [List.getElem?_set, hl, if_true]

/-- One operation, in whatever memory. -/
def StepR (P : Program) (L : Env) (m : Mem) (op : ROp) (x : AV) (m' : Mem) : Prop :=
  match op with
  | .new cs => ∃ k c, m[k]? = some (.dead c) ∧ x = .ptr k (c + 1) 0 ∧ m' = m.set k ⟨cs, c + 1, true⟩
  | op => stepK P L m op fun x' m'' => x' = x ∧ m'' = m'
def TOKF (P : Program) (e : TF) (L : Env) (m : Mem) : Prop :=
  (guardOn L e.r.guard = some false ∧ e.x = undefAV ∧ e.W = []) ∨
  (guardOn L e.r.guard = some true ∧ (∀ b ∈ e.W.map (·.1), b ∈ e.F) ∧ ∀ m2 : Mem, m2.length = m.length → (∀ b ∈ e.F, m2[b]? = m[b]?) → StepR P L m2 e.r.op e.x (wr m2 e.W))
def TraceF (P : Program) : List TF → Env → Mem → Prop
  | [], _, _ => True
  | e :: es, L, m => TOKF P e L m ∧ TraceF P es (L.put e.r.dst e.x) (wr m e.W)
def envF (X : Nat → Bool) : Nat → List TF → Env → Env
  | _, [], L => L
  | k, e :: es, L => envF X (k + 1) es (if X k then L.put e.r.dst e.x else L)
def memF (X : Nat → Bool) : Nat → List TF → Mem → Mem
  | _, [], m => m
  | k, e :: es, m => memF X (k + 1) es (if X k then wr m e.W else m)
def conflictF (q e : TF) : Bool :=
  (match q.r.dst with | some d => e.r.reads.contains d || e.r.dst == some d | none => false) ||
  (match e.r.dst with | some d => q.r.reads.contains d | none => false) ||
  (q.W.any fun p => e.F.contains p.1) || (e.W.any fun p => q.F.contains p.1)
def okFrom (all : List TF) : Nat → List TF → List Nat → Bool
  | _, [], _ => true
  | i, e :: es, ms => ((List.range i).all fun j => match all[j]? with | some q => !conflictF q e || (ms.headD 0).testBit j | none => true) && okFrom all (i + 1) es ms.tail

theorem okFrom_at {all : List TF} : ∀ (es : List TF) (i : Nat) (ms : List Nat), okFrom all i es ms = true → ∀ (k : Nat) e, es[k]? = some e → ∀ j q, j < i + k → all[j]? = some q → conflictF q e = true → (ms.getD k 0).testBit j = true
  | [], _, _, _, k, r, h, _, _, _, _, _ => by simp at h
  | r0 :: rs, i, ms, hd, 0, r, h, j, q, hj, hq, hcf => by
    simp at h; subst h
    simp only [okFrom, Bool.and_eq_true, List.all_eq_true, List.mem_range] at hd
    have := hd.1 j (by omega)
    rw [hq] at this
    simp only [hcf, Bool.not_true, Bool.false_or] at this
    cases ms with
    | nil => simp at this
    | cons m ms => simpa using this
  | r0 :: rs, i, ms, hd, k + 1, r, h, j, q, hj, hq, hcf => by
    simp only [okFrom, Bool.and_eq_true] at hd
    have := okFrom_at rs (i + 1) ms.tail hd.2 k r (by simpa using h) j q (by omega) hq hcf
    cases ms with
    | nil => simp at this
    | cons m ms => simpa using this

theorem envF_te {X : Nat → Bool} : ∀ (es : List TF) (k : Nat) (L : Env), envF X k es L = envAt X k (es.map TF.te) L
  | [], _, _ => rfl
  | e :: es, k, L => envF_te es (k + 1) _
theorem memF_length {X : Nat → Bool} : ∀ (es : List TF) (k : Nat) (m : Mem), (memF X k es m).length = m.length
  | [], _, _ => rfl
  | e :: es, k, m => by
    rw [memF, memF_length es]
    split
    · exact wr_length _ _
    · rfl
theorem memF_agree {X Y : Nat → Bool} {b : Nat} : ∀ (es : List TF) (k : Nat) (m m' : Mem), m.length = m'.length → m[b]? = m'[b]? → (∀ (j : Nat) e, es[j]? = some e → b ∈ e.W.map (·.1) → X (k + j) = Y (k + j)) → (memF X k es m)[b]? = (memF Y k es m')[b]?
  | [], _, _, _, _, h, _ => h
  | e :: es, k, m, m', hl, h, hw => by
    simp only [memF]
    refine memF_agree es (k + 1) _ _ ?_ ?_ (fun j e' he hd => by have := hw (j + 1) e' (by simpa using he) hd; rwa [show k + (j + 1) = k + 1 + j by omega] at this)
    · split <;> split <;> simp [wr_length, hl]
    · by_cases hd : b ∈ e.W.map (·.1)
      · have := hw 0 e rfl hd
        rw [Nat.add_zero] at this
        rw [this]
        split
        · exact wr_get _ _ _ hl h
        · exact h
      · split <;> split <;> simp only [wr_skip _ _ hd, h]
theorem memF_last {X : Nat → Bool} {b : Nat} : ∀ (es : List TF) (k i : Nat) (e : TF) (m m' : Mem), m.length = m'.length → es[i]? = some e → b ∈ e.W.map (·.1) → X (k + i) = true →
    (∀ (j : Nat) e', es[j]? = some e' → i < j → b ∈ e'.W.map (·.1) → X (k + j) = false) → (memF X k es m)[b]? = (wr m' e.W)[b]?
  | [], _, i, e, _, _, _, h, _, _, _ => by simp at h
  | e0 :: es, k, 0, e, m, m', hl, h, hd, hX, hw => by
    simp at h; subst h
    simp only [memF]
    rw [Nat.add_zero] at hX
    rw [hX, if_pos rfl]
    have : ∀ (es : List TF) (k : Nat) (m : Mem), (∀ (j : Nat) e', es[j]? = some e' → b ∈ e'.W.map (·.1) → X (k + j) = false) → (memF X k es m)[b]? = m[b]? := by
      intro es
      induction es with
      | nil => intro k m _; rfl
      | cons e1 es ih =>
        intro k m hw
        simp only [memF]
        rw [ih (k + 1) _ (fun j e' he hd => by have := hw (j + 1) e' (by simpa using he) hd; rwa [show k + (j + 1) = k + 1 + j by omega] at this)]
        by_cases hd1 : b ∈ e1.W.map (·.1)
        · have := hw 0 e1 rfl hd1; rw [Nat.add_zero] at this; rw [this]; rfl
        · split
          · exact wr_skip _ _ hd1
          · rfl
    rw [this es (k + 1) _ (fun j e' he hd' => by have := hw (j + 1) e' (by simpa using he) (by omega) hd'; rwa [show k + (j + 1) = k + 1 + j by omega] at this)]
    exact wr_hit _ _ _ hl hd
  | e0 :: es, k, i + 1, e, m, m', hl, h, hd, hX, hw => by
    simp only [memF]
    refine memF_last es (k + 1) i e _ m' ?_ (by simpa using h) hd (by rwa [show k + (i + 1) = k + 1 + i by omega] at hX)
      (fun j e' he hij hd' => by have := hw (j + 1) e' (by simpa using he) (by omega) hd'; rwa [show k + (j + 1) = k + 1 + j by omega] at this)
    split
    · rw [wr_length]; exact hl
    · exact hl
theorem TraceF.at : ∀ (es : List TF) (k i : Nat) (e : TF) (L : Env) (m : Mem), TraceF P es L m → es[i]? = some e →
    TOKF P e (envF (fun j => decide (j < k + i)) k es L) (memF (fun j => decide (j < k + i)) k es m)
  | [], _, i, e, _, _, _, h => by simp at h
  | e0 :: es, k, 0, e, L, m, ht, h => by
    simp at h; subst h
    have e1 : ∀ (es : List TF) (k' : Nat) (L : Env), k ≤ k' → envF (fun j => decide (j < k + 0)) k' es L = L := by
      intro es
      induction es with
      | nil => intro _ _ _; rfl
      | cons e es ih => intro k' L hk; simp only [envF, Nat.add_zero, decide_eq_false (show ¬ k' < k by omega), Bool.false_eq_true, if_false]; exact ih (k' + 1) L (by omega)
    have e2 : ∀ (es : List TF) (k' : Nat) (m : Mem), k ≤ k' → memF (fun j => decide (j < k + 0)) k' es m = m := by
      intro es
      induction es with
      | nil => intro _ _ _; rfl
      | cons e es ih => intro k' m hk; simp only [memF, Nat.add_zero, decide_eq_false (show ¬ k' < k by omega), Bool.false_eq_true, if_false]; exact ih (k' + 1) m (by omega)
    rw [e1 _ _ _ (Nat.le_refl _), e2 _ _ _ (Nat.le_refl _)]
    exact ht.1
  | e0 :: es, k, i + 1, e, L, m, ht, h => by
    have := TraceF.at es (k + 1) i e _ _ ht.2 (by simpa using h)
    simp only [envF, memF]
    rw [show k + (i + 1) = k + 1 + i by omega]
    simp only [decide_eq_true (show k < k + 1 + i by omega), if_true]
    exact this

/-- A new block, where room was kept. -/
theorem stepF_sound {o : Oper} {a : Act} {S : Setup} {L : Env} {op : ROp} {x : AV} {m' : Mem} {K : Act → World → Prop} {Q : Exit → Act → World → Prop} (hr : rop P o.op = some op) (hS : S.WF) (hg : ∀ z ∈ op.operands, Good S L a z)
    (h : StepR P L S.m op x m') (hK : SOut S x m' K o a) : o.wp P a S.w K Q := by
  unfold StepR at h
  split at h
  · rename_i cs
    obtain ⟨k, c, h1, rfl, rfl⟩ := h
    obtain ⟨t, ho, i, hi, z, hz, rfl⟩ : ∃ t, o.op = .alloc t ∧ ∃ i, P.info? t = some i ∧ ∃ z, i.zero = some z ∧ cs = z.cells.toList.map fun c => .p (pconst c) := by
      unfold rop at hr
      split at hr
      all_goals first
        | (simp at hr; done)
        | (simp only [Option.map_eq_some_iff] at hr; obtain ⟨_, _, hr⟩ := hr; cases hr; done)
        | (simp only [Option.some.injEq] at hr; cases hr; done)
        | skip
      all_goals (repeat' split at hr)
      all_goals first
        | (simp at hr; done)
        | (simp only [Option.map_eq_some_iff] at hr; obtain ⟨_, _, hr⟩ := hr; cases hr; done)
        | (rename_i z hz _
           simp only [Option.bind_eq_some_iff] at hz
           obtain ⟨i, hi, hz⟩ := hz
           simp only [Option.some.injEq, ROp.new.injEq] at hr
           subst hr
           exact ⟨_, by assumption, i, hi, z, hz, rfl⟩)
        | (simp only [Option.some.injEq] at hr; cases hr; done)
    have hrun : (execOp a.eval o).run P S.w = .ok (.value (.pointer (some ⟨S.w.heap.size, 0, none⟩))) (S.w.alloc (.cells (z.cells.toList ++ []).toArray t)) := by
      simp [execOp, ho, Instr.alloc, zeroValue, typeInfo, hi, hz, newVar, newRow]
    have hc : (Blk.dead c).cur < (⟨z.cells.toList.map fun c => .p (pconst c), c + 1, true⟩ : Blk).cur := Nat.lt_succ_self c
    have hwf := Setup.WF.move hS (blk' := ⟨z.cells.toList.map fun c => .p (pconst c), c + 1, true⟩) (ty := t) (n := (z.cells.toList ++ []).length) h1 hc (pconst_VRs S z.cells.toList) rfl
    have hlt : k < S.m.length := (List.getElem?_eq_some_iff.1 h1).1
    have := hK (S.move k ⟨z.cells.toList.map fun c => .p (pconst c), c + 1, true⟩ (.cells (z.cells.toList ++ []).toArray t) (z.cells.toList ++ []).length) (.pointer (some ⟨S.w.heap.size, 0, none⟩)) (Ext.move hS h1 hc _ _) hwf rfl (by
      refine ⟨⟨_, rfl, rfl⟩, ⟨z.cells.toList.map fun c => .p (pconst c), c + 1, true⟩, ?_, Nat.le_refl _, fun _ _ => ?_⟩
      · simp [Setup.move, hlt]
      · simp [Setup.move])
    unfold Oper.wp
    rw [hrun, Oper.upon_value]
    exact this
  · exact stepK_sound hr hS hg h fun x' m'' ⟨hx, hm⟩ => by subst hx; subst hm; exact hK

structure DrawnF (P : Program) (ops : Array Oper) (N : Nat) (es : List TF) : Prop where
  len : ops.size = es.length
  same : ∀ (i : Nat) o e, ops[i]? = some o → es[i]? = some e → Same P ops N o e.r
  back : backFrom 0 (aftersOf ops) = true
  ok : okFrom es 0 es (masks (aftersOf ops)) = true

variable {ops : Array Oper}

theorem DrawnF.conf {es : List TF} (hd : DrawnF P ops N es) {i j : Nat} {q r : TF} (hi : es[i]? = some r) (hj : es[j]? = some q) (hlt : j < i) (hc : conflictF q r = true) : ((masks (aftersOf ops)).getD i 0).testBit j = true :=
  okFrom_at es 0 _ hd.ok i r hi j q (by omega) hj hc
theorem order_ofF {es : List TF} {X : Nat → Bool} (hd : DrawnF P ops N es) (hX : Closed (aftersOf ops) X) {i j : Nat} {ri rj : TF} (hi : es[i]? = some ri) (hj : es[j]? = some rj)
    (hXi : X i = false) (hanc : ∀ k, ((masks (aftersOf ops)).getD i 0).testBit k = true → X k = true) (hne : j ≠ i) (hc : (j < i → conflictF rj ri = true) ∧ (i < j → conflictF ri rj = true)) : X j = decide (j < i) := by
  by_cases hlt : j < i
  · rw [decide_eq_true hlt]
    exact hanc j (hd.conf hi hj hlt (hc.1 hlt))
  · have hgt : i < j := by omega
    rw [decide_eq_false hlt]
    cases hx : X j with
    | false => rfl
    | true =>
      have hb := hd.conf hj hi hgt (hc.2 hgt)
      obtain ⟨o, ho⟩ : ∃ o, ops[j]? = some o := ⟨_, Array.getElem?_eq_getElem (by rw [hd.len]; exact (List.getElem?_eq_some_iff.1 hj).1)⟩
      have := Closed.anc hX hd.back j _ (afters_get ho) (fun k hk => hX j _ (afters_get ho) hx k hk) i hb
      rw [hXi] at this; exact absurd this (by simp)
theorem conflictF_dst {q r : TF} {d : Nat} (hq : q.r.dst = some d) (hr : d ∈ r.r.reads ∨ r.r.dst = some d) : conflictF q r = true := by
  unfold conflictF
  rw [hq]
  rcases hr with hr | hr
  · simp [hr]
  · simp [hr]
theorem conflictF_read {q r : TF} {d : Nat} (hr : r.r.dst = some d) (hq : d ∈ q.r.reads) : conflictF q r = true := by
  unfold conflictF
  rw [hr]
  simp [hq]
theorem conflictF_wf {q r : TF} {b : Nat} (hq : b ∈ q.W.map (·.1)) (hr : b ∈ r.F) : conflictF q r = true := by
  obtain ⟨p, hp, rfl⟩ := List.mem_map.1 hq
  have : (q.W.any fun p => r.F.contains p.1) = true := List.any_eq_true.2 ⟨p, hp, by simpa using hr⟩
  unfold conflictF
  rw [this]; simp
theorem conflictF_fw {q r : TF} {b : Nat} (hr : b ∈ r.W.map (·.1)) (hq : b ∈ q.F) : conflictF q r = true := by
  obtain ⟨p, hp, rfl⟩ := List.mem_map.1 hr
  have : (r.W.any fun p => q.F.contains p.1) = true := List.any_eq_true.2 ⟨p, hp, by simpa using hq⟩
  unfold conflictF
  rw [this]; simp

theorem draw_stepF {es : List TF} {L : Env} {m : Mem} (hd : DrawnF P ops N es) (ht : TraceF P es L m) {X : Nat → Bool} (hX : Closed (aftersOf ops) X)
    {i : Nat} {o : Oper} (ho : ops[i]? = some o) (hXi : X i = false) (hready : ∀ k ∈ (o.after.toList.filter (Region.binds .any)).map (·.on), X k = true)
    {S : Setup} {a : Act} (hS : S.WF) (hL : ER S N (envF X 0 es L) a) (hm : S.m = memF X 0 es m) {Q : Exit → Act → World → Prop} {K : Act → World → Prop}
    (hK : ∀ S' a', Ext S S' → S'.WF → ER S' N (envF (fun j => X j || decide (j = i)) 0 es L) a' → S'.m = memF (fun j => X j || decide (j = i)) 0 es m → K a' S'.w) : wpOp P ops Q i K a S.w := by
  have hil : i < es.length := by rw [← hd.len]; exact (Array.getElem?_eq_some_iff.1 ho).1
  obtain ⟨e, he⟩ : ∃ e, es[i]? = some e := ⟨_, List.getElem?_eq_getElem hil⟩
  have hsame := hd.same i o e ho he
  have hanc := Closed.anc hX hd.back i _ (afters_get ho) hready
  have htok := TraceF.at es 0 i e L m ht he
  simp only [Nat.zero_add] at htok
  have hte : ∀ {j : Nat} {q : TE}, (es.map TF.te)[j]? = some q → ∃ e', es[j]? = some e' ∧ q = e'.te := by
    intro j q h
    rw [List.getElem?_map] at h
    obtain ⟨e', h1, h2⟩ := Option.map_eq_some_iff.1 h
    exact ⟨e', h1, h2.symm⟩
  have hte' : (es.map TF.te)[i]? = some e.te := by rw [List.getElem?_map, he]; rfl
  -- what it reads
  have hreads : ∀ t ∈ e.r.reads, (envF X 0 es L).get t = (envF (fun j => decide (j < i)) 0 es L).get t := by
    intro t ht'
    rw [envF_te, envF_te]
    refine envAt_agree _ 0 L L rfl (fun j q hj hdst => ?_)
    obtain ⟨e', hje, rfl⟩ := hte hj; replace hj := hje
    simp only [Nat.zero_add]
    by_cases hji : j = i
    · subst hji; rw [hXi]; simp
    · refine order_ofF hd hX he hj hXi hanc hji ⟨fun _ => ?_, fun _ => ?_⟩
      · exact conflictF_dst hdst (.inl ht')
      · exact conflictF_read hdst ht'
  have hsz : ∀ Y : Nat → Bool, (memF Y 0 es m).length = m.length := fun Y => memF_length es 0 m
  have hWF : ∀ {j : Nat} {e' : TF}, es[j]? = some e' → ∀ b ∈ e'.W.map (·.1), b ∈ e'.F := by
    intro j e' hj b hb
    rcases TraceF.at es 0 j e' L m ht hj with ⟨_, _, h3⟩ | ⟨_, h3, _⟩
    · rw [h3] at hb; simp at hb
    · exact h3 b hb
  have hmem : ∀ b ∈ e.F, (memF X 0 es m)[b]? = (memF (fun j => decide (j < i)) 0 es m)[b]? := by
    intro b hb
    refine memF_agree es 0 m m rfl rfl (fun j e' hj hbw => ?_)
    simp only [Nat.zero_add]
    by_cases hji : j = i
    · subst hji; rw [hXi]; simp
    · exact order_ofF hd hX he hj hXi hanc hji ⟨fun _ => conflictF_wf hbw hb, fun _ => conflictF_fw hbw hb⟩
  -- what is known behind it
  have hafter : ∀ (S' : Setup) (y : Value), Ext S S' → VR S' e.x y → ER S' N (envF (fun j => X j || decide (j = i)) 0 es L) (a.put o.dst y) := by
    intro S' y hE hv
    have hL' := hL.mono hE
    refine ⟨put_tmps.trans hL'.size, put_defers.trans hL'.defers, fun t z hz => ?_⟩
    rw [envF_te] at hz
    by_cases hdt : e.r.dst = some t
    · have hlast := envAt_last (X := fun j => X j || decide (j = i)) (es.map TF.te) 0 i e.te L hte' hdt (by simp) (fun j q hj hij hdj => by
        obtain ⟨e', hje, rfl⟩ := hte hj; replace hj := hje
        simp only [Nat.zero_add]
        have hji : j ≠ i := by omega
        have := order_ofF hd hX he hj hXi hanc hji ⟨fun h => by omega, fun _ => conflictF_dst hdt (.inr hdj)⟩
        rw [this]; simp; omega)
      rw [hlast] at hz
      obtain rfl := Option.some.inj hz
      rw [hsame.dst, hdt, put_get (by rw [hL'.size]; exact hsame.lt t hdt), if_pos rfl]
      exact hv
    · have hsameget : (envAt (fun j => X j || decide (j = i)) 0 (es.map TF.te) L).get t = (envAt X 0 (es.map TF.te) L).get t := by
        refine envAt_agree _ 0 L L rfl (fun j q hj hdj => ?_)
        obtain ⟨e', hje, rfl⟩ := hte hj; replace hj := hje
        simp only [Nat.zero_add]
        have hji : j ≠ i := by rintro rfl; rw [he] at hj; obtain rfl := Option.some.inj hj; exact hdt hdj
        simp [hji]
      rw [hsameget, ← envF_te] at hz
      have := hL'.get t z hz
      rw [hsame.dst]
      cases hdd : e.r.dst with
      | none => exact this
      | some k =>
        rw [put_get (by rw [hL'.size]; exact hsame.lt k hdd), if_neg (by rintro rfl; exact hdt hdd)]
        exact this
  have hmemafter : wr (memF X 0 es m) e.W = memF (fun j => X j || decide (j = i)) 0 es m := by
    refine List.ext_getElem? fun b => ?_
    by_cases hb : b ∈ e.W.map (·.1)
    · symm
      refine memF_last es 0 i e m _ (hsz _).symm he hb (by simp) (fun j e' hj hij hbj => ?_)
      simp only [Nat.zero_add]
      have hji : j ≠ i := by omega
      have := order_ofF hd hX he hj hXi hanc hji ⟨fun h => by omega, fun _ => conflictF_wf hb (hWF hj b hbj)⟩
      rw [this]; simp; omega
    · rw [wr_skip _ _ hb]
      refine memF_agree es 0 m m rfl rfl (fun j e' hj hbj => ?_)
      simp only [Nat.zero_add]
      have hji : j ≠ i := by rintro rfl; rw [he] at hj; obtain rfl := Option.some.inj hj; exact hb hbj
      simp [hji]
  -- the guard
  have hguard := guard_agree (r := e.r) hreads
  have hwant : ∀ b, guardOn (envF (fun j => decide (j < i)) 0 es L) e.r.guard = some b → Region.wanted o (yielded ops a.tmps) = b := by
    intro b hb
    rw [← hguard] at hb
    cases hg : e.r.guard with
    | none =>
      rw [hg] at hb
      simp only [guardOn, Option.some.injEq] at hb
      rw [← hb]
      exact wanted_none (by rw [hsame.guard, hg])
    | some p =>
      obtain ⟨t, want⟩ := p
      rw [hg] at hb
      simp only [guardOn] at hb
      split at hb
      · rename_i c hc
        simp only [Option.some.injEq] at hb
        have hv := VR.v (hL.get t _ hc)
        rw [wanted_some (by rw [hsame.guard, hg]) hv, ← hb]
        cases c <;> cases want <;> rfl
      · rename_i vs hc
        simp only [Option.some.injEq] at hb
        have hv := VR.v (hL.get t _ hc)
        rw [wanted_off (by rw [hsame.guard, hg]) hv, ← hb]
      · simp at hb
  unfold wpOp
  rw [ho]
  simp only
  rcases htok with ⟨g1, g2, g3⟩ | ⟨g1, g3, g4⟩
  · rw [hwant false g1]
    simp only [Bool.false_eq_true, if_false]
    refine hK S _ (Ext.refl S) hS (hafter S undef (Ext.refl S) (by rw [g2]; rfl)) ?_
    rw [hm, ← hmemafter, g3]; rfl
  · rw [hwant true g1]
    simp only [if_true]
    refine .inl ?_
    have hgood : ∀ z ∈ e.r.op.operands, Good S (envF (fun j => decide (j < i)) 0 es L) a z := by
      intro z hz v hv
      rw [← opd_agree hreads z hz] at hv
      exact hL.good z v hv
    have hst := g4 S.m (by rw [hm, hsz, hsz]) (fun b hb => by rw [hm]; exact hmem b hb)
    refine stepF_sound hsame.op hS hgood hst ?_
    intro S' y h1 h2 h3 h4
    refine hK S' _ h1 h2 (hafter S' y h1 h4) ?_
    rw [h3, hm, hmemafter]

theorem wp_anyF {es : List TF} {L : Env} {m : Mem} {K : Env → Mem → Prop} {Q : Exit → Act → World → Prop} (hd : DrawnF P ops N es) (ht : TraceF P es L m)
    (hfin : K (envF (fun _ => true) 0 es L) (memF (fun _ => true) 0 es m)) {S0 : Setup} (hQ : RegPost S0 N K Q) :
    ∀ (fuel : Nat) (listed : Array Bool) (S : Setup) (a : Act), listed.size = ops.size → listed.toList.countP (fun b => !b) ≤ fuel → Closed (aftersOf ops) (XOf listed) → Ext S0 S → S.WF →
      ER S N (envF (XOf listed) 0 es L) a → S.m = memF (XOf listed) 0 es m → wpAny P .any ops Q fuel listed a S.w := by
  have hlen : es.length = ops.size := hd.len.symm
  -- nothing is ready: all has come up
  have hdone : ∀ (listed : Array Bool) (S : Setup) (a : Act), listed.size = ops.size → Closed (aftersOf ops) (XOf listed) → Ext S0 S → S.WF → ER S N (envF (XOf listed) 0 es L) a → S.m = memF (XOf listed) 0 es m →
      Region.ready .any ops listed = [] → Q .normal a S.w := by
    intro listed S a hsz hX hE hS hL hm hr
    have hall : ∀ i, i < ops.size → XOf listed i = true := by
      intro i
      induction i using Nat.strongRecOn with
      | _ i ih =>
        intro hi
        cases hx : XOf listed i with
        | true => rfl
        | false =>
          exfalso
          have hmem : i ∈ Region.ready .any ops listed := by
            refine mem_ready.2 ⟨hi, ?_, ops[i], Array.getElem?_eq_getElem hi, fun k hk => ?_⟩
            · unfold XOf at hx
              simp only [Array.getD_eq_getD_getElem?, Array.getElem?_eq_getElem (show i < listed.size by omega), Option.getD_some] at hx ⊢
              exact hx
            · have hlt := backFrom_at (aftersOf ops) 0 hd.back i _ (afters_get (Array.getElem?_eq_getElem hi)) k hk
              exact ih k (by omega) (by omega)
          rw [hr] at hmem; simp at hmem
    have e1 : ∀ t, (envF (XOf listed) 0 es L).get t = (envF (fun _ => true) 0 es L).get t := fun t => by
      rw [envF_te, envF_te]
      exact envAt_agree _ 0 L L rfl (fun j e hj _ => by rw [Nat.zero_add]; exact hall j (by rw [← hlen]; have := (List.getElem?_eq_some_iff.1 hj).1; simpa using this))
    have e2 : memF (XOf listed) 0 es m = memF (fun _ => true) 0 es m :=
      List.ext_getElem? fun b => memF_agree es 0 m m rfl rfl (fun j e hj _ => by rw [Nat.zero_add]; exact hall j (by rw [← hlen]; exact (List.getElem?_eq_some_iff.1 hj).1))
    refine hQ S _ a hE hS ⟨hL.size, hL.defers, fun t x hx => hL.get t x (by rw [e1]; exact hx)⟩ ?_
    rw [hm, e2]; exact hfin
  intro fuel
  induction fuel with
  | zero =>
    intro listed S a hsz hcount hX hE hS hL hm
    have hr : Region.ready .any ops listed = [] := by
      cases hq : Region.ready .any ops listed with
      | nil => rfl
      | cons i rest =>
        exfalso
        have hi : i ∈ Region.ready .any ops listed := by rw [hq]; simp
        obtain ⟨h1, h2, _⟩ := mem_ready.1 hi
        have : 0 < listed.toList.countP (fun b => !b) := by
          rw [List.countP_pos_iff]
          refine ⟨listed[i]'(by omega), Array.getElem_mem_toList (by omega), ?_⟩
          simp only [Array.getD_eq_getD_getElem?, Array.getElem?_eq_getElem (show i < listed.size by omega), Option.getD_some] at h2
          simp [h2]
        omega
    exact ⟨hr, hdone listed S a hsz hX hE hS hL hm hr⟩
  | succ fuel ih =>
    intro listed S a hsz hcount hX hE hS hL hm
    refine ⟨hdone listed S a hsz hX hE hS hL hm, fun i hi => ?_⟩
    obtain ⟨h1, h2, o, ho, h3⟩ := mem_ready.1 hi
    have hil : i < listed.size := by omega
    have hli : listed[i] = false := by
      simp only [Array.getD_eq_getD_getElem?, Array.getElem?_eq_getElem hil, Option.getD_some] at h2; exact h2
    have hXi : XOf listed i = false := by simp [XOf, Array.getD_eq_getD_getElem?, hil, hli]
    refine draw_stepF hd ht hX ho hXi h3 hS hL hm (fun S' a' hE' hS' hL' hm' => ?_)
    refine ih (listed.setIfInBounds i true) S' a' (by simp [hsz]) ?_ ?_ (hE.trans hE') hS' (by rw [XOf_set hil]; exact hL') (by rw [XOf_set hil]; exact hm')
    · have hset : (listed.setIfInBounds i true).toList = listed.toList.set i true := by simp
      rw [hset, List.countP_set (by simpa using hil)]
      simp only [Array.getElem_toList, hli, Bool.not_false, if_true, Bool.not_true, Bool.false_eq_true, if_false]
      omega
    · rw [XOf_set hil]
      intro k as hk hXk j hj
      simp only [Bool.or_eq_true, decide_eq_true_eq] at hXk ⊢
      rcases hXk with hXk | rfl
      · exact .inl (hX k as hk hXk j hj)
      · rw [afters_get ho] at hk
        obtain rfl := Option.some.inj hk
        exact .inl (h3 j hj)

/-- A region whose order is drawn. -/
theorem wp_drawnF {es : List TF} {id : Nat} {L : Env} {S : Setup} {a : Act} {K : Env → Mem → Prop} {Q : Exit → Act → World → Prop} (hm : P.follows .mixedOrders = true) (hd : DrawnF P ops N es) (hS : S.WF) (hL : ER S N L a)
    (ht : TraceF P es L S.m) (h : K (envF (fun _ => true) 0 es L) (memF (fun _ => true) 0 es S.m)) (hQ : RegPost S N K Q) : (Code.region id ops true).wp P Q a S.w := by
  refine wp_region_any hm ?_
  have hX0 : XOf (Array.replicate ops.size false) = fun _ => false := by
    funext j
    simp only [XOf, Array.getD_eq_getD_getElem?, Array.getElem?_replicate]
    split <;> rfl
  have he0 : ∀ (es : List TF) (k : Nat) (L : Env), envF (fun _ => false) k es L = L := by
    intro es
    induction es with
    | nil => intro _ _; rfl
    | cons e es ih => intro k L; simp only [envF, Bool.false_eq_true, if_false]; exact ih _ _
  have hm0 : ∀ (es : List TF) (k : Nat) (m : Mem), memF (fun _ => false) k es m = m := by
    intro es
    induction es with
    | nil => intro _ _; rfl
    | cons e es ih => intro k m; simp only [memF, Bool.false_eq_true, if_false]; exact ih _ _
  refine wp_anyF hd ht h hQ ops.size (Array.replicate ops.size false) S.drew a (by simp) ?_ ?_ (Ext.drew S) hS.drew ?_ ?_
  · simp only [Array.toList_replicate]
    exact Nat.le_trans List.countP_le_length (by simp)
  · intro i as _ hx; rw [hX0] at hx; simp at hx
  · rw [hX0, he0]; exact hL.mono (Ext.drew S)
  · rw [hX0, hm0]; rfl
end
end Go.Proofs.YtlkphnhlibpngaaGreat.Abs
