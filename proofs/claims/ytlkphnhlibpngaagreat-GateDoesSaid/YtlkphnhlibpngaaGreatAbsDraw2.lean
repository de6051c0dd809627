/- Abs, part 13: a region whose order is drawn is as good as its text. -/
import Derived.Test.YtlkphnhlibpngaaGreatAbsDraw
set_option linter.unusedVariables false
set_option linter.unusedSimpArgs false
namespace Go.Proofs.YtlkphnhlibpngaaGreat.Abs
open Go

section
variable {P : Program} {N : Nat}

theorem mem_opTmps {t : Nat} : ∀ {xs : List Operand}, Operand.tmp t ∈ xs → t ∈ opTmps xs
  | [], h => by simp at h
  | x :: xs, h => by
    rcases List.mem_cons.1 h with h | h
    · subst h; simp [opTmps]
    · have ih := mem_opTmps h
      cases x <;> simp only [opTmps] <;> first | exact List.mem_cons_of_mem _ ih | exact ih

theorem opd_agree {L L' : Env} {r : RO} (h : ∀ t ∈ r.reads, L.get t = L'.get t) (z : Operand) (hz : z ∈ r.op.operands) : opd L z = opd L' z := by
  cases z with
  | tmp t => exact h t (by unfold RO.reads; exact List.mem_append_right _ (mem_opTmps hz))
  | const c => rfl
  | global g => rfl
  | func f => rfl

theorem guard_agree {L L' : Env} {r : RO} (h : ∀ t ∈ r.reads, L.get t = L'.get t) : guardOn L r.guard = guardOn L' r.guard := by
  cases hg : r.guard with
  | none => rfl
  | some p =>
    obtain ⟨t, want⟩ := p
    have := h t (by simp [RO.reads, hg])
    simp [guardOn, this]

theorem stepK_insens {L : Env} {m m2 : Mem} {op : ROp} {x : AV} {m' : Mem} (hs : op.sens = false) (h : stepK P L m op (fun x' m'' => x' = x ∧ m'' = m')) : stepK P L m2 op (fun x' m'' => x' = x ∧ m'' = m2) := by
  unfold stepK at h ⊢
  split
  · simp [ROp.sens] at hs
  · simp [ROp.sens] at hs
  · rename_i h1 h2
    split at h
    · exact absurd rfl (h1 _ _)
    · exact absurd rfl (h2 _ _)
    · split at h
      case h_2 => exact h.elim
      rename_i y m3 ha
      obtain ⟨rfl, _⟩ := h
      rw [aop_insens ha hs m2]
      exact ⟨rfl, rfl⟩

/-- All that is asked of a drawn region, looked up once. -/
structure Drawn (P : Program) (ops : Array Oper) (N : Nat) (rs : List RO) : Prop where
  len : ops.size = rs.length
  same : ∀ (i : Nat) o r, ops[i]? = some o → rs[i]? = some r → Same P ops N o r
  ok : drawOk ops rs = true

def XOf (listed : Array Bool) : Nat → Bool := fun i => listed.getD i false

variable {ops : Array Oper} {rs : List RO}

theorem Drawn.conf (hd : Drawn P ops N rs) {i j : Nat} {q r : RO} (hi : rs[i]? = some r) (hj : rs[j]? = some q) (hlt : j < i) (hc : conflict q r = true) : ((masks (aftersOf ops)).getD i 0).testBit j = true := by
  have := hd.ok
  simp only [drawOk, Bool.and_eq_true] at this
  exact drawOkFrom_at rs 0 _ this.2 i r hi j q (by omega) hj hc
theorem Drawn.back (hd : Drawn P ops N rs) : backFrom 0 (aftersOf ops) = true := by
  have := hd.ok
  simp only [drawOk, Bool.and_eq_true] at this
  exact this.1

theorem afters_get {i : Nat} {o : Oper} (h : ops[i]? = some o) : (aftersOf ops)[i]? = some ((o.after.toList.filter (Region.binds .any)).map (·.on)) := by
  simp [aftersOf, h]

/-- The order of two that are in each other's way. -/
theorem order_of {X : Nat → Bool} (hd : Drawn P ops N rs) (hX : Closed (aftersOf ops) X) {i j : Nat} {ri rj : RO} (hi : rs[i]? = some ri) (hj : rs[j]? = some rj)
    (hXi : X i = false) (hanc : ∀ k, ((masks (aftersOf ops)).getD i 0).testBit k = true → X k = true) (hne : j ≠ i) (hc : (j < i → conflict rj ri = true) ∧ (i < j → conflict ri rj = true)) : X j = decide (j < i) := by
  by_cases hlt : j < i
  · rw [decide_eq_true hlt]
    exact hanc j (hd.conf hi hj hlt (hc.1 hlt))
  · have hgt : i < j := by omega
    rw [decide_eq_false hlt]
    cases hx : X j with
    | false => rfl
    | true =>
      have hb := hd.conf hj hi hgt (hc.2 hgt)
      obtain ⟨o, ho⟩ : ∃ o, ops[j]? = some o := ⟨_, Array.getElem?_eq_getElem (by rw [hd.len]; exact (List.getElem?_eq_some_iff.1 hj).1)⟩
      have := Closed.anc hX hd.back j _ (afters_get ho) (fun k hk => hX j _ (afters_get ho) hx k hk) i hb
      rw [hXi] at this; exact absurd this (by simp)

theorem conflict_dst {q r : RO} {d : Nat} (hq : q.dst = some d) (hr : d ∈ r.reads ∨ r.dst = some d) : conflict q r = true := by
  unfold conflict
  rw [hq]
  rcases hr with hr | hr
  · simp [hr]
  · simp [hr]
theorem conflict_read {q r : RO} {d : Nat} (hr : r.dst = some d) (hq : d ∈ q.reads) : conflict q r = true := by
  unfold conflict
  rw [hr]
  simp [hq]
theorem conflict_mem {q r : RO} (hq : q.sens = true) (hr : r.sens = true) (he : q.effE = true ∨ r.effE = true) : conflict q r = true := by
  unfold conflict
  rcases he with he | he <;> simp [hq, hr, he]
theorem effE_sens {r : RO} (h : r.effE = true) : r.sens = true := by
  unfold RO.effE at h
  unfold RO.sens
  cases hop : r.op <;> simp_all [ROp.eff, isCall, ROp.sens]

/-- The step. -/
theorem draw_step {C : List Nat} {es : List TE} {L : Env} {m : Mem} (hd : Drawn P ops N rs) (hes : es.map (·.r) = rs) (ht : TraceOk P C es L m) {X : Nat → Bool} (hX : Closed (aftersOf ops) X)
    {i : Nat} {o : Oper} (ho : ops[i]? = some o) (hXi : X i = false) (hready : ∀ k ∈ (o.after.toList.filter (Region.binds .any)).map (·.on), X k = true)
    {S : Setup} {a : Act} (hS : S.WF) (hL : ER S N (envAt X 0 es L) a) (hm : S.m = memAt X 0 es m) {Q : Exit → Act → World → Prop} {K : Act → World → Prop}
    (hK : ∀ S' a', Ext S S' → S'.WF → ER S' N (envAt (fun j => X j || decide (j = i)) 0 es L) a' → S'.m = memAt (fun j => X j || decide (j = i)) 0 es m → K a' S'.w) : wpOp P ops Q i K a S.w := by
  have hil : i < rs.length := by rw [← hd.len]; exact (Array.getElem?_eq_some_iff.1 ho).1
  obtain ⟨r, hr⟩ : ∃ r, rs[i]? = some r := ⟨_, List.getElem?_eq_getElem hil⟩
  have hsame := hd.same i o r ho hr
  obtain ⟨e, he, hre⟩ : ∃ e, es[i]? = some e ∧ e.r = r := by
    rw [← hes, List.getElem?_map] at hr
    simpa [Option.map_eq_some_iff] using hr
  have hrj : ∀ (j : Nat) e', es[j]? = some e' → rs[j]? = some e'.r := by
    intro j e' h; rw [← hes, List.getElem?_map, h]; rfl
  have hanc := Closed.anc hX hd.back i _ (afters_get ho) hready
  have htok := TraceOk.at (X := X) es 0 i e L m ht he
  simp only [Nat.zero_add] at htok
  -- what it reads
  have hreads : ∀ t ∈ e.r.reads, (envAt X 0 es L).get t = (envAt (fun j => decide (j < i)) 0 es L).get t := by
    intro t ht'
    refine envAt_agree es 0 L L rfl (fun j e' hj hdst => ?_)
    simp only [Nat.zero_add]
    by_cases hji : j = i
    · subst hji; rw [hXi]; simp
    · refine order_of hd hX hr (hrj j e' hj) hXi hanc hji ⟨fun _ => ?_, fun _ => ?_⟩
      · exact conflict_dst hdst (.inl (by rw [← hre]; exact ht'))
      · exact conflict_read hdst (by rw [← hre]; exact ht')
  have hmem : e.r.sens = true → memAt X 0 es m = memAt (fun j => decide (j < i)) 0 es m := by
    intro hsens
    refine memAt_agree es 0 m (fun j e' hj heff => ?_)
    simp only [Nat.zero_add]
    by_cases hji : j = i
    · subst hji; rw [hXi]; simp
    · have htj := TraceOk.at (X := X) es 0 j e' L m ht hj
      have heE : e'.r.effE = true := by
        rcases htj with ⟨_, _, h3⟩ | ⟨_, h3, _⟩
        · rw [heff] at h3; simp at h3
        · rw [← h3]; exact heff
      refine order_of hd hX hr (hrj j e' hj) hXi hanc hji ⟨fun _ => ?_, fun _ => ?_⟩
      · exact conflict_mem (effE_sens heE) (by rw [← hre]; exact hsens) (.inl heE)
      · exact conflict_mem (by rw [← hre]; exact hsens) (effE_sens heE) (.inr heE)
  -- what is known behind it
  have hafter : ∀ (S' : Setup) (y : Value), Ext S S' → VR S' e.x y → ER S' N (envAt (fun j => X j || decide (j = i)) 0 es L) (a.put o.dst y) := by
    intro S' y hE hv
    have hL' := hL.mono hE
    refine ⟨put_tmps.trans hL'.size, put_defers.trans hL'.defers, fun t z hz => ?_⟩
    by_cases hdt : e.r.dst = some t
    · have hlast := envAt_last (X := fun j => X j || decide (j = i)) es 0 i e L he hdt (by simp) (fun j e' hj hij hdj => by
        simp only [Nat.zero_add]
        have hji : j ≠ i := by omega
        have := order_of hd hX hr (hrj j e' hj) hXi hanc hji ⟨fun h => by omega, fun _ => conflict_dst (by rw [← hre]; exact hdt) (.inr hdj)⟩
        rw [this]; simp; omega)
      rw [hlast] at hz
      obtain rfl := Option.some.inj hz
      rw [hsame.dst, ← hre, hdt, put_get (by rw [hL'.size]; exact hsame.lt t (by rw [← hre]; exact hdt)), if_pos rfl]
      exact hv
    · have hsameget : (envAt (fun j => X j || decide (j = i)) 0 es L).get t = (envAt X 0 es L).get t := by
        refine envAt_agree es 0 L L rfl (fun j e' hj hdj => ?_)
        simp only [Nat.zero_add]
        have hji : j ≠ i := by rintro rfl; rw [he] at hj; obtain rfl := Option.some.inj hj; exact hdt hdj
        simp [hji]
      rw [hsameget] at hz
      have := hL'.get t z hz
      rw [hsame.dst, ← hre]
      cases hdd : e.r.dst with
      | none => exact this
      | some k =>
        rw [put_get (by rw [hL'.size]; exact hsame.lt k (by rw [← hre]; exact hdd)), if_neg (by rintro rfl; exact hdt hdd)]
        exact this
  have hmemafter : ∀ m', (e.eff = true → m' = e.m) → (e.eff = false → m' = memAt X 0 es m) → m' = memAt (fun j => X j || decide (j = i)) 0 es m := by
    intro m' h1 h2
    cases heff : e.eff with
    | true =>
      rw [h1 heff]
      symm
      refine memAt_last es 0 i e m he heff (by simp) (fun j e' hj hij heffj => ?_)
      simp only [Nat.zero_add]
      have hji : j ≠ i := by omega
      have hE : ∀ {k : Nat} {e' : TE}, es[k]? = some e' → e'.eff = true → e'.r.effE = true := by
        intro k e' hk hf
        rcases TraceOk.at (X := X) es 0 k e' L m ht hk with ⟨_, _, h3⟩ | ⟨_, h3, _⟩
        · rw [hf] at h3; simp at h3
        · rw [← h3]; exact hf
      have e1 := hE he heff
      have e2 := hE hj heffj
      have := order_of hd hX hr (hrj j e' hj) hXi hanc hji ⟨fun h => by omega, fun _ => conflict_mem (by rw [← hre]; exact effE_sens e1) (effE_sens e2) (.inr e2)⟩
      rw [this]; simp; omega
    | false =>
      rw [h2 heff]
      refine memAt_agree es 0 m (fun j e' hj heffj => ?_)
      simp only [Nat.zero_add]
      have hji : j ≠ i := by rintro rfl; rw [he] at hj; obtain rfl := Option.some.inj hj; rw [heff] at heffj; simp at heffj
      simp [hji]
  -- the guard
  have hguard := guard_agree (r := e.r) hreads
  have hwant : ∀ b, guardOn (envAt (fun j => decide (j < i)) 0 es L) e.r.guard = some b → Region.wanted o (yielded ops a.tmps) = b := by
    intro b hb
    rw [← hguard] at hb
    cases hg : e.r.guard with
    | none =>
      rw [hg] at hb
      simp only [guardOn, Option.some.injEq] at hb
      rw [← hb]
      exact wanted_none (by rw [hsame.guard, ← hre, hg])
    | some p =>
      obtain ⟨t, want⟩ := p
      rw [hg] at hb
      simp only [guardOn] at hb
      split at hb
      · rename_i c hc
        simp only [Option.some.injEq] at hb
        have hv := VR.v (hL.get t _ hc)
        rw [wanted_some (by rw [hsame.guard, ← hre, hg]) hv, ← hb]
        cases c <;> cases want <;> rfl
      · rename_i vs hc
        simp only [Option.some.injEq] at hb
        have hv := VR.v (hL.get t _ hc)
        rw [wanted_off (by rw [hsame.guard, ← hre, hg]) hv, ← hb]
      · simp at hb
  unfold wpOp
  rw [ho]
  simp only
  rcases htok with ⟨g1, g2, g3⟩ | ⟨g1, g3, g4, gC, g5, g6⟩
  · rw [hwant false g1]
    simp only [Bool.false_eq_true, if_false]
    refine hK S _ (Ext.refl S) hS (hafter S undef (Ext.refl S) (by rw [g2]; rfl)) (hmemafter S.m (fun h => by rw [g3] at h; simp at h) (fun _ => hm))
  · rw [hwant true g1]
    simp only [if_true]
    refine .inl ?_
    have hgood : ∀ z ∈ e.r.op.operands, Good S (envAt (fun j => decide (j < i)) 0 es L) a z := by
      intro z hz v hv
      rw [← opd_agree hreads z hz] at hv
      exact hL.good z v hv
    have hop : rop P o.op = some e.r.op := by rw [hre]; exact hsame.op
    -- what goes by whatever memory
    have hfree : e.eff = false → stepK P (envAt (fun j => decide (j < i)) 0 es L) S.m e.r.op (fun x m' => x = e.x ∧ m' = S.m) → o.wp P a S.w K Q := by
      intro hef hk
      refine stepK_sound hop hS hgood hk ?_
      rintro x m' ⟨rfl, rfl⟩ S' y h1 h2 h3 h4
      refine hK S' _ h1 h2 (hafter S' y h1 h4) (hmemafter S'.m (fun h => by rw [hef] at h; simp at h) (fun _ => by rw [h3, hm]))
    cases hq : e.r.quiet with
    | true =>
      have hef : e.eff = false := by rw [g3]; simp [RO.effE, hq]
      refine hfree hef (g6 hq S.m ?_)
      intro c hc
      rw [hm]
      have k1 := TraceOk.left (X := X) es 0 L m m ht (fun _ _ => rfl) c hc
      have k2 := TraceOk.left (X := fun j => decide (j < i)) es 0 L m m ht (fun _ _ => rfl) c hc
      rw [k1, k2]
    | false =>
      have g2 := g5 hq
      cases hsens : e.r.op.sens with
      | true =>
        have hmm := hmem (by unfold RO.sens; rw [hsens, hq]; rfl)
        rw [← hmm, ← hm] at g2
        refine stepK_sound hop hS hgood g2 ?_
        rintro x m' ⟨rfl, rfl⟩ S' y h1 h2 h3 h4
        refine hK S' _ h1 h2 (hafter S' y h1 h4) (hmemafter S'.m (fun _ => h3) (fun hf => ?_))
        rw [h3, g4 hf, hmm]
      | false =>
        have hef : e.eff = false := by
          rw [g3]
          cases hqe : e.r.effE with
          | false => rfl
          | true => have := effE_sens hqe; unfold RO.sens at this; rw [hsens] at this; simp at this
        exact hfree hef (stepK_insens (m2 := S.m) hsens g2)

theorem mem_ready {listed : Array Bool} {i : Nat} : i ∈ Region.ready .any ops listed ↔ i < ops.size ∧ listed.getD i true = false ∧ ∃ o, ops[i]? = some o ∧ ∀ k ∈ (o.after.toList.filter (Region.binds .any)).map (·.on), listed.getD k false = true := by
  unfold Region.ready
  simp only [List.mem_filter, List.mem_range, Bool.and_eq_true, Bool.not_eq_true']
  constructor
  · rintro ⟨h1, h2, h3⟩
    refine ⟨h1, h2, ops[i], Array.getElem?_eq_getElem h1, fun k hk => ?_⟩
    rw [Array.getElem?_eq_getElem h1] at h3
    simp only [Option.map_some, Option.getD_some, ← Array.all_toList, List.all_eq_true, Bool.or_eq_true, Bool.not_eq_true'] at h3
    obtain ⟨e, he, rfl⟩ := List.mem_map.1 hk
    obtain ⟨he1, he2⟩ := List.mem_filter.1 he
    rcases h3 e he1 with h | h
    · rw [h] at he2; simp at he2
    · exact h
  · rintro ⟨h1, h2, o, ho, h3⟩
    refine ⟨h1, h2, ?_⟩
    rw [ho]
    simp only [Option.map_some, Option.getD_some, ← Array.all_toList, List.all_eq_true, Bool.or_eq_true, Bool.not_eq_true']
    intro e he
    cases hb : Region.binds .any e with
    | false => exact .inl rfl
    | true => exact .inr (h3 e.on (List.mem_map.2 ⟨e, List.mem_filter.2 ⟨he, hb⟩, rfl⟩))

theorem XOf_set {listed : Array Bool} {i : Nat} (h : i < listed.size) : XOf (listed.setIfInBounds i true) = fun j => XOf listed j || decide (j = i) := by
  funext j
  unfold XOf
  by_cases hj : j = i
  · subst hj; simp [Array.getD_eq_getD_getElem?, h]
  · simp [Array.getD_eq_getD_getElem?, Array.getElem?_setIfInBounds_ne (Ne.symm hj), hj]

theorem wp_any {C : List Nat} {es : List TE} {L : Env} {m : Mem} {K : Env → Mem → Prop} {Q : Exit → Act → World → Prop} (hd : Drawn P ops N rs) (hes : es.map (·.r) = rs) (ht : TraceOk P C es L m)
    (hfin : K (envAt (fun _ => true) 0 es L) (memAt (fun _ => true) 0 es m)) {S0 : Setup} (hQ : RegPost S0 N K Q) :
    ∀ (fuel : Nat) (listed : Array Bool) (S : Setup) (a : Act), listed.size = ops.size → listed.toList.countP (fun b => !b) ≤ fuel → Closed (aftersOf ops) (XOf listed) → Ext S0 S → S.WF →
      ER S N (envAt (XOf listed) 0 es L) a → S.m = memAt (XOf listed) 0 es m → wpAny P .any ops Q fuel listed a S.w := by
  have hlen : es.length = ops.size := by rw [hd.len, ← hes]; simp
  -- nothing is ready: all has come up
  have hdone : ∀ (listed : Array Bool) (S : Setup) (a : Act), listed.size = ops.size → Closed (aftersOf ops) (XOf listed) → Ext S0 S → S.WF → ER S N (envAt (XOf listed) 0 es L) a → S.m = memAt (XOf listed) 0 es m →
      Region.ready .any ops listed = [] → Q .normal a S.w := by
    intro listed S a hsz hX hE hS hL hm hr
    have hall : ∀ i, i < ops.size → XOf listed i = true := by
      intro i
      induction i using Nat.strongRecOn with
      | _ i ih =>
        intro hi
        cases hx : XOf listed i with
        | true => rfl
        | false =>
          exfalso
          have hmem : i ∈ Region.ready .any ops listed := by
            refine mem_ready.2 ⟨hi, ?_, ops[i], Array.getElem?_eq_getElem hi, fun k hk => ?_⟩
            · unfold XOf at hx
              simp only [Array.getD_eq_getD_getElem?, Array.getElem?_eq_getElem (show i < listed.size by omega), Option.getD_some] at hx ⊢
              exact hx
            · have hlt := backFrom_at (aftersOf ops) 0 hd.back i _ (afters_get (Array.getElem?_eq_getElem hi)) k hk
              exact ih k (by omega) (by omega)
          rw [hr] at hmem; simp at hmem
    have e1 : ∀ t, (envAt (XOf listed) 0 es L).get t = (envAt (fun _ => true) 0 es L).get t := fun t =>
      envAt_agree es 0 L L rfl (fun j e hj _ => by rw [Nat.zero_add]; exact hall j (by rw [← hlen]; exact (List.getElem?_eq_some_iff.1 hj).1))
    have e2 : memAt (XOf listed) 0 es m = memAt (fun _ => true) 0 es m :=
      memAt_agree es 0 m (fun j e hj _ => by rw [Nat.zero_add]; exact hall j (by rw [← hlen]; exact (List.getElem?_eq_some_iff.1 hj).1))
    refine hQ S _ a hE hS ⟨hL.size, hL.defers, fun t x hx => hL.get t x (by rw [e1]; exact hx)⟩ ?_
    rw [hm, e2]; exact hfin
  intro fuel
  induction fuel with
  | zero =>
    intro listed S a hsz hcount hX hE hS hL hm
    have hr : Region.ready .any ops listed = [] := by
      cases hq : Region.ready .any ops listed with
      | nil => rfl
      | cons i rest =>
        exfalso
        have hi : i ∈ Region.ready .any ops listed := by rw [hq]; simp
        obtain ⟨h1, h2, _⟩ := mem_ready.1 hi
        have : 0 < listed.toList.countP (fun b => !b) := by
          rw [List.countP_pos_iff]
          refine ⟨listed[i]'(by omega), Array.getElem_mem_toList (by omega), ?_⟩
          simp only [Array.getD_eq_getD_getElem?, Array.getElem?_eq_getElem (show i < listed.size by omega), Option.getD_some] at h2
          simp [h2]
        omega
    exact ⟨hr, hdone listed S a hsz hX hE hS hL hm hr⟩
  | succ fuel ih =>
    intro listed S a hsz hcount hX hE hS hL hm
    refine ⟨hdone listed S a hsz hX hE hS hL hm, fun i hi => ?_⟩
    obtain ⟨h1, h2, o, ho, h3⟩ := mem_ready.1 hi
    have hil : i < listed.size := by omega
    have hli : listed[i] = false := by
      simp only [Array.getD_eq_getD_getElem?, Array.getElem?_eq_getElem hil, Option.getD_some] at h2; exact h2
    have hXi : XOf listed i = false := by simp [XOf, Array.getD_eq_getD_getElem?, hil, hli]
    refine draw_step hd hes ht hX ho hXi h3 hS hL hm (fun S' a' hE' hS' hL' hm' => ?_)
    refine ih (listed.setIfInBounds i true) S' a' (by simp [hsz]) ?_ ?_ (hE.trans hE') hS' (by rw [XOf_set hil]; exact hL') (by rw [XOf_set hil]; exact hm')
    · have hset : (listed.setIfInBounds i true).toList = listed.toList.set i true := by simp
      rw [hset, List.countP_set (by simpa using hil)]
      simp only [Array.getElem_toList, hli, Bool.not_false, if_true, Bool.not_true, Bool.false_eq_true, if_false]
      omega
    · rw [XOf_set hil]
      intro k as hk hXk j hj
      simp only [Bool.or_eq_true, decide_eq_true_eq] at hXk ⊢
      rcases hXk with hXk | rfl
      · exact .inl (hX k as hk hXk j hj)
      · rw [afters_get ho] at hk
        obtain rfl := Option.some.inj hk
        exact .inl (h3 j hj)

/-- A region whose order is drawn. -/
theorem wp_drawn {C : List Nat} {id : Nat} {L : Env} {S : Setup} {a : Act} {K : Env → Mem → Prop} {Q : Exit → Act → World → Prop} (hm : P.follows .mixedOrders = true) (hd : Drawn P ops N rs) (hS : S.WF) (hL : ER S N L a)
    (h : Reg P C rs L S.m K) (hQ : RegPost S N K Q) : (Code.region id ops true).wp P Q a S.w := by
  obtain ⟨es, h1, h2, h3⟩ := Reg.trace h
  refine wp_region_any hm ?_
  have hX0 : XOf (Array.replicate ops.size false) = fun _ => false := by
    funext j
    simp only [XOf, Array.getD_eq_getD_getElem?, Array.getElem?_replicate]
    split <;> rfl
  have he0 : ∀ (es : List TE) (k : Nat) (L : Env), envAt (fun _ => false) k es L = L := by
    intro es
    induction es with
    | nil => intro _ _; rfl
    | cons e es ih => intro k L; simp only [envAt, Bool.false_eq_true, if_false]; exact ih _ _
  have hm0 : ∀ (es : List TE) (k : Nat) (m : Mem), memAt (fun _ => false) k es m = m := by
    intro es
    induction es with
    | nil => intro _ _; rfl
    | cons e es ih => intro k m; simp only [memAt, Bool.false_and, Bool.false_eq_true, if_false]; exact ih _ _
  refine wp_any hd h1 h2 (h3 0) hQ ops.size (Array.replicate ops.size false) S.drew a (by simp) ?_ ?_ (Ext.drew S) hS.drew ?_ ?_
  · simp only [Array.toList_replicate]
    exact Nat.le_trans List.countP_le_length (by simp)
  · intro i as _ hx; rw [hX0] at hx; simp at hx
  · rw [hX0, he0]; exact hL.mono (Ext.drew S)
  · rw [hX0, hm0]; rfl
end
end Go.Proofs.YtlkphnhlibpngaaGreat.Abs
