/- Abs, part 15: the walk's rules, a function's entry and end; what of the memory is handed back. -/
import Derived.Test.YtlkphnhlibpngaaGreatAbsCtl
set_option linter.unusedVariables false
set_option linter.unusedSimpArgs false
namespace Go.Proofs.YtlkphnhlibpngaaGreat.Abs
open Go

section
variable {P : Program} {N : Nat}

abbrev QT := Exit → Env → Mem → Prop

/-- A list of pieces of code, one behind the other. -/
def W (P : Program) (N : Nat) : List RCode → Env → Mem → QT → Prop
  | [], L, m, Q => Q .normal L m
  | r :: rs, L, m, Q => V P N r L m fun e L' m' => match e with | .normal => W P N rs L' m' Q | e => Q e L' m'

theorem W_mono : ∀ {rs : List RCode} {L : Env} {m : Mem} {Q Q' : QT}, W P N rs L m Q → (∀ e L m, Q e L m → Q' e L m) → W P N rs L m Q'
  | [], L, m, Q, Q', h, hq => hq _ _ _ h
  | r :: rs, L, m, Q, Q', h, hq => by
    refine V.mono h ?_
    intro e L' m' h'
    cases e with
    | normal => exact W_mono h' hq
    | _ => exact hq _ _ _ h'

variable {rs : List RCode} {L : Env} {m : Mem} {Q : QT}

theorem W_seq {a b : RCode} (h : W P N (a :: b :: rs) L m Q) : W P N (.seq a b :: rs) L m Q := by
  refine V_seq (V.mono h ?_)
  intro e L' m' h'
  cases e <;> exact h'
theorem W_skip (h : W P N rs L m Q) : W P N (.skip :: rs) L m Q := V_skip h
theorem W_exit {id : Nat} (h : Q (.exit id) L m) : W P N (.exit id :: rs) L m Q := V_exit h
theorem W_ret (h : Q .ret L m) : W P N (.ret :: rs) L m Q := V_ret h
theorem W_nil (h : Q .normal L m) : W P N [] L m Q := h
/-- A region: what is behind it stays out of sight. -/
theorem W_reg (C : List Nat) {ops : List RO} (h : ∀ K : Env → Mem → Prop, (∀ L m, W P N rs L m Q → K L m) → Reg P C ops L m K) : W P N (.reg ops :: rs) L m Q :=
  V_reg C (h _ fun _ _ h => h)
theorem W_cond {z : Operand} {t e : RCode} {b : Bool} (hb : opd L z = some (bools b)) (ht : b = true → W P N (t :: rs) L m Q) (hf : b = false → W P N (e :: rs) L m Q) : W P N (.cond z t e :: rs) L m Q :=
  V_cond hb ht hf
theorem W_block {id : Nat} {b : RCode} (h : ∀ Q' : QT, (∀ L m, W P N rs L m Q → Q' .normal L m) → (∀ L m, W P N rs L m Q → Q' (.exit id) L m) → (∀ e L m, e ≠ .normal → e ≠ .exit id → Q e L m → Q' e L m) → W P N [b] L m Q') :
    W P N (.block id b :: rs) L m Q := by
  refine V_block (V.mono (h (fun e L' m' => match e with | .normal => W P N rs L' m' Q | .exit i => if i = id then W P N rs L' m' Q else Q (.exit i) L' m' | e => Q e L' m') (fun _ _ h => h) (fun L m h => by simpa using h) ?_) ?_)
  · intro e L m h1 h2 h3
    cases e with
    | normal => exact absurd rfl h1
    | exit i =>
      have : i ≠ id := fun h => h2 (by rw [h])
      simp only [if_neg this]; exact h3
    | _ => exact h3
  · intro e L' m' h'
    cases e with
    | normal => exact h'
    | exit i =>
      simp only at h' ⊢
      split
      · rename_i hi; rw [if_pos hi] at h'; exact h'
      · rename_i hi; rw [if_neg hi] at h'; exact h'
    | _ => exact h'
theorem W_loop {b : RCode} (I : Nat → Env → Mem → Prop) (n : Nat) (h0 : I n L m)
    (h : ∀ n L m, I n L m → ∀ Q' : QT, (∀ k L' m', k < n → I k L' m' → Q' .normal L' m') → (∀ e L' m', e ≠ .normal → Q e L' m' → Q' e L' m') → W P N [b] L m Q') : W P N (.loop b :: rs) L m Q := by
  refine V_loop I n h0 ?_
  intro n L m hI
  refine V.mono (h n L m hI (fun e L' m' => match e with | .normal => ∃ k, k < n ∧ I k L' m' | e => Q e L' m') (fun k L' m' h1 h2 => ⟨k, h1, h2⟩) (fun e L' m' h1 h2 => by cases e <;> first | exact absurd rfl h1 | exact h2)) ?_
  intro e L' m' h'
  cases e <;> exact h'
/-- What is behind a piece of code, told once for all ways through it. -/
theorem W_mid {r : RCode} (M : Env → Mem → Prop) (h : ∀ Q' : QT, (∀ L m, M L m → Q' .normal L m) → (∀ e L m, e ≠ .normal → Q e L m → Q' e L m) → W P N [r] L m Q') (hr : ∀ L m, M L m → W P N rs L m Q) : W P N (r :: rs) L m Q := by
  refine V.mono (h (fun e L m => match e with | .normal => M L m | e => Q e L m) (fun _ _ h => h) (fun e L m h1 h2 => by cases e <;> first | exact absurd rfl h1 | exact h2)) ?_
  intro e L' m' h'
  cases e with
  | normal => exact hr _ _ h'
  | _ => exact h'

/-! ### the frame may be forgotten, values may be told otherwise -/
/-- Whatever x stands for, x' stands for. -/
def AV.le (x x' : AV) : Prop := ∀ S y, VR S x y → VR S x' y
theorem AV.le.refl (x : AV) : x.le x := fun _ _ h => h
/-- The frame L says all that L' says. -/
def Env.le (L L' : Env) : Prop := ∀ t x', L'.get t = some x' → ∃ x, L.get t = some x ∧ x.le x'
theorem ER.le {S : Setup} {L L' : Env} {a : Act} (h : ER S N L a) (hl : Env.le L L') : ER S N L' a :=
  ⟨h.size, h.defers, fun t x' ht => by obtain ⟨x, h1, h2⟩ := hl t x' ht; exact h2 _ _ (h.get t x h1)⟩
theorem W_le {L' : Env} : ∀ {rs : List RCode}, rs ≠ [] → Env.le L L' → W P N rs L' m Q → W P N rs L m Q
  | [], hn, _, _ => absurd rfl hn
  | r :: rs, _, hl, h => fun H c hc S a h1 h2 h3 => h H c hc S a h1 h2 (h3.le hl)

/-! ### what is known of what the frame stands for -/
/-- A fact that every world shows. -/
theorem W_fact {F : Prop} {r : RCode} (hF : ∀ S a, S.m = m → S.WF → ER S N L a → F) (h : F → W P N (r :: rs) L m Q) : W P N (r :: rs) L m Q :=
  fun H c hc S a h1 h2 h3 => h (hF S a h1 h2 h3) H c hc S a h1 h2 h3
theorem W_listlen {r : RCode} {t sz : Nat} {tt : Bool} {xs : List (List PV)} (ht : L.get t = some (.p (.list sz tt xs))) (h : xs.length ≤ 281474976710656 → W P N (r :: rs) L m Q) : W P N (r :: rs) L m Q :=
  W_fact (F := xs.length ≤ 281474976710656) (fun S a _ _ hL => by obtain ⟨A, len, cap, _, rfl, _, h4, _⟩ := hL.get t _ ht; exact h4) h

/-! ### results -/
inductive RRes where
  | tmp (t : Nat)
  | cell (t : Nat) (n : Option Nat)
def rres (P : Program) : ResultVar → Option RRes
  | .tmp t => some (.tmp t)
  | .cell t ty => (Program.cut? P ty).map fun n => .cell t n
def rress (P : Program) : List ResultVar → Option (List RRes)
  | [] => some []
  | r :: rs => match rres P r, rress P rs with
    | some x, some xs => some (x :: xs)
    | _, _ => none
def ares (L : Env) (m : Mem) : RRes → Option AV
  | .tmp t => L.get t
  | .cell t none => match (L.get t).bind (readCells m 1) with
    | some [c] => some c
    | _ => none
  | .cell t (some n) => ((L.get t).bind (readCells m n)).map .agg
def aress (L : Env) (m : Mem) : List RRes → Option (List AV)
  | [] => some []
  | r :: rs => match ares L m r, aress L m rs with
    | some x, some xs => some (x :: xs)
    | _, _ => none
def tupled : List AV → AV
  | [x] => x
  | xs => .tup xs

def resOf (tmps : Array Value) : ResultVar → Sem Value
  | .tmp t => pure (tmps.getD t undef)
  | .cell a t => do loadVar t (← asAddr (tmps.getD a undef))
theorem results_eq (fn : Func) (tmps : Array Value) : results fn tmps = (do let vs ← fn.results.mapM (resOf tmps); pure (if h : vs.size = 1 then vs[0] else .tuple vs)) := by
  unfold results
  have : (fun x => resOf tmps x) = resOf tmps := rfl
  rw [← this]
  congr 1

theorem ares_sound {S : Setup} {a : Act} {rv : ResultVar} {r : RRes} {v : AV} (hS : S.WF) (hL : ER S N L a) (hr : rres P rv = some r) (h : ares L S.m r = some v) :
    ∃ y, (resOf a.tmps rv).run P S.w = .ok y S.w ∧ VR S v y := by
  unfold resOf
  cases rv with
  | tmp t =>
    simp only [rres, Option.some.injEq] at hr
    subst hr
    exact ⟨_, rfl, hL.get t v h⟩
  | cell t ty =>
    simp only [rres, Option.map_eq_some_iff] at hr
    obtain ⟨n, hn, rfl⟩ := hr
    unfold Program.cut? at hn
    split at hn
    case h_2 => simp at hn
    rename_i d i hu hi
    obtain rfl := Option.some.inj hn
    have hagg : (isAgg ty).run P S.w = .ok (isAggD (some d)) S.w := by
      unfold isAgg; rw [Sem.run_bind, run_underlying hu]; cases d <;> simp [isAggD]
    cases hd : isAggD (some d) with
    | true =>
      simp only [hd, if_true, ares, Option.map_eq_some_iff, Option.bind_eq_some_iff] at h
      obtain ⟨cs, ⟨u, h1, h2⟩, rfl⟩ := h
      obtain ⟨ad, ys, g1, g2, g3, g4, g5⟩ := VR.readCells hS (hL.get t u h1) h2
      have hl := run_loadCells_list (P := P) S.w ad ys g5
      rw [g4.length, g3] at hl
      refine ⟨.agg ys.toArray, ?_, ys, rfl, g4⟩
      simp [g1, asAddr, loadVar, hagg, hd, sizeOf, typeInfo, hi, hl]
    | false =>
      simp only [hd, Bool.false_eq_true, if_false, ares] at h
      split at h
      · rename_i c h1
        simp only [Option.bind_eq_some_iff] at h1
        obtain ⟨u, h1, h2⟩ := h1
        obtain rfl := Option.some.inj h
        obtain ⟨ad, ys, g1, g2, g3, g4, g5⟩ := VR.readCells hS (hL.get t u h1) h2
        obtain ⟨y, ys', rfl, g6, g7⟩ := g4
        have hc := g5 0 y rfl
        rw [add_zero'] at hc
        exact ⟨y, by simp [g1, asAddr, loadVar, hagg, hd, hc], g6⟩
      · simp at h

theorem aress_sound {S : Setup} {a : Act} (hS : S.WF) (hL : ER S N L a) : ∀ {rvs : List ResultVar} {rs : List RRes} {vs : List AV}, rress P rvs = some rs → aress L S.m rs = some vs →
    ∃ ys, (rvs.mapM (resOf a.tmps)).run P S.w = .ok ys S.w ∧ VRs S vs ys
  | [], rs, vs, hr, h => by
    simp [rress] at hr; subst hr
    simp [aress] at h; subst h
    exact ⟨[], by simp, rfl⟩
  | rv :: rvs, rs, vs, hr, h => by
    simp only [rress] at hr
    split at hr
    · rename_i x xs h1 h2
      obtain rfl := Option.some.inj hr
      simp only [aress] at h
      split at h
      · rename_i v vs' h3 h4
        obtain rfl := Option.some.inj h
        obtain ⟨y, k1, k2⟩ := ares_sound hS hL h1 h3
        obtain ⟨ys, k3, k4⟩ := aress_sound hS hL h2 h4
        refine ⟨y :: ys, ?_, y, ys, rfl, k2, k4⟩
        rw [List.mapM_cons, Sem.run_bind, k1, Result.andThen_ok, Sem.run_bind, k3]
        simp
      · simp at h
    · simp at hr

theorem results_sound {S : Setup} {a : Act} {fn : Func} {rs : List RRes} {vs : List AV} (hS : S.WF) (hL : ER S N L a) (hr : rress P fn.results.toList = some rs) (h : aress L S.m rs = some vs) :
    ∃ y, (results fn a.tmps).run P S.w = .ok y S.w ∧ VR S (tupled vs) y := by
  obtain ⟨ys, h1, h2⟩ := aress_sound hS hL hr h
  have hm : (fn.results.mapM (resOf a.tmps)).run P S.w = .ok ys.toArray S.w := by
    rw [← Array.toArray_toList (xs := fn.results), List.mapM_toArray]
    simp only [map_eq_pure_bind, Sem.run_bind]
    rw [h1]
    simp
  rw [results_eq, Sem.run_bind, hm]
  simp only [Result.andThen_ok, Sem.run_pure]
  cases vs with
  | nil =>
    simp [VRs] at h2; subst h2
    exact ⟨.tuple #[], by simp, [], rfl, rfl⟩
  | cons v vs =>
    obtain ⟨z, zs, rfl, g1, g2⟩ := h2
    cases vs with
    | nil =>
      simp [VRs] at g2; subst g2
      exact ⟨z, by simp, g1⟩
    | cons v' vs =>
      obtain ⟨z', zs', rfl, g3, g4⟩ := g2
      exact ⟨.tuple (z :: z' :: zs').toArray, by simp, _, rfl, z, z' :: zs', rfl, g1, z', zs', rfl, g3, g4⟩

/-! ### what is handed back: the memory is cut, a row that nobody else has is told as a list -/
/-- The same world, told otherwise: (m, v) becomes (m', r). -/
def Gives (k : Nat) (m : Mem) (v : AV) (m' : Mem) (r : AV) : Prop :=
  ∀ S y, S.m = m → S.WF → VR S v y → ∃ S', S'.w = S.w ∧ S'.WF ∧ S'.m = m' ∧ VR S' r y ∧ (∀ S0, Ext S0 S → S0.m.length ≤ k → Ext S0 S')

theorem Gives.refl (k : Nat) (m : Mem) (v : AV) : Gives k m v m v := fun S y h1 h2 h3 => ⟨S, rfl, h2, h1, h3, fun _ h _ => h⟩
theorem Gives.le {k : Nat} {m : Mem} {v r : AV} (h : v.le r) : Gives k m v m r := fun S y h1 h2 h3 => ⟨S, rfl, h2, h1, h _ _ h3, fun _ h _ => h⟩
theorem Gives.trans {k : Nat} {m m' m'' : Mem} {v r r' : AV} (h : Gives k m v m' r) (g : Gives k m' r m'' r') : Gives k m v m'' r' := by
  intro S y h1 h2 h3
  obtain ⟨S', k1, k2, k3, k4, k5⟩ := h S y h1 h2 h3
  obtain ⟨S'', j1, j2, j3, j4, j5⟩ := g S' y k3 k2 k4
  exact ⟨S'', j1.trans k1, j2, j3, j4, fun S0 he hle => j5 S0 (k5 S0 he hle) hle⟩

mutual
def AV.under (k : Nat) : AV → Prop
  | .p _ => True
  | .agg cs => AV.unders k cs
  | .tup cs => AV.unders k cs
  | .ptr b _ _ => b < k
  | .fp _ => True
  | .sl b _ _ _ _ => b < k
  | .fn _ cs => AV.unders k cs
  | .iface _ x => AV.under k x
def AV.unders (k : Nat) : List AV → Prop
  | [] => True
  | c :: cs => AV.under k c ∧ AV.unders k cs
end

mutual
theorem VR.cut {S S' : Setup} {k : Nat} (hw : S'.w = S.w) (hf : S'.fz = S.fz) (hβ : S'.β = S.β) (hc : S'.cap = S.cap) (hm : S'.m = S.m.take k) : ∀ (x : AV) (y : Value), x.under k → VR S x y → VR S' x y
  | .p x, y, _, h => by show PR S'.w S'.fz x y; rw [hw, hf]; exact h
  | .agg cs, y, hb, h => by obtain ⟨ys, h1, h2⟩ := h; exact ⟨ys, h1, VRs.cut hw hf hβ hc hm cs ys hb h2⟩
  | .tup cs, y, hb, h => by obtain ⟨ys, h1, h2⟩ := h; exact ⟨ys, h1, VRs.cut hw hf hβ hc hm cs ys hb h2⟩
  | .ptr b ver off, y, hb, h => by
    obtain ⟨h0, blk, h1, h2, h3⟩ := h
    refine ⟨h0, blk, by rw [hm, List.getElem?_take, if_pos (show b < k from hb)]; exact h1, h2, ?_⟩
    rw [hβ]; exact h3
  | .fp cs, y, _, h => by
    obtain ⟨ad, h1, h2, h3, h4⟩ := h
    exact ⟨ad, h1, h2, by rw [hf]; exact h3, by rw [hw, hf]; exact h4⟩
  | .sl b ver off n s, y, hb, h => by
    obtain ⟨ad, cap, e1, e2, e3, e4, blk, h1, h2, h3⟩ := h
    refine ⟨ad, cap, e1, e2, e3, e4, blk, by rw [hm, List.getElem?_take, if_pos (show b < k from hb)]; exact h1, h2, ?_⟩
    rw [hβ, hc]; exact h3
  | .fn f cs, y, hb, h => by obtain ⟨ys, h1, h2⟩ := h; exact ⟨ys, h1, VRs.cut hw hf hβ hc hm cs ys hb h2⟩
  | .iface t x, y, hb, h => by obtain ⟨z, h1, h2⟩ := h; exact ⟨z, h1, VR.cut hw hf hβ hc hm x z hb h2⟩
theorem VRs.cut {S S' : Setup} {k : Nat} (hw : S'.w = S.w) (hf : S'.fz = S.fz) (hβ : S'.β = S.β) (hc : S'.cap = S.cap) (hm : S'.m = S.m.take k) : ∀ (xs : List AV) (ys : List Value), AV.unders k xs → VRs S xs ys → VRs S' xs ys
  | [], ys, _, h => h
  | x :: xs, ys, hb, h => by
    obtain ⟨z, zs, h1, h2, h3⟩ := h
    exact ⟨z, zs, h1, VR.cut hw hf hβ hc hm x z hb.1 h2, VRs.cut hw hf hβ hc hm xs zs hb.2 h3⟩
end

/-- Blocks from number k on are dropped: nothing that stays leads there. -/
theorem Gives.cut {n : Nat} {m : Mem} {v : AV} (k : Nat) (hn : n ≤ k) (hv : v.under k) (hm : ∀ (b : Nat) (blk : Blk), (m.take k)[b]? = some blk → blk.alive = true → AV.unders k blk.cells) : Gives n m v (m.take k) v := by
  intro S y h1 h2 h3
  subst h1
  have hget : ∀ {b : Nat} {blk : Blk}, (S.m.take k)[b]? = some blk → b < k ∧ S.m[b]? = some blk := by
    intro b blk h
    rw [List.getElem?_take] at h
    split at h
    · exact ⟨by assumption, h⟩
    · simp at h
  refine ⟨{ S with m := S.m.take k }, rfl, ⟨fun b blk hb ha => ?_, fun b c blk blk' hb hc ha ha' he => ?_, h2.fzlt⟩, rfl, VR.cut (S := S) (S' := { S with m := S.m.take k }) (k := k) rfl rfl rfl rfl rfl _ _ hv h3, fun S0 he hle => ?_⟩
  · obtain ⟨hbk, hb'⟩ := hget hb
    obtain ⟨⟨ys, rest, ty, g1, g2, g3⟩, g4⟩ := h2.lies b blk hb' ha
    exact ⟨⟨ys, rest, ty, g1, VRs.cut (S := S) (S' := { S with m := S.m.take k }) (k := k) rfl rfl rfl rfl rfl _ _ (hm b blk hb ha) g2, g3⟩, g4⟩
  · exact h2.inj b c blk blk' (hget hb).2 (hget hc).2 ha ha' he
  · refine ⟨he.os, he.tape, he.output, he.size, fun b blk hb => ?_, he.fz, he.kept, ?_, he.thaw⟩
    · obtain ⟨blk', g1, g2⟩ := he.blk b blk hb
      have hbl : b < S0.m.length := (List.getElem?_eq_some_iff.1 hb).1
      have : b < k := by omega
      exact ⟨blk', by show (S.m.take k)[b]? = _; rw [List.getElem?_take, if_pos this]; exact g1, g2⟩
    · rintro q ⟨b, blk, g1, g2, g3⟩
      exact he.fresh q ⟨b, blk, (hget g1).2, g2, g3⟩

/-- A row that nobody else is to write is told as a list: its block is dead then. -/
theorem Gives.list {k : Nat} {m : Mem} {b ver n sz : Nat} {blk : Blk} {xs : List (List PV)} (hb : m[b]? = some blk) (ha : blk.alive = true) (hv : ver = blk.cur) (hc : blk.cells = (xs.flatten).map .p) (hn : xs.length = n)
    (hl : ∀ r ∈ xs, r.length = sz) (h1 : ∀ c ∈ blk.cells, c.one = true) : Gives k m (.sl b ver 0 n sz) (m.set b (.dead (blk.cur + 1))) (.p (.list sz false xs)) := by
  intro S y hm hS hvr
  subst hm
  obtain ⟨ad, cap, rfl, e2, e3, e4, blk', e5, e6, e7⟩ := hvr
  rw [hb] at e5; obtain rfl := Option.some.inj e5
  obtain ⟨rfl, e8, e9⟩ := e7 ha hv
  obtain ⟨⟨ys, rest, ty, g1, g2, g3⟩, g4⟩ := hS.lies b blk hb ha
  have hlt : b < S.m.length := (List.getElem?_eq_some_iff.1 hb).1
  have hfz : S.β b < S.w.heap.size := hS.owned_lt ⟨b, blk, hb, ha, rfl⟩
  have hE : Ext S { S with m := S.m.set b (.dead (blk.cur + 1)), fz := fun k => S.fz k ∨ k = S.β b } := by
    refine ⟨rfl, rfl, rfl, Nat.le_refl _, fun c bl hbl => ?_, fun k hk => ⟨.inl hk, rfl⟩, fun _ _ _ => rfl, ?_, fun k hk => hk.elim .inl (fun e => .inr (.inl ⟨b, blk, hb, ha, e.symm⟩))⟩
    · by_cases h : c = b
      · subst h
        rw [hb] at hbl; obtain rfl := Option.some.inj hbl
        exact ⟨.dead (blk.cur + 1), by rw [List.getElem?_set_self hlt], Nat.le_succ _, fun h _ => by simp [Blk.dead] at h⟩
      · exact ⟨bl, by show (S.m.set b _)[c]? = _; rw [List.getElem?_set_ne (Ne.symm h)]; exact hbl, Nat.le_refl _, fun h1 _ => ⟨h1, rfl, rfl⟩⟩
    · rintro k ⟨c, bl, k1, k2, k3⟩
      by_cases h : c = b
      · subst h
        have k1' : (S.m.set c (.dead (blk.cur + 1)))[c]? = some bl := k1
        rw [List.getElem?_set_self hlt] at k1'; obtain rfl := Option.some.inj k1'; simp [Blk.dead] at k2
      · have k1' : (S.m.set b (.dead (blk.cur + 1)))[c]? = some bl := k1
        rw [List.getElem?_set_ne (Ne.symm h)] at k1'; exact .inl ⟨c, bl, k1', k2, k3⟩
  have hget : ∀ {c : Nat} {bl : Blk}, (S.m.set b (.dead (blk.cur + 1)))[c]? = some bl → bl.alive = true → c ≠ b ∧ S.m[c]? = some bl := by
    intro c bl k1 k2
    by_cases h : c = b
    · subst h
      rw [List.getElem?_set_self hlt] at k1; obtain rfl := Option.some.inj k1; simp [Blk.dead] at k2
    · rw [List.getElem?_set_ne (Ne.symm h)] at k1; exact ⟨h, k1⟩
  refine ⟨{ S with m := S.m.set b (.dead (blk.cur + 1)), fz := fun k => S.fz k ∨ k = S.β b }, rfl, ⟨fun c bl hbl hal => ?_, fun c d bl bl' hc' hd ha1 ha2 he => ?_, fun k hk => ?_⟩, rfl, ?_, fun S0 he _ => he.trans hE⟩
  · obtain ⟨k1, k2⟩ := hget hbl hal
    have hli := hS.lies c bl k2 hal
    refine hli.of_ext hE rfl rfl rfl (fun hf => ?_)
    rcases hf with hf | hf
    · exact hli.nofz hf
    · exact k1 (hS.inj c b bl blk k2 hb hal ha hf)
  · exact hS.inj c d bl bl' (hget hc' ha1).2 (hget hd ha2).2 ha1 ha2 he
  · rcases hk with hk | rfl
    · exact hS.fzlt k hk
    · exact hfz
  · refine ⟨some ⟨S.β b, 0, none⟩, n, cap, rfl, hn.symm, e3, e4, fun h => by simp at h, ?_⟩
    rw [hc] at g2
    -- the rows' values
    have hrows : ∀ (xs : List (List PV)) (ys : List Value) (ad : Addr), ad.spot = none → (S.fz ad.block ∨ ad.block = S.β b) → (∀ r ∈ xs, r.length = sz) → VRs S (xs.flatten.map .p) ys → (∀ u ∈ ys, u.oneCell' = true) →
        (∀ (j : Nat) u, ys[j]? = some u → S.w.cell? (ad.add j) = some u) → PRR S.w (fun k => S.fz k ∨ k = S.β b) sz xs (some ad) := by
      intro xs
      induction xs with
      | nil => intro _ _ _ _ _ _ _ _; trivial
      | cons x xs ih =>
        intro ys ad hsp hf hl hvs ho hcell
        rw [List.flatten_cons, List.map_append] at hvs
        obtain ⟨us, vs, rfl, v1, v2⟩ := hvs.of_append
        have hxl := hl x (by simp)
        have hul : us.length = sz := by rw [v1.length]; simpa using hxl
        refine ⟨ad, rfl, hsp, hf, hxl, PRC.mk hsp (by rw [hul, hxl]) (fun j u hj => ?_) (fun j c u hc hu => ?_) (fun u hu => ho u (by simp [hu])), ?_⟩
        · exact hcell j u (by rw [List.getElem?_append_left (List.getElem?_eq_some_iff.1 hj).1]; exact hj)
        · exact PR.mono (fun k hk => ⟨.inl hk, rfl⟩) _ _ (v1.PRs j c u hc hu)
        · refine ih vs (ad.add sz) (add_spot _ hsp) (by rw [add_block]; exact hf) (fun r hr => hl r (by simp [hr])) v2 (fun u hu => ho u (by simp [hu])) (fun j u hj => ?_)
          rw [add_add _ _ hsp]
          exact hcell (sz + j) u (by rw [List.getElem?_append_right (by omega), hul, show sz + j - sz = j by omega]; exact hj)
    refine hrows xs ys ⟨S.β b, 0, none⟩ rfl (.inr rfl) hl g2 (fun u hu => ?_) (fun j u hj => ?_)
    · obtain ⟨j, hj⟩ := List.mem_iff_getElem?.1 hu
      have hjl : j < (xs.flatten.map AV.p).length := by rw [← g2.length]; exact (List.getElem?_eq_some_iff.1 hj).1
      obtain ⟨u', k1, k2⟩ := g2.get (List.getElem?_eq_getElem hjl)
      rw [hj] at k1; obtain rfl := Option.some.inj k1
      exact VR.one (h1 _ (by rw [hc]; exact List.getElem_mem hjl)) k2
    · rw [add_eq _ rfl]
      simp only [World.cell?, g1, Option.isSome_none, Bool.false_eq_true, if_false, List.getElem?_toArray, Nat.zero_add]
      rw [List.getElem?_append_left (List.getElem?_eq_some_iff.1 hj).1]
      exact hj

/-! ### a function -/
def enum : Nat → List AV → Env
  | _, [] => []
  | k, x :: xs => (k, x) :: enum (k + 1) xs
theorem enum_get : ∀ {xs : List AV} {k t : Nat} {x : AV}, (enum k xs).get t = some x → k ≤ t ∧ xs[t - k]? = some x
  | [], k, t, x, h => by simp [enum, Env.get] at h
  | y :: ys, k, t, x, h => by
    simp only [enum, Env.get_cons] at h
    split at h
    · rename_i e; subst e; obtain rfl := Option.some.inj h; exact ⟨Nat.le_refl _, by simp⟩
    · obtain ⟨h1, h2⟩ := enum_get h
      exact ⟨by omega, by rw [show t - k = (t - (k + 1)) + 1 by omega]; simpa using h2⟩

/-- A function's code, its types looked up. -/
structure RFn where
  n : Nat
  args : Nat
  code : RCode
  res : List RRes
def rfn (P : Program) (H : List FuncId) (f : FuncId) (k : Nat) : Option RFn :=
  match P.funcs[f]? with
  | none => none
  | some fn => match fn.body with
    | none => none
    | some c => match rcode P fn.ntmps H c, rress P fn.results.toList with
      | some r, some rs => if k ≤ fn.ntmps then some ⟨fn.ntmps, k, r, rs⟩ else none
      | _, _ => none

/-- What a walk is to come to. -/
def Ends (R : RFn) (m : Mem) (r : AV) (m' : Mem) : QT := fun e L mm => (e = .normal ∨ e = .ret) ∧ ∃ vs, aress L mm R.res = some vs ∧ Gives m.length mm (tupled vs) m' r

theorem acall {H : List FuncId} {f : FuncId} {args : List AV} {m m' : Mem} {r : AV} {R : RFn} (hR : rfn P H f args.length = some R)
    (h : ∀ Q : QT, (∀ e L mm, Ends R m r m' e L mm → Q e L mm) → W P R.n [R.code] (enum 0 args) m Q) : ACall P f args m r m' := by
  unfold rfn at hR
  split at hR
  · simp at hR
  rename_i fn hf
  split at hR
  · simp at hR
  rename_i c hc
  split at hR
  case h_2 => simp at hR
  rename_i rc rs h1 h2
  split at hR
  case isFalse => simp at hR
  rename_i hlen
  obtain rfl := Option.some.inj hR
  intro S vs hm hS hv
  refine calls_of_wp hf hc ?_
  have hvl := hv.length
  have hL : ER S fn.ntmps (enum 0 args) { tmps := vs.toArray ++ Array.replicate (fn.ntmps - vs.toArray.size) undef, defers := [] } := by
    refine ⟨by simp; omega, rfl, fun t x ht => ?_⟩
    obtain ⟨_, hx⟩ := enum_get ht
    simp only [Nat.sub_zero] at hx
    obtain ⟨y, hy, hvy⟩ := hv.get hx
    have htl : t < vs.length := (List.getElem?_eq_some_iff.1 hy).1
    have : (vs.toArray ++ Array.replicate (fn.ntmps - vs.toArray.size) undef).getD t undef = y := by
      rw [Array.getD_eq_getD_getElem?, Array.getElem?_append_left (by simpa using htl)]
      simp [hy]
    rw [this]; exact hvy
  have hw := h (Ends ⟨fn.ntmps, args.length, rc, rs⟩ m r m') (fun _ _ _ h => h)
  have hw' := hw H c h1 S _ hm hS hL
  refine wp_mono hw' ?_
  rintro e a w ⟨S', L', rfl, g1, g2, g3, g4⟩
  have g5 : Ends ⟨fn.ntmps, args.length, rc, rs⟩ m r m' e L' S'.m := by cases e <;> exact g4
  obtain ⟨k1, vs', k3, k4⟩ := g5
  obtain ⟨y, j1, j2⟩ := results_sound g2 g3 h2 k3
  obtain ⟨S'', i1, i2, i3, i4, i5⟩ := k4 S' y rfl g2 j2
  have hfin : ∃ S'' y', Ending.returned y = .returned y' ∧ S''.w = S'.w ∧ Ext S S'' ∧ S''.WF ∧ S''.m = m' ∧ VR S'' r y' := ⟨S'', y, rfl, i1, i5 S g1 (by rw [hm]; exact Nat.le_refl _), i2, i3, i4⟩
  rcases k1 with rfl | rfl
  · exact ⟨g3.defers, y, j1, hfin⟩
  · exact ⟨g3.defers, y, j1, hfin⟩
end
end Go.Proofs.YtlkphnhlibpngaaGreat.Abs
