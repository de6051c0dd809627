/- Abs, part 19: behind a loop what is known may be told otherwise: rows of one's own are only read from then on, blocks are dropped. -/
import Derived.Test.YtlkphnhlibpngaaGreatAbsRun
set_option linter.unusedVariables false
set_option linter.unusedSimpArgs false
namespace Go.Proofs.YtlkphnhlibpngaaGreat.Abs
open Go

/-- A truth value that need not be known. -/
theorem WB.of {c : Bool} {F : Bool → Prop} (h : F c) : WB c F := ⟨fun e => e ▸ h, fun e => e ▸ h⟩
theorem Ext.mlen {S S' : Setup} (h : Ext S S') : S.m.length ≤ S'.m.length := by
  apply Nat.le_of_not_lt
  intro hlt
  obtain ⟨blk', h1, _⟩ := h.blk S'.m.length _ (List.getElem?_eq_getElem hlt)
  have := (List.getElem?_eq_some_iff.1 h1).1
  omega

section
variable {P : Program} {N : Nat}

/-- At the end of a piece of code what is known may be told otherwise. -/
theorem V_tell {r : RCode} {L : Env} {m : Mem} {Q : QT} (h : V P N r L m fun e L' m' => Q e L' m' ∨ ∃ L2 m2, m.length ≤ m2.length ∧ Tells N L' m' L2 m2 ∧ Q e L2 m2) : V P N r L m Q := by
  intro H c hc S a h1 h2 h3
  refine wp_mono (h H c hc S a h1 h2 h3) ?_
  rintro e a' w' ⟨S', L', rfl, g1, g2, g3, g4⟩
  rcases g4 with g4 | ⟨L2, m2, hl, ht, hq⟩
  · exact ⟨S', L', rfl, g1, g2, g3, g4⟩
  · obtain ⟨S3, j1, j2, rfl, j4, j5⟩ := ht S' a' rfl g2 g3
    exact ⟨S3, L2, j1, j5 S g1 (by rw [h1]; exact hl), j2, j4, hq⟩

/-- What a value becomes when blocks from k on are only read. -/
inductive Fz (m : Mem) (k : Nat) : AV → AV → Prop
  | same {x : AV} (h : x.under k) : Fz m k x x
  | le {x y : AV} (h : x.under k) (hl : x.le y) : Fz m k x y
  | list {b ver n sz : Nat} {blk : Blk} {xs : List (List PV)} (hk : k ≤ b) (hb : m[b]? = some blk) (ha : blk.alive = true) (hv : ver = blk.cur) (hc : blk.cells = (xs.flatten).map .p) (hn : xs.length = n) (hl : ∀ r ∈ xs, r.length = sz) (h1 : ∀ c ∈ blk.cells, c.one = true) :
      Fz m k (.sl b ver 0 n sz) (.p (.list sz false xs))
/-- The frame E is L, told so. -/
def Fzs (m : Mem) (k : Nat) (L : Env) : Env → Prop
  | [] => True
  | (t, x') :: E => (∃ x, L.get t = some x ∧ Fz m k x x') ∧ Fzs m k L E
theorem Fzs.get {m : Mem} {k : Nat} {L : Env} : ∀ {E : Env}, Fzs m k L E → ∀ {t : Nat} {x' : AV}, E.get t = some x' → ∃ x, L.get t = some x ∧ Fz m k x x'
  | [], _, _, _, h => by simp [Env.get] at h
  | (s, y) :: E, hs, t, x, h => by
    simp only [Env.get_cons] at h
    split at h
    · rename_i e; subst e; obtain rfl := Option.some.inj h; exact hs.1
    · exact Fzs.get hs.2 h
theorem Fz.one {m : Mem} {k : Nat} {L : Env} {t : Nat} {x : AV} (h : L.get t = some x) (hu : x.under k) : ∃ y, L.get t = some y ∧ Fz m k y x := ⟨x, h, .same hu⟩

/-- Blocks from k on are only read from now on; one dead block stands for them. -/
theorem tells_freeze {L E : Env} {m base : Mem} {c : Nat} (hpre : m.take base.length = base) (hu : munder base.length base) (hc : ∀ blk, m[base.length]? = some blk → blk.cur ≤ c) (hE : Fzs m base.length L E) : Tells N L m E (base ++ [.dead c]) := by
  intro S a h1 h2 h3
  subst h1
  have hget : ∀ {b : Nat} {blk : Blk}, base[b]? = some blk → b < base.length ∧ S.m[b]? = some blk := by
    intro b blk h
    have hlt := (List.getElem?_eq_some_iff.1 h).1
    rw [← hpre, List.getElem?_take, if_pos hlt] at h
    exact ⟨hlt, h⟩
  have hgt : ∀ {b : Nat} {blk : Blk}, S.m[b]? = some blk → b < base.length → base[b]? = some blk := by
    intro b blk h hlt
    rw [← hpre, List.getElem?_take, if_pos hlt]; exact h
  let Far : Nat → Prop := fun k => ∃ b blk, base.length ≤ b ∧ S.m[b]? = some blk ∧ blk.alive = true ∧ S.β b = k
  let S' : Setup := { S with m := base ++ [.dead c], fz := fun k => S.fz k ∨ Far k }
  have hnear : ∀ {b : Nat} {blk : Blk}, S'.m[b]? = some blk → blk.alive = true → b < base.length ∧ S.m[b]? = some blk := by
    intro b blk h ha
    rcases getElem?_snoc h with ⟨_, h'⟩ | ⟨_, rfl⟩
    · exact hget h'
    · simp [Blk.dead] at ha
  have hfarlt : ∀ k, Far k → k < S.w.heap.size := fun k ⟨b, blk, _, hb, ha, he⟩ => h2.owned_lt ⟨b, blk, hb, ha, he⟩
  have hne : ∀ {b : Nat} {blk : Blk}, b < base.length → S.m[b]? = some blk → blk.alive = true → ¬ Far (S.β b) := by
    rintro b blk hlt hb ha ⟨b', blk', hk, hb', ha', he⟩
    have := h2.inj b' b blk' blk hb' hb ha' ha he
    omega
  -- the far blocks are frozen, then dropped
  let dd : Blk → Blk := fun b => ⟨[], b.cur, false⟩
  let S1 : Setup := { S with m := base ++ (S.m.drop base.length).map dd, fz := fun k => S.fz k ∨ Far k }
  have hfz : ∀ k, S.fz k → S1.fz k ∧ S1.w.heap[k]? = S.w.heap[k]? := fun k h => ⟨.inl h, rfl⟩
  have hle : base.length ≤ S.m.length := by rw [← hpre, List.length_take]; omega
  have hm1 : ∀ {b : Nat} {blk : Blk}, S.m[b]? = some blk → (b < base.length ∧ S1.m[b]? = some blk) ∨ (base.length ≤ b ∧ S1.m[b]? = some (dd blk)) := by
    intro b blk hb
    by_cases hlt : b < base.length
    · refine .inl ⟨hlt, ?_⟩
      show (base ++ (S.m.drop base.length).map dd)[b]? = _
      rw [List.getElem?_append_left hlt]; exact hgt hb hlt
    · refine .inr ⟨by omega, ?_⟩
      show (base ++ (S.m.drop base.length).map dd)[b]? = _
      rw [List.getElem?_append_right (by omega), List.getElem?_map, List.getElem?_drop, show base.length + (b - base.length) = b by omega, hb]; rfl
  have hnear1 : ∀ {b : Nat} {blk : Blk}, S1.m[b]? = some blk → blk.alive = true → b < base.length ∧ S.m[b]? = some blk := by
    intro b blk h ha
    have h' : (base ++ (S.m.drop base.length).map dd)[b]? = some blk := h
    by_cases hlt : b < base.length
    · rw [List.getElem?_append_left hlt] at h'
      exact hget h'
    · rw [List.getElem?_append_right (by omega), List.getElem?_map] at h'
      obtain ⟨q, _, rfl⟩ := Option.map_eq_some_iff.1 h'
      simp [dd] at ha
  have hE1 : Ext S S1 := by
    refine ⟨rfl, rfl, rfl, Nat.le_refl _, fun b blk hb => ?_, hfz, fun _ _ _ => rfl, ?_, ?_⟩
    · rcases hm1 hb with ⟨_, h⟩ | ⟨_, h⟩
      · exact ⟨blk, h, Nat.le_refl _, fun h _ => ⟨h, rfl, rfl⟩⟩
      · exact ⟨dd blk, h, Nat.le_refl _, fun h _ => by simp [dd] at h⟩
    · rintro k ⟨b, blk, g1, g2, g3⟩
      obtain ⟨g4, g5⟩ := hnear1 g1 g2
      exact .inl ⟨b, blk, g5, g2, g3⟩
    · rintro k (hk | ⟨b, blk, _, hb, ha, he⟩)
      · exact .inl hk
      · exact .inr (.inl ⟨b, blk, hb, ha, he⟩)
  have htk : base = S1.m.take base.length := by show base = (base ++ _).take base.length; rw [List.take_left' rfl]
  have hcut : ∀ {x : AV} {y : Value}, x.under base.length → VR S1 x y → VR S' x y := by
    intro x y hx hy
    have e1 := VR.cut (S := S1) (S' := { S1 with m := base }) (k := base.length) rfl rfl rfl rfl htk x y hx hy
    have hE2 : Ext { S1 with m := base } S' := by
     refine ⟨rfl, rfl, rfl, Nat.le_refl _, fun b blk hb => ⟨blk, ?_, Nat.le_refl _, fun h _ => ⟨h, rfl, rfl⟩⟩, fun k h => ⟨h, rfl⟩, fun _ _ _ => rfl, ?_, fun k h => .inl h⟩
     · show (base ++ [.dead c])[b]? = _
       rw [List.getElem?_append_left (List.getElem?_eq_some_iff.1 hb).1]; exact hb
     · rintro k ⟨b, blk, g1, g2, g3⟩
       obtain ⟨g4, g5⟩ := hnear g1 g2
       exact .inl ⟨b, blk, hgt g5 g4, g2, g3⟩
    exact VR.mono hE2 x y e1
  have hlist : ∀ {xs : List (List PV)} {sz : Nat} {y : Value}, VR S1 (.p (.list sz false xs)) y → VR S' (.p (.list sz false xs)) y := fun h => hcut trivial h
  have hval : ∀ {x x' : AV} {y : Value}, Fz S.m base.length x x' → VR S x y → VR S' x' y := by
    intro x x' y hf hv
    cases hf with
    | same h => exact hcut h (VR.mono hE1 _ _ hv)
    | le h hl => exact hl _ _ (hcut h (VR.mono hE1 _ _ hv))
    | list hk hb ha hvv hcl hn hlr h1 =>
      rename_i b ver n sz blk xs
      obtain ⟨ad, cap, rfl, e2, e3, e4, blk', k1, k2, k3⟩ := hv
      rw [hb] at k1; obtain rfl := Option.some.inj k1
      obtain ⟨rfl, e8, e9⟩ := k3 ha hvv
      refine ⟨_, _, _, rfl, hn.symm, e3, e4, fun h => by simp at h, prr_of_prc rfl (.inr ⟨b, blk, hk, hb, ha, rfl⟩) hlr ?_⟩
      -- the cells themselves
      obtain ⟨⟨ys, rest, ty, g1, g2, g3⟩, g4⟩ := h2.lies b blk hb ha
      rw [hcl] at g2
      have hl' : ys.length = xs.flatten.length := by rw [g2.length, List.length_map]
      refine PRC.mk (ys := ys) rfl hl' (fun j u hj => ?_) (fun j q u hq hu => ?_) (fun u hu => ?_)
      · rw [add_eq _ rfl]
        show S.w.cell? _ = _
        simp only [World.cell?, g1, Option.isSome_none, Bool.false_eq_true, if_false, List.getElem?_toArray, Nat.zero_add]
        rw [List.getElem?_append_left (List.getElem?_eq_some_iff.1 hj).1]
        exact hj
      · exact PR.mono hfz _ _ (g2.PRs j q u hq hu)
      · obtain ⟨j, hj⟩ := List.mem_iff_getElem?.1 hu
        have hjl : j < (xs.flatten.map AV.p).length := by rw [← g2.length]; exact (List.getElem?_eq_some_iff.1 hj).1
        obtain ⟨u', q1, q2⟩ := g2.get (List.getElem?_eq_getElem hjl)
        rw [hj] at q1; obtain rfl := Option.some.inj q1
        exact VR.one (h1 _ (by rw [hcl]; exact List.getElem_mem hjl)) q2
  refine ⟨S', rfl, ⟨fun b blk hb ha => ?_, fun b d blk blk' hb hd ha ha' he => ?_, fun k hk => hk.elim (h2.fzlt k) (hfarlt k)⟩, rfl, ⟨h3.size, h3.defers, fun t x' ht => ?_⟩, fun S0 he hle => ?_⟩
  · obtain ⟨hlt, hb'⟩ := hnear hb ha
    obtain ⟨⟨ys, rest, ty, g1, g2, g3⟩, g4⟩ := h2.lies b blk hb' ha
    refine ⟨⟨ys, rest, ty, g1, VRs.mk (g2.length) fun j x y hx hy => ?_, g3⟩, fun hf => hf.elim g4 (hne hlt hb' ha)⟩
    obtain ⟨y', q1, q2⟩ := g2.get hx
    rw [hy] at q1; obtain rfl := Option.some.inj q1
    have hux : x.under base.length := by
      have hus := munder_get hu (hgt hb' hlt)
      clear g1 g2 g3 q2 hy
      have : ∀ {cs : List AV} {j : Nat}, AV.unders base.length cs → cs[j]? = some x → x.under base.length := by
        intro cs
        induction cs with
        | nil => intro j _ h; simp at h
        | cons c cs ih =>
          intro j hh h
          cases j with
          | zero => simp at h; subst h; exact hh.1
          | succ j => exact ih hh.2 (by simpa using h)
      exact this hus hx
    exact hcut hux (VR.mono hE1 _ _ q2)
  · obtain ⟨hlt, hb'⟩ := hnear hb ha
    obtain ⟨hlt', hd'⟩ := hnear hd ha'
    exact h2.inj b d blk blk' hb' hd' ha ha' he
  · obtain ⟨x, hx, hf⟩ := hE.get ht
    exact hval hf (h3.get t x hx)
  · refine ⟨he.os, he.tape, he.output, he.size, fun b blk hb => ?_, fun k hk => ⟨.inl (he.fz k hk).1, (he.fz k hk).2⟩, he.kept, ?_, ?_⟩
    · obtain ⟨blk', g1, g2, g3⟩ := he.blk b blk hb
      have hb0 : b < S0.m.length := (List.getElem?_eq_some_iff.1 hb).1
      have hle' : S0.m.length ≤ base.length + 1 := by simpa using hle
      by_cases hlt : b < base.length
      · exact ⟨blk', by show (base ++ [.dead c])[b]? = _; rw [List.getElem?_append_left hlt]; exact hgt g1 hlt, g2, g3⟩
      · obtain rfl : b = base.length := by omega
        exact ⟨.dead c, by show (base ++ [.dead c])[base.length]? = _; simp, Nat.le_trans g2 (hc _ g1), fun h _ => by simp [Blk.dead] at h⟩
    · rintro k ⟨b, blk, g1, g2, g3⟩
      obtain ⟨g4, g5⟩ := hnear g1 g2
      exact he.fresh k ⟨b, blk, g5, g2, g3⟩
    · rintro k (hk | ⟨b, blk, _, hb, ha, hk⟩)
      · exact he.thaw k hk
      · rcases he.fresh k ⟨b, blk, hb, ha, hk⟩ with h | h
        · exact .inr (.inl h)
        · exact .inr (.inr h)

/-- What is behind a loop's round: it goes on, or the loop is left. -/
def GoesM (P : Program) (N : Nat) (id : Nat) (k : List Item) (Q : QT) (I J : Env → Mem → Prop) : QT := fun e L m => match e with
  | .normal => I L m
  | .exit i => match Nat.beq i id with
    | true => J L m
    | false => match unw i k with
      | some k' => Wy P N 100000 [] [] k' L m Q
      | none => Q (.exit i) L m
  | e => Q e L m
/-- A loop, and what is known behind it. -/
theorem wloopm {b : RCode} {k k' : List Item} {L : Env} {m : Mem} {Q : QT} {σ τ : Type} (id : Nat) (hid : unw id k = some k') (E : σ → Env) (M : σ → Mem) (I : σ → Prop) (μ : σ → Nat) (s : σ) (E' : τ → Env) (M' : τ → Mem) (J : τ → Prop) (h0 : Says L (E s)) (hm : m = M s) (hI : I s)
    (hE : ∀ s, I s → Env.under (M s).length (E s)) (hM : ∀ s, I s → munder (M s).length (M s)) (hl : ∀ s', I s' → (M s).length ≤ (M s').length)
    (h : ∀ s, I s → Wy P N 100000 [] [] [.code b] (E s) (M s) (GoesM P N id k Q (fun L' m' => ∃ s', Says L' (E s') ∧ m'.take (M s').length = M s' ∧ I s' ∧ μ s' < μ s) (fun L' m' => ∃ t, J t ∧ m.length ≤ (M' t).length ∧ Tells N L' m' (E' t) (M' t))))
    (hr : ∀ t, J t → Stop P N [] [] k' (E' t) (M' t) Q) : WLoop P N b k L m Q := by
  refine .mk ?_
  show V P N (.loop b) L m _
  refine V_tell ?_
  refine V_loopT (fun n L m => ∃ s, Env.le L (E s) ∧ m = M s ∧ I s ∧ n = μ s) (μ s) ⟨s, h0.le, hm, hI, rfl⟩ ?_
  rintro n L1 m1 ⟨s1, h1, rfl, h2, rfl⟩
  have := stop_le (k := []) (C := []) h1 (Wy_sound _ _ _ _ _ _ _ (h s1 h2))
  refine V.mono this ?_
  intro e L' m' hg
  cases e with
  | normal =>
    obtain ⟨s', g1, g2, g3, g4⟩ := hg
    exact ⟨_, E s', M s', g4, ⟨s', fun t x h => ⟨x, h, AV.le.refl x⟩, rfl, g3, rfl⟩, by rw [hm]; exact hl s' g3, tells_cut g1 g2 (hE s' g3) (hM s' g3)⟩
  | exit i =>
    have hg : GoesM P N id k Q _ _ (.exit i) L' m' := hg
    simp only [GoesM] at hg
    cases hb : Nat.beq i id with
    | true =>
      rw [hb] at hg
      obtain ⟨t, g1, g2, g3⟩ := hg
      obtain rfl := Nat.eq_of_beq_eq_true hb
      exact .inr ⟨E' t, M' t, g2, g3, unw_some hid (hr t g1)⟩
    | false =>
      rw [hb] at hg
      refine .inl ?_
      show WU P N i k L' m' Q
      cases hu : unw i k with
      | some k2 => rw [hu] at hg; exact unw_some hu (Wy_sound _ _ _ _ _ _ _ hg)
      | none => rw [hu] at hg; exact unw_none hu hg
  | _ => exact .inl hg
end
end Go.Proofs.YtlkphnhlibpngaaGreat.Abs
