/- Abs, part 17: a call's contract in a small memory holds in every one: without blocks, with one block, with blocks that are only read. -/
import Derived.Test.YtlkphnhlibpngaaGreatAbsWalk
set_option linter.unusedVariables false
set_option linter.unusedSimpArgs false
namespace Go.Proofs.YtlkphnhlibpngaaGreat.Abs
open Go

mutual
theorem VR.flat {S S' : Setup} (hw : S'.w = S.w) (hf : S'.fz = S.fz) : ∀ (x : AV) (y : Value), x.under 0 → VR S x y → VR S' x y
  | .p x, y, _, h => by show PR S'.w S'.fz x y; rw [hw, hf]; exact h
  | .agg cs, y, hb, h => by obtain ⟨ys, h1, h2⟩ := h; exact ⟨ys, h1, VRs.flat hw hf cs ys hb h2⟩
  | .tup cs, y, hb, h => by obtain ⟨ys, h1, h2⟩ := h; exact ⟨ys, h1, VRs.flat hw hf cs ys hb h2⟩
  | .ptr b _ _, y, hb, h => absurd hb (Nat.not_lt_zero b)
  | .fp cs, y, _, h => by
    obtain ⟨ad, h1, h2, h3, h4⟩ := h
    exact ⟨ad, h1, h2, by rw [hf]; exact h3, by rw [hw, hf]; exact h4⟩
  | .sl b _ _ _ _, y, hb, h => absurd hb (Nat.not_lt_zero b)
  | .fn f cs, y, hb, h => by obtain ⟨ys, h1, h2⟩ := h; exact ⟨ys, h1, VRs.flat hw hf cs ys hb h2⟩
  | .iface t x, y, hb, h => by obtain ⟨z, h1, h2⟩ := h; exact ⟨z, h1, VR.flat hw hf x z hb h2⟩
theorem VRs.flat {S S' : Setup} (hw : S'.w = S.w) (hf : S'.fz = S.fz) : ∀ (xs : List AV) (ys : List Value), AV.unders 0 xs → VRs S xs ys → VRs S' xs ys
  | [], ys, _, h => h
  | x :: xs, ys, hb, h => by
    obtain ⟨z, zs, h1, h2, h3⟩ := h
    exact ⟨z, zs, h1, VR.flat hw hf x z hb.1 h2, VRs.flat hw hf xs zs hb.2 h3⟩
end

/-- Without a block: the contract holds whatever there is. -/
theorem acall_pure {P : Program} {f : FuncId} {args : List AV} {r : AV} (h : ACall P f args [] r []) (ha : AV.unders 0 args) (m : Mem) : ACall P f args m r m := by
  intro S vs hm hS hv
  subst hm
  have h0 : ({ S with m := [] } : Setup).WF := ⟨fun b blk hb => by simp at hb, fun b c blk blk' hb => by simp at hb, hS.fzlt⟩
  refine Calls.mono (h { S with m := [] } vs rfl h0 (VRs.flat (S := S) (S' := { S with m := [] }) rfl rfl args vs ha hv)) ?_
  rintro e w' ⟨S0, y, rfl, rfl, g1, g2, g3, g4⟩
  have hno : ∀ k, ¬ Setup.Owned { S with m := [] } k := fun k ⟨b, blk, hb, _⟩ => by simp at hb
  have hr : r.under 0 := by have := VR.under g4; rw [g3] at this; exact this
  have hE : Ext S { S0 with m := S.m, β := S.β, cap := S.cap } :=
    ⟨g1.os, g1.tape, g1.output, g1.size, fun b blk hb => ⟨blk, hb, Nat.le_refl _, fun h1 _ => ⟨h1, rfl, rfl⟩⟩, g1.fz, fun k hk _ => g1.kept k hk (hno k), fun k hk => .inl hk,
      fun k hk => (g1.thaw k hk).elim .inl fun h => h.elim (fun h => absurd h (hno k)) fun h => .inr (.inr h)⟩
  refine ⟨{ S0 with m := S.m, β := S.β, cap := S.cap }, y, rfl, rfl, hE, ⟨fun b blk hb ha => ?_, hS.inj, g2.fzlt⟩, rfl, VR.flat (S := S0) (S' := { S0 with m := S.m, β := S.β, cap := S.cap }) rfl rfl r y hr g4⟩
  have hl := hS.lies b blk hb ha
  have hlt : S.β b < S.w.heap.size := hS.owned_lt ⟨b, blk, hb, ha, rfl⟩
  refine hl.of_ext hE rfl rfl (g1.kept _ hlt (hno _)) fun hf => ?_
  rcases g1.thaw _ hf with h | h | h
  · exact hl.nofz h
  · exact hno _ h
  · exact absurd hlt (Nat.not_lt.2 h)

/-! ### one block, called 0 in the contract -/
mutual
def AV.mv (b : Nat) : AV → AV
  | .p x => .p x
  | .agg cs => .agg (AV.mvs b cs)
  | .tup cs => .tup (AV.mvs b cs)
  | .ptr _ ver off => .ptr b ver off
  | .fp cs => .fp cs
  | .sl _ ver off n s => .sl b ver off n s
  | .fn f cs => .fn f (AV.mvs b cs)
  | .iface t x => .iface t (AV.mv b x)
def AV.mvs (b : Nat) : List AV → List AV
  | [] => []
  | x :: xs => AV.mv b x :: AV.mvs b xs
end
mutual
theorem VR.mv {S S' : Setup} {b : Nat} {blk : Blk} (hw : S'.w = S.w) (hf : S'.fz = S.fz) (h0 : S.m = [blk]) (hb : S'.m[b]? = some blk) (hβ : S'.β b = S.β 0) (hc : S'.cap b = S.cap 0) :
    ∀ (x : AV) (y : Value), x.under 1 → (VR S x y ↔ VR S' (x.mv b) y)
  | .p x, y, _ => by show PR S.w S.fz x y ↔ PR S'.w S'.fz x y; rw [hw, hf]
  | .agg cs, y, h => by
    show (∃ ys : List Value, y = .agg ys.toArray ∧ VRs S cs ys) ↔ (∃ ys : List Value, y = .agg ys.toArray ∧ VRs S' (AV.mvs b cs) ys)
    exact exists_congr fun ys => and_congr_right fun _ => VRs.mv hw hf h0 hb hβ hc cs ys h
  | .tup cs, y, h => by
    show (∃ ys : List Value, y = .tuple ys.toArray ∧ VRs S cs ys) ↔ (∃ ys : List Value, y = .tuple ys.toArray ∧ VRs S' (AV.mvs b cs) ys)
    exact exists_congr fun ys => and_congr_right fun _ => VRs.mv hw hf h0 hb hβ hc cs ys h
  | .ptr c ver off, y, h => by
    have hc0 : c = 0 := by have : c < 1 := h; omega
    subst hc0
    simp only [VR, AV.mv, h0, hb, List.getElem?_cons_zero, hβ]
  | .fp cs, y, _ => by simp only [VR, AV.mv, hw, hf]
  | .sl c ver off n s, y, h => by
    have hc0 : c = 0 := by have : c < 1 := h; omega
    subst hc0
    simp only [VR, AV.mv, h0, hb, List.getElem?_cons_zero, hβ, hc]
  | .fn f cs, y, h => by
    show (∃ ys : List Value, y = .func (.func f) #[] ys.toArray ∧ VRs S cs ys) ↔ (∃ ys : List Value, y = .func (.func f) #[] ys.toArray ∧ VRs S' (AV.mvs b cs) ys)
    exact exists_congr fun ys => and_congr_right fun _ => VRs.mv hw hf h0 hb hβ hc cs ys h
  | .iface t x, y, h => by
    show (∃ z, y = .iface t z ∧ VR S x z) ↔ (∃ z, y = .iface t z ∧ VR S' (AV.mv b x) z)
    exact exists_congr fun z => and_congr_right fun _ => VR.mv hw hf h0 hb hβ hc x z h
theorem VRs.mv {S S' : Setup} {b : Nat} {blk : Blk} (hw : S'.w = S.w) (hf : S'.fz = S.fz) (h0 : S.m = [blk]) (hb : S'.m[b]? = some blk) (hβ : S'.β b = S.β 0) (hc : S'.cap b = S.cap 0) :
    ∀ (xs : List AV) (ys : List Value), AV.unders 1 xs → (VRs S xs ys ↔ VRs S' (AV.mvs b xs) ys)
  | [], ys, _ => Iff.rfl
  | x :: xs, ys, h => by
    show (∃ z zs, ys = z :: zs ∧ VR S x z ∧ VRs S xs zs) ↔ (∃ z zs, ys = z :: zs ∧ VR S' (AV.mv b x) z ∧ VRs S' (AV.mvs b xs) zs)
    exact exists_congr fun z => exists_congr fun zs => and_congr_right fun _ => and_congr (VR.mv hw hf h0 hb hβ hc x z h.1) (VRs.mv hw hf h0 hb hβ hc xs zs h.2)
end

theorem acall_frame {P : Program} {f : FuncId} {args : List AV} {r : AV} {blk blk' : Blk} (h : ACall P f args [blk] r [blk']) (ha : AV.unders 1 args) (hc : AV.unders 0 blk.cells) (hc' : AV.unders 0 blk'.cells) (b : Nat) (m : Mem) (hb : m[b]? = some blk) :
    ACall P f (AV.mvs b args) m (r.mv b) (m.set b blk') := by
  intro S vs hm hS hv
  subst hm
  have hlt : b < S.m.length := (List.getElem?_eq_some_iff.1 hb).1
  let S1 : Setup := { m := [blk], w := S.w, β := fun _ => S.β b, cap := fun _ => S.cap b, fz := S.fz }
  have h1 : S1.WF := by
    refine ⟨fun c bl hbl hal => ?_, fun c d bl bl' h1 h2 _ _ _ => ?_, hS.fzlt⟩
    · have : c = 0 ∧ blk = bl := by
        cases c with
        | zero => exact ⟨rfl, by simpa [S1] using hbl⟩
        | succ c => simp [S1] at hbl
      obtain ⟨rfl, rfl⟩ := this
      obtain ⟨⟨ys, rest, ty, k1, k2, k3⟩, k4⟩ := hS.lies b blk hb hal
      exact ⟨⟨ys, rest, ty, k1, VRs.flat (S := S) (S' := S1) rfl rfl _ _ hc k2, k3⟩, k4⟩
    · have e1 : c < 1 := (List.getElem?_eq_some_iff.1 h1).1
      have e2 : d < 1 := (List.getElem?_eq_some_iff.1 h2).1
      omega
  refine Calls.mono (h S1 vs rfl h1 ((VRs.mv (S := S1) (S' := S) (b := b) (blk := blk) rfl rfl rfl hb rfl rfl args vs ha).2 hv)) ?_
  rintro e w' ⟨S0, y, rfl, rfl, g1, g2, g3, g4⟩
  have hr : r.under 1 := by have := VR.under g4; rw [g3] at this; exact this
  obtain ⟨bl0, j1, j2, j3⟩ := g1.blk 0 blk rfl
  rw [g3] at j1
  obtain rfl : blk' = bl0 := by simpa using j1
  have hown : ∀ k, S1.Owned k → S.Owned k := by
    rintro k ⟨c, bl, k1, k2, k3⟩
    have hc0 : c < 1 := (List.getElem?_eq_some_iff.1 k1).1
    have : c = 0 := by omega
    subst this
    obtain rfl : blk = bl := by simpa [S1] using k1
    exact ⟨b, blk, hb, k2, k3⟩
  have hown' : ∀ k, S1.Owned k → k = S.β b ∧ blk.alive = true := by
    rintro k ⟨c, bl, k1, k2, k3⟩
    have hc0 : c < 1 := (List.getElem?_eq_some_iff.1 k1).1
    have : c = 0 := by omega
    subst this
    obtain rfl : blk = bl := by simpa [S1] using k1
    exact ⟨k3.symm, k2⟩
  have hne : ∀ {c : Nat} {bl : Blk}, S.m[c]? = some bl → bl.alive = true → c ≠ b → ¬ S1.Owned (S.β c) := by
    intro c bl k1 k2 k3 k4
    obtain ⟨k5, k6⟩ := hown' _ k4
    exact k3 (hS.inj c b bl blk k1 hb k2 k6 k5)
  let S2 : Setup := { m := S.m.set b blk', w := S0.w, β := fun c => if c = b then S0.β 0 else S.β c, cap := fun c => if c = b then S0.cap 0 else S.cap c, fz := S0.fz }
  have hget : ∀ {c : Nat} {bl : Blk}, S2.m[c]? = some bl → (c = b ∧ bl = blk') ∨ (c ≠ b ∧ S.m[c]? = some bl) := by
    intro c bl k
    by_cases h : c = b
    · subst h
      have k' : (S.m.set c blk')[c]? = some bl := k
      rw [List.getElem?_set_self hlt] at k'
      exact .inl ⟨rfl, (Option.some.inj k').symm⟩
    · have k' : (S.m.set b blk')[c]? = some bl := k
      rw [List.getElem?_set_ne (Ne.symm h)] at k'
      exact .inr ⟨h, k'⟩
  have hS0 : S0.m[0]? = some blk' := by rw [g3]; rfl
  have hE : Ext S S2 := by
    refine ⟨g1.os, g1.tape, g1.output, g1.size, fun c bl hbl => ?_, g1.fz, fun k hk hn => g1.kept k hk fun h => hn (hown k h), ?_, fun k hk => ?_⟩
    · by_cases h : c = b
      · subst h
        rw [hb] at hbl; obtain rfl := Option.some.inj hbl
        refine ⟨blk', by show (S.m.set c blk')[c]? = _; rw [List.getElem?_set_self hlt], j2, fun k1 k2 => ?_⟩
        obtain ⟨i1, i2, i3⟩ := j3 k1 k2
        exact ⟨i1, by simp [S2, i2, S1], by simp [S2, i3, S1]⟩
      · refine ⟨bl, by show (S.m.set b blk')[c]? = _; rw [List.getElem?_set_ne (Ne.symm h)]; exact hbl, Nat.le_refl _, fun k1 _ => ⟨k1, by simp [S2, h], by simp [S2, h]⟩⟩
    · rintro k ⟨c, bl, k1, k2, k3⟩
      rcases hget k1 with ⟨rfl, rfl⟩ | ⟨hcb, k4⟩
      · have k3' : S0.β 0 = k := by simpa [S2] using k3
        exact (g1.fresh k ⟨0, bl, hS0, k2, k3'⟩).imp (hown k) id
      · have k3' : S.β c = k := by simpa [S2, hcb] using k3
        exact .inl ⟨c, bl, k4, k2, k3'⟩
    · exact (g1.thaw k hk).imp id (Or.imp (hown k) id)
  refine ⟨S2, y, rfl, rfl, hE, ⟨fun c bl hbl hal => ?_, fun c d bl bl' hbc hbd p1 p2 he => ?_, g2.fzlt⟩, rfl, (VR.mv (S := S0) (S' := S2) (b := b) (blk := blk') rfl rfl g3 (by show (S.m.set b blk')[b]? = _; rw [List.getElem?_set_self hlt]) (by simp [S2]) (by simp [S2]) r y hr).1 g4⟩
  · rcases hget hbl with ⟨rfl, rfl⟩ | ⟨hcb, k4⟩
    · obtain ⟨⟨ys, rest, ty, k1, k2, k3⟩, k5⟩ := g2.lies 0 bl hS0 hal
      exact ⟨⟨ys, rest, ty, by simpa [S2] using k1, VRs.flat (S := S0) (S' := S2) rfl rfl _ _ hc' k2, by simpa [S2] using k3⟩, by simpa [S2] using k5⟩
    · have hl := hS.lies c bl k4 hal
      have hlt' : S.β c < S.w.heap.size := hS.owned_lt ⟨c, bl, k4, hal, rfl⟩
      refine hl.of_ext hE (by simp [S2, hcb]) (by simp [S2, hcb]) (g1.kept _ hlt' (hne k4 hal hcb)) fun hf => ?_
      rcases g1.thaw _ hf with h | h | h
      · exact hl.nofz h
      · exact hne k4 hal hcb h
      · exact absurd hlt' (Nat.not_lt.2 h)
  · have key : ∀ (d : Nat) (bl' : Blk), S.m[d]? = some bl' → bl'.alive = true → d ≠ b → blk'.alive = true → S0.β 0 ≠ S.β d := by
      intro d bl' k1 k2 k3 k4 k5
      rcases g1.fresh (S.β d) ⟨0, blk', hS0, k4, k5⟩ with h | h
      · exact hne k1 k2 k3 h
      · exact absurd (hS.owned_lt ⟨d, bl', k1, k2, rfl⟩) (Nat.not_lt.2 h)
    rcases hget hbc with ⟨rfl, rfl⟩ | ⟨hcb, k1⟩
    · rcases hget hbd with ⟨rfl, rfl⟩ | ⟨hdb, k2⟩
      · rfl
      · exact absurd (by simpa [S2, hdb] using he) (key d bl' k2 p2 hdb p1)
    · rcases hget hbd with ⟨rfl, rfl⟩ | ⟨hdb, k2⟩
      · exact absurd (by simpa [S2, hcb] using he.symm) (key c bl k1 p1 hcb p2)
      · exact hS.inj c d bl bl' k1 k2 p1 p2 (by simpa [S2, hcb, hdb] using he)

/-- One that leaves the block as it was. -/
theorem acall_look {P : Program} {f : FuncId} {args : List AV} {r : AV} {blk : Blk} (h : ACall P f args [blk] r [blk]) (ha : AV.unders 1 args) (hc : AV.unders 0 blk.cells) (b : Nat) (m : Mem) (hb : m[b]? = some blk) : ACall P f (AV.mvs b args) m (r.mv b) m := by
  have := acall_frame h ha hc hc b m hb
  rwa [show m.set b blk = m from by
    apply List.ext_getElem?
    intro j
    by_cases hj : b = j
    · subst hj; rw [List.getElem?_set_self (List.getElem?_eq_some_iff.1 hb).1, hb]
    · rw [List.getElem?_set_ne hj]] at this

/-- One that makes a block. -/
theorem acall_new {P : Program} {f : FuncId} {args : List AV} {r : AV} {blk : Blk} (h : ACall P f args [] r [blk]) (ha : AV.unders 0 args) (hc : AV.unders 0 blk.cells) (m : Mem) : ACall P f args m (r.mv m.length) (m ++ [blk]) := by
  intro S vs hm hS hv
  subst hm
  let S1 : Setup := { S with m := [] }
  have h1 : S1.WF := ⟨fun b blk hb => by simp [S1] at hb, fun b c blk blk' hb => by simp [S1] at hb, hS.fzlt⟩
  refine Calls.mono (h S1 vs rfl h1 (VRs.flat (S := S) (S' := S1) rfl rfl args vs ha hv)) ?_
  rintro e w' ⟨S0, y, rfl, rfl, g1, g2, g3, g4⟩
  have hno : ∀ k, ¬ Setup.Owned S1 k := fun k ⟨b, blk, hb, _⟩ => by simp [S1] at hb
  have hr : r.under 1 := by have := VR.under g4; rw [g3] at this; exact this
  have hS0 : S0.m[0]? = some blk := by rw [g3]; rfl
  let n := S.m.length
  let S2 : Setup := { m := S.m ++ [blk], w := S0.w, β := fun c => if c = n then S0.β 0 else S.β c, cap := fun c => if c = n then S0.cap 0 else S.cap c, fz := S0.fz }
  have hget : ∀ {c : Nat} {bl : Blk}, S2.m[c]? = some bl → (c = n ∧ bl = blk) ∨ (c ≠ n ∧ S.m[c]? = some bl) := by
    intro c bl k
    have k' : (S.m ++ [blk])[c]? = some bl := k
    by_cases hlt : c < S.m.length
    · rw [List.getElem?_append_left hlt] at k'
      exact .inr ⟨by show c ≠ S.m.length; omega, k'⟩
    · rw [List.getElem?_append_right (by omega)] at k'
      have hlt2 := (List.getElem?_eq_some_iff.1 k').1
      simp at hlt2
      have : c = S.m.length := by omega
      subst this
      simp at k'
      exact .inl ⟨rfl, k'.symm⟩
  have hlast : S2.m[n]? = some blk := by show (S.m ++ [blk])[S.m.length]? = _; simp
  have hold : ∀ {c : Nat} {bl : Blk}, S.m[c]? = some bl → c ≠ n := fun h => by
    have := (List.getElem?_eq_some_iff.1 h).1
    show _ ≠ S.m.length
    omega
  have hE : Ext S S2 := by
    refine ⟨g1.os, g1.tape, g1.output, g1.size, fun c bl hbl => ?_, g1.fz, fun k hk hn => g1.kept k hk (hno k), ?_, fun k hk => ?_⟩
    · have hcn := hold hbl
      exact ⟨bl, by show (S.m ++ [blk])[c]? = _; rw [List.getElem?_append_left (List.getElem?_eq_some_iff.1 hbl).1]; exact hbl, Nat.le_refl _, fun k1 _ => ⟨k1, by simp [S2, hcn], by simp [S2, hcn]⟩⟩
    · rintro k ⟨c, bl, k1, k2, k3⟩
      rcases hget k1 with ⟨rfl, rfl⟩ | ⟨hcb, k4⟩
      · have k3' : S0.β 0 = k := by simpa [S2] using k3
        exact (g1.fresh k ⟨0, bl, hS0, k2, k3'⟩).elim (fun h => absurd h (hno k)) .inr
      · have k3' : S.β c = k := by simpa [S2, hcb] using k3
        exact .inl ⟨c, bl, k4, k2, k3'⟩
    · exact (g1.thaw k hk).elim .inl fun h => h.elim (fun h => absurd h (hno k)) fun h => .inr (.inr h)
  refine ⟨S2, y, rfl, rfl, hE, ⟨fun c bl hbl hal => ?_, fun c d bl bl' hbc hbd p1 p2 he => ?_, g2.fzlt⟩, rfl, (VR.mv (S := S0) (S' := S2) (b := n) (blk := blk) rfl rfl g3 hlast (by simp [S2]) (by simp [S2]) r y hr).1 g4⟩
  · rcases hget hbl with ⟨rfl, rfl⟩ | ⟨hcb, k4⟩
    · obtain ⟨⟨ys, rest, ty, k1, k2, k3⟩, k5⟩ := g2.lies 0 bl hS0 hal
      exact ⟨⟨ys, rest, ty, by simpa [S2] using k1, VRs.flat (S := S0) (S' := S2) rfl rfl _ _ hc k2, by simpa [S2] using k3⟩, by simpa [S2] using k5⟩
    · have hl := hS.lies c bl k4 hal
      have hlt' : S.β c < S.w.heap.size := hS.owned_lt ⟨c, bl, k4, hal, rfl⟩
      refine hl.of_ext hE (by simp [S2, hcb]) (by simp [S2, hcb]) (g1.kept _ hlt' (hno _)) fun hf => ?_
      rcases g1.thaw _ hf with h | h | h
      · exact hl.nofz h
      · exact hno _ h
      · exact absurd hlt' (Nat.not_lt.2 h)
  · have key : ∀ (d : Nat) (bl' : Blk), S.m[d]? = some bl' → bl'.alive = true → blk.alive = true → S0.β 0 ≠ S.β d := by
      intro d bl' k1 k2 k4 k5
      rcases g1.fresh (S.β d) ⟨0, blk, hS0, k4, k5⟩ with h | h
      · exact hno _ h
      · exact absurd (hS.owned_lt ⟨d, bl', k1, k2, rfl⟩) (Nat.not_lt.2 h)
    rcases hget hbc with ⟨rfl, rfl⟩ | ⟨hcb, k1⟩
    · rcases hget hbd with ⟨rfl, rfl⟩ | ⟨hdb, k2⟩
      · rfl
      · exact absurd (by simpa [S2, hdb] using he) (key d bl' k2 p2 p1)
    · rcases hget hbd with ⟨rfl, rfl⟩ | ⟨hdb, k2⟩
      · exact absurd (by simpa [S2, hcb] using he.symm) (key c bl k1 p1 p2)
      · exact hS.inj c d bl bl' k1 k2 p1 p2 (by simpa [S2, hcb, hdb] using he)

/-- One block alone is handed back. -/
theorem Gives.pick {m : Mem} {b ver off : Nat} {blk : Blk} (hb : m[b]? = some blk) (hc : AV.unders 0 blk.cells) : Gives 0 m (.ptr b ver off) [blk] (.ptr 0 ver off) := by
  intro S y hm hS hv
  subst hm
  let S1 : Setup := { m := [blk], w := S.w, β := fun _ => S.β b, cap := fun _ => S.cap b, fz := S.fz }
  have h0 : ∀ {c : Nat} {bl : Blk}, S1.m[c]? = some bl → c = 0 ∧ blk = bl := by
    intro c bl h
    cases c with
    | zero => exact ⟨rfl, by simpa [S1] using h⟩
    | succ c => simp [S1] at h
  refine ⟨S1, rfl, ⟨fun c bl hbl hal => ?_, fun c d bl bl' h1 h2 _ _ _ => ?_, hS.fzlt⟩, rfl, (VR.mv (S := S1) (S' := S) (b := b) (blk := blk) rfl rfl rfl hb rfl rfl (.ptr 0 ver off) y Nat.one_pos).2 hv, fun S0 he hle => ?_⟩
  · obtain ⟨rfl, rfl⟩ := h0 hbl
    obtain ⟨⟨ys, rest, ty, k1, k2, k3⟩, k4⟩ := hS.lies b blk hb hal
    exact ⟨⟨ys, rest, ty, k1, VRs.flat (S := S) (S' := S1) rfl rfl _ _ hc k2, k3⟩, k4⟩
  · rw [(h0 h1).1, (h0 h2).1]
  · have hno : ∀ (c : Nat) (bl : Blk), ¬ S0.m[c]? = some bl := fun c bl h => by
      have := (List.getElem?_eq_some_iff.1 h).1
      omega
    refine ⟨he.os, he.tape, he.output, he.size, fun c bl hbl => absurd hbl (hno c bl), he.fz, he.kept, ?_, he.thaw⟩
    rintro k ⟨c, bl, g1, g2, g3⟩
    obtain ⟨rfl, rfl⟩ := h0 g1
    exact he.fresh k ⟨b, blk, hb, g2, g3⟩

/-! ### blocks that are only read -/
mutual
/-- What is told of a value when nothing is written any more. -/
inductive View (m : Mem) : AV → AV → Prop
  | p (x : PV) : View m (.p x) (.p x)
  | agg {cs ds : List AV} (h : Views m cs ds) : View m (.agg cs) (.agg ds)
  | fp (cs : List PV) : View m (.fp cs) (.fp cs)
  | ptr {b ver off : Nat} {blk : Blk} {cs : List PV} (hb : m[b]? = some blk) (ha : blk.alive = true) (hv : ver = blk.cur) (hc : blk.cells = cs.map .p) (ho : off ≤ cs.length) (h1 : ∀ c ∈ blk.cells, c.one = true) : View m (.ptr b ver off) (.fp (cs.drop off))
  | sl {b ver n sz : Nat} {blk : Blk} {xs : List (List PV)} (hb : m[b]? = some blk) (ha : blk.alive = true) (hv : ver = blk.cur) (hc : blk.cells = (xs.flatten).map .p) (hn : xs.length = n) (hl : ∀ r ∈ xs, r.length = sz) (h1 : ∀ c ∈ blk.cells, c.one = true) :
      View m (.sl b ver 0 n sz) (.p (.list sz false xs))
  | fn (f : FuncId) {cs ds : List AV} (h : Views m cs ds) : View m (.fn f cs) (.fn f ds)
inductive Views (m : Mem) : List AV → List AV → Prop
  | nil : Views m [] []
  | cons {x y : AV} {xs ys : List AV} (h : View m x y) (hs : Views m xs ys) : Views m (x :: xs) (y :: ys)
end
mutual
/-- Leads nowhere. -/
def AV.plain : AV → Prop
  | .p (.v _) => True
  | .tup cs => AV.plains cs
  | .agg cs => AV.plains cs
  | _ => False
def AV.plains : List AV → Prop
  | [] => True
  | x :: xs => AV.plain x ∧ AV.plains xs
end
mutual
theorem VR.plain {S S' : Setup} : ∀ (x : AV) (y : Value), x.plain → VR S x y → VR S' x y
  | .p (.v _), y, _, h => h
  | .p (.list _ _ _), y, hp, _ => hp.elim
  | .agg cs, y, hp, h => by obtain ⟨ys, h1, h2⟩ := h; exact ⟨ys, h1, VRs.plain cs ys hp h2⟩
  | .tup cs, y, hp, h => by obtain ⟨ys, h1, h2⟩ := h; exact ⟨ys, h1, VRs.plain cs ys hp h2⟩
  | .ptr _ _ _, _, hp, _ => hp.elim
  | .fp _, _, hp, _ => hp.elim
  | .sl _ _ _ _ _, _, hp, _ => hp.elim
  | .fn _ _, _, hp, _ => hp.elim
  | .iface _ _, _, hp, _ => hp.elim
theorem VRs.plain {S S' : Setup} : ∀ (xs : List AV) (ys : List Value), AV.plains xs → VRs S xs ys → VRs S' xs ys
  | [], ys, _, h => h
  | x :: xs, ys, hb, h => by
    obtain ⟨z, zs, h1, h2, h3⟩ := h
    exact ⟨z, zs, h1, VR.plain x z hb.1 h2, VRs.plain xs zs hb.2 h3⟩
end
/-- All that is written is only read from now on. -/
def Setup.froze (S : Setup) : Setup := { S with m := [], fz := fun k => S.fz k ∨ S.Owned k }
theorem Setup.froze_fz (S : Setup) (k : Nat) (h : S.fz k) : S.froze.fz k ∧ S.froze.w.heap[k]? = S.w.heap[k]? := ⟨.inl h, rfl⟩
/-- The cells of a living block. -/
theorem lies_cells {S : Setup} (hS : S.WF) {b : Nat} {blk : Blk} {cs : List PV} (hb : S.m[b]? = some blk) (ha : blk.alive = true) (hc : blk.cells = cs.map .p) (h1 : ∀ c ∈ blk.cells, c.one = true) :
    PRC S.froze.w S.froze.fz cs ⟨S.β b, 0, none⟩ := by
  obtain ⟨⟨ys, rest, ty, g1, g2, g3⟩, g4⟩ := hS.lies b blk hb ha
  rw [hc] at g2
  have hl : ys.length = cs.length := by rw [g2.length]; simp
  refine PRC.mk (ys := ys) rfl hl (fun j u hj => ?_) (fun j c u hc' hu => ?_) (fun u hu => ?_)
  · rw [add_eq _ rfl]
    show S.w.cell? _ = _
    simp only [World.cell?, g1, Option.isSome_none, Bool.false_eq_true, if_false, List.getElem?_toArray, Nat.zero_add]
    rw [List.getElem?_append_left (List.getElem?_eq_some_iff.1 hj).1]
    exact hj
  · exact PR.mono S.froze_fz _ _ (g2.PRs j c u hc' hu)
  · obtain ⟨j, hj⟩ := List.mem_iff_getElem?.1 hu
    have hjl : j < (cs.map AV.p).length := by rw [← g2.length]; exact (List.getElem?_eq_some_iff.1 hj).1
    obtain ⟨u', k1, k2⟩ := g2.get (List.getElem?_eq_getElem hjl)
    rw [hj] at k1; obtain rfl := Option.some.inj k1
    exact VR.one (h1 _ (by rw [hc]; exact List.getElem_mem hjl)) k2
theorem prr_of_prc {w : World} {fz : Nat → Prop} {sz : Nat} : ∀ {xs : List (List PV)} {ad : Addr}, ad.spot = none → fz ad.block → (∀ r ∈ xs, r.length = sz) → PRC w fz xs.flatten ad → PRR w fz sz xs (some ad)
  | [], _, _, _, _, _ => trivial
  | x :: xs, ad, hs, hf, hl, h => by
    rw [List.flatten_cons] at h
    have hx := hl x (by simp)
    have h1 := PRC.take x.length h
    have h2 := PRC.drop x.length hs h
    rw [List.take_left' rfl] at h1
    rw [List.drop_left' rfl, hx] at h2
    exact ⟨ad, rfl, hs, hf, hx, h1, prr_of_prc (add_spot _ hs) (by rw [add_block]; exact hf) (fun r hr => hl r (by simp [hr])) h2⟩
mutual
theorem View.sound {S : Setup} (hS : S.WF) : ∀ {x x' : AV}, View S.m x x' → ∀ {y : Value}, VR S x y → VR S.froze x' y
  | _, _, .p x, y, h => PR.mono S.froze_fz x y h
  | _, _, .agg hv, y, h => by obtain ⟨ys, h1, h2⟩ := h; exact ⟨ys, h1, Views.sound hS hv h2⟩
  | _, _, .fp cs, y, h => by
    obtain ⟨ad, h1, h2, h3, h4⟩ := h
    exact ⟨ad, h1, h2, .inl h3, PRC.mono S.froze_fz cs ad h3 h4⟩
  | _, _, .ptr (b := b) (off := off) (blk := blk) (cs := cs) hb ha hv hc ho h1, y, h => by
    obtain ⟨_, blk', k1, k2, k3⟩ := h
    rw [hb] at k1; obtain rfl := Option.some.inj k1
    have := lies_cells hS hb ha hc h1
    have h3 := PRC.drop off rfl this
    rw [add_eq _ rfl, Nat.zero_add] at h3
    exact ⟨_, k3 ha hv, rfl, .inr ⟨b, blk, hb, ha, rfl⟩, h3⟩
  | _, _, .sl (b := b) (blk := blk) (xs := xs) hb ha hv hc hn hl h1, y, h => by
    obtain ⟨ad, cap, rfl, e2, e3, e4, blk', k1, k2, k3⟩ := h
    rw [hb] at k1; obtain rfl := Option.some.inj k1
    obtain ⟨rfl, e8, e9⟩ := k3 ha hv
    exact ⟨_, _, _, rfl, hn.symm, e3, e4, fun h => by simp at h, prr_of_prc rfl (.inr ⟨b, blk, hb, ha, rfl⟩) hl (lies_cells hS hb ha hc h1)⟩
  | _, _, .fn f hv, y, h => by obtain ⟨ys, h1, h2⟩ := h; exact ⟨ys, h1, Views.sound hS hv h2⟩
theorem Views.sound {S : Setup} (hS : S.WF) : ∀ {xs xs' : List AV}, Views S.m xs xs' → ∀ {ys : List Value}, VRs S xs ys → VRs S.froze xs' ys
  | _, _, .nil, ys, h => h
  | _, _, .cons hv hvs, ys, h => by
    obtain ⟨z, zs, h1, h2, h3⟩ := h
    exact ⟨z, zs, h1, View.sound hS hv h2, Views.sound hS hvs h3⟩
end

theorem acall_view {P : Program} {f : FuncId} {args args' : List AV} {r : AV} {m : Mem} (hv : Views m args args') (hr : r.plain) (h : ACall P f args' [] r []) : ACall P f args m r m := by
  intro S vs hm hS hvs
  subst hm
  have h0 : S.froze.WF := ⟨fun b blk hb => by simp [Setup.froze] at hb, fun b c blk blk' hb => by simp [Setup.froze] at hb, fun k hk => hk.elim (hS.fzlt k) hS.owned_lt⟩
  refine Calls.mono (h S.froze vs rfl h0 (Views.sound hS hv hvs)) ?_
  rintro e w' ⟨S0, y, rfl, rfl, g1, g2, g3, g4⟩
  have hno : ∀ k, ¬ Setup.Owned S.froze k := fun k ⟨b, blk, hb, _⟩ => by simp [Setup.froze] at hb
  have hnf : ∀ k, S.fz k → ¬ S.Owned k := by
    rintro k hk ⟨b, blk, k1, k2, rfl⟩
    exact (hS.lies b blk k1 k2).nofz hk
  have hE : Ext S { m := S.m, w := S0.w, β := S.β, cap := S.cap, fz := fun k => S0.fz k ∧ ¬ S.Owned k } :=
    ⟨g1.os, g1.tape, g1.output, g1.size, fun b blk hb => ⟨blk, hb, Nat.le_refl _, fun h1 _ => ⟨h1, rfl, rfl⟩⟩, fun k hk => ⟨⟨(g1.fz k (.inl hk)).1, hnf k hk⟩, (g1.fz k (.inl hk)).2⟩, fun k hk _ => g1.kept k hk (hno k), fun k hk => .inl hk,
      fun k hk => by
        rcases g1.thaw k hk.1 with h | h | h
        · exact h.elim .inl fun h => .inr (.inl h)
        · exact absurd h (hno k)
        · exact .inr (.inr h)⟩
  refine ⟨{ m := S.m, w := S0.w, β := S.β, cap := S.cap, fz := fun k => S0.fz k ∧ ¬ S.Owned k }, y, rfl, rfl, hE, ⟨fun b blk hb ha => ?_, hS.inj, fun k hk => g2.fzlt k hk.1⟩, rfl, VR.plain r y hr g4⟩
  have hl := hS.lies b blk hb ha
  have hlt : S.β b < S.w.heap.size := hS.owned_lt ⟨b, blk, hb, ha, rfl⟩
  exact hl.of_ext hE rfl rfl (g1.kept _ hlt (hno _)) fun hf => hf.2 ⟨b, blk, hb, ha, rfl⟩

/-- An empty list: whether it is nil is told. -/
theorem acall_nil {P : Program} {f : FuncId} {s : Nat} {t : Bool} {r : AV} {m m' : Mem} (h : ∀ a c, ACall P f [.p (.v (.slice a 0 c))] m r m') : ACall P f [.p (.list s t [])] m r m' := by
  intro S vs h1 h2 h3
  obtain ⟨z, zs, rfl, ⟨a, len, cap, rfl, hl, _⟩, rfl⟩ := h3
  obtain rfl : len = 0 := hl
  exact h a cap S _ h1 h2 ⟨_, [], rfl, rfl, rfl⟩
/-- What is told of a result may be less. -/
theorem acall_le {P : Program} {f : FuncId} {args : List AV} {r r' : AV} {m m' : Mem} (hr : r.le r') (h : ACall P f args m r m') : ACall P f args m r' m' := by
  intro S vs h1 h2 h3
  refine Calls.mono (h S vs h1 h2 h3) ?_
  rintro e w' ⟨S', y, k1, k2, k3, k4, k5, k6⟩
  exact ⟨S', y, k1, k2, k3, k4, k5, hr _ _ k6⟩
/-- What is told of the arguments may be more. -/
inductive AVs.le : List AV → List AV → Prop
  | nil : AVs.le [] []
  | cons {x y : AV} {xs ys : List AV} (h : x.le y) (hs : AVs.le xs ys) : AVs.le (x :: xs) (y :: ys)
theorem AVs.le.refl : ∀ xs : List AV, AVs.le xs xs
  | [] => .nil
  | x :: xs => .cons (AV.le.refl x) (AVs.le.refl xs)
theorem AVs.le.VRs {S : Setup} : ∀ {xs ys : List AV}, AVs.le xs ys → ∀ {vs : List Value}, VRs S xs vs → VRs S ys vs
  | _, _, .nil, vs, h => h
  | _, _, .cons h hs, vs, hv => by
    obtain ⟨z, zs, e, h1, h2⟩ := hv
    exact ⟨z, zs, e, h _ _ h1, hs.VRs h2⟩
theorem AV.le.agg {xs ys : List AV} (h : AVs.le xs ys) : (AV.agg xs).le (.agg ys) := fun S y hy => by
  obtain ⟨zs, e, h1⟩ := hy
  exact ⟨zs, e, h.VRs h1⟩
theorem AV.le.tup {xs ys : List AV} (h : AVs.le xs ys) : (AV.tup xs).le (.tup ys) := fun S y hy => by
  obtain ⟨zs, e, h1⟩ := hy
  exact ⟨zs, e, h.VRs h1⟩
theorem acall_args {P : Program} {f : FuncId} {args args' : List AV} {r : AV} {m m' : Mem} (ha : AVs.le args args') (h : ACall P f args' m r m') : ACall P f args m r m' :=
  fun S vs h1 h2 h3 => h S vs h1 h2 (ha.VRs h3)
theorem le_nil (s s' : Nat) (t : Bool) : (AV.p (.list s t [])).le (.p (.list s' false [])) := fun S y hy => by
  obtain ⟨a, len, cap, e, hl, h1, h2, h3, h4⟩ := hy
  exact ⟨a, len, cap, e, hl, h1, h2, fun h => by simp at h, trivial⟩
theorem le_list (s : Nat) (t : Bool) (xs : List (List PV)) : (AV.p (.list s t xs)).le (.p (.list s false xs)) := fun S y hy => by
  obtain ⟨a, len, cap, e, hl, h1, h2, h3, h4⟩ := hy
  exact ⟨a, len, cap, e, hl, h1, h2, fun h => by simp at h, h4⟩
theorem le_nils (a : Option Addr) (c : Nat) (s' : Nat) (S : Setup) (y : Value) (hc : 0 ≤ c) (h : VR S (.p (.v (.slice a 0 c))) y) : VR S (.p (.list s' false [])) y :=
  ⟨a, 0, c, h, rfl, hc, Nat.zero_le _, fun h => by simp at h, trivial⟩
/-- What the arguments show. -/
theorem acall_fact {P : Program} {f : FuncId} {args : List AV} {m m' : Mem} {r : AV} {F : Prop} (hF : ∀ S vs, S.m = m → S.WF → VRs S args vs → F) (h : F → ACall P f args m r m') : ACall P f args m r m' :=
  fun S vs h1 h2 h3 => h (hF S vs h1 h2 h3) S vs h1 h2 h3
end Go.Proofs.YtlkphnhlibpngaaGreat.Abs
