/- Abs, part 8: slicing, append; all operations but calls in one theorem. -/
import Derived.Test.YtlkphnhlibpngaaGreatAbsSound4
set_option linter.unusedVariables false
set_option linter.unusedSimpArgs false
namespace Go.Proofs.YtlkphnhlibpngaaGreat.Abs
open Go

section
variable {P : Program} {o : Oper} {a : Act} {S : Setup} {L : Env} {x : AV} {m' : Mem}

theorem run_bound {d y : Nat} {z : Option Operand} {n : Nat} {code : BoundsCode} (hg : ∀ q, z = some q → Good S L a q) (h : bound? L d z = some n) (hy : n ≤ y) :
    (z = none ∧ n = d) ∨ ∃ q, z = some q ∧ (Instr.sliceBound (a.eval q) y code).run P S.w = .ok n S.w := by
  unfold bound? at h
  split at h
  · exact .inl ⟨rfl, (Option.some.inj h).symm⟩
  · rename_i q
    split at h
    · rename_i k i e1
      split at h
      · rename_i h0
        obtain rfl := Option.some.inj h
        have hv := VR.v (hg q rfl _ e1)
        have hi : ((i.toNat : Nat) : Int) = i := Int.toNat_of_nonneg h0
        refine .inr ⟨q, rfl, ?_⟩
        rw [hv]
        have hle : i ≤ (y : Int) := by rw [← hi]; exact_mod_cast hy
        simp [Instr.sliceBound, asIntOf, h0, hle]
      · simp at h
    · simp at h

theorem run_slice {t e : TypeId} {i : TypeInfo} (hu : P.underlying t = some (.slice e)) (hi : P.info? e = some i) {A : Option Addr} {len cap l h : Nat} {lo hi' : Option Operand} (h1 : ∀ q, lo = some q → Good S L a q)
    (h2 : ∀ q, hi' = some q → Good S L a q) (hl : bound? L 0 lo = some l) (hh : bound? L len hi' = some h) (hlh : l ≤ h) (hc : h ≤ cap) :
    (Instr.sliceAt t (.slice A len cap) (lo.map a.eval) (hi'.map a.eval) none).run P S.w = .ok (.slice (if cap = l then A else A.map (·.add (l * i.size))) (h - l) (cap - l)) S.w := by
  have hs : ∀ x, (Instr.sliceAt t x (lo.map a.eval) (hi'.map a.eval) none).run P S.w = (Instr.slice t x (lo.map a.eval) (hi'.map a.eval) none).run P S.w := by
    intro x; unfold Instr.sliceAt; simp only [Sem.run_bind, run_underlying hu, Result.andThen_ok]
  rw [hs]
  unfold Instr.slice
  simp only [Sem.run_bind, run_underlying hu, Result.andThen_ok]
  have hb : (Instr.sliceBounds true len cap (lo.map a.eval) (hi'.map a.eval) none).run P S.w = .ok (l, h, cap) S.w := by
    unfold Instr.sliceBounds
    rcases run_bound (P := P) (S := S) (code := .sliceAcap) (y := cap) h2 hh hc with ⟨rfl, rfl⟩ | ⟨q, rfl, e2⟩ <;>
      rcases run_bound (P := P) (S := S) (code := .sliceB) (y := h) h1 hl hlh with ⟨rfl, rfl⟩ | ⟨q', rfl, e2'⟩ <;>
      simp [*]
  simp [hb, sizeOf, typeInfo, hi]

theorem sound_slc {t e : TypeId} {i : TypeInfo} {z : Operand} {lo hi' : Option Operand} (ho : o.op = .slice t z lo hi' none) (hu : P.underlying t = some (.slice e)) (hi : P.info? e = some i) (hS : S.WF) (hg : Good S L a z)
    (h1 : ∀ q, lo = some q → Good S L a q) (h2 : ∀ q, hi' = some q → Good S L a q) (h : aop L S.m (.slc i.size z lo hi') = some (x, m')) : Did P o a.eval S x m' := by
  simp only [aop] at h
  split at h
  case h_2 => simp at h
  rename_i v hv
  split at h
  case h_2 => simp at h
  rename_i hh ll e1 e2
  simp only [Option.bind_eq_some_iff] at e1
  obtain ⟨n, e0, e1⟩ := e1
  simp only [Option.map_eq_some_iff, Prod.mk.injEq] at h
  obtain ⟨r, h, rfl, rfl⟩ := h
  unfold sliceAV at h
  split at h
  · rename_i s tt xs
    split at h
    case isFalse => simp at h
    rename_i hc
    obtain ⟨c1, c2, c3⟩ := hc
    obtain rfl := Option.some.inj h
    simp only [lenAV, Option.some.injEq] at e0
    subst e0
    obtain ⟨A, len, cap, he, rfl, k1, k2, k3, k4⟩ := hg _ hv
    have hrun := run_slice (P := P) (S := S) hu hi (A := A) (len := xs.length) (cap := cap) h1 h2 e2 e1 c1 (by omega)
    refine Did.same hS (by simp only [execOp, ho, he, Option.map_none, Sem.run_bind, hrun, Result.andThen_ok, Sem.run_pure]; rfl) rfl ⟨_, _, _, rfl, by simp; omega, by omega, by omega, ?_, ?_⟩
    · intro ht
      simp only [Bool.and_eq_true, beq_iff_eq] at ht
      have := k3 ht.1
      omega
    · by_cases hlt : ll < hh
      · rw [if_neg (by omega)]
        have hg0 := (k4.take hh)
        cases A with
        | none =>
          have : xs = [] := by
            cases xs with
            | nil => rfl
            | cons x xs => obtain ⟨ad, h', _⟩ := k4; cases h'
          subst this; simp at c2; omega
        | some ad =>
          have hsp : ad.spot = none := by
            cases xs with
            | nil => simp at c2; omega
            | cons x xs => obtain ⟨ad', h', hs, _⟩ := k4; obtain rfl := Option.some.inj h'; exact hs
          have hss : s = i.size := by
            rcases c3 with rfl | c3
            · simp at c2; omega
            · exact c3
          subst hss
          exact (PRR.drop ll hsp hg0)
      · have : (xs.take hh).drop ll = [] := by
          apply List.drop_eq_nil_of_le; simp; omega
        rw [this]; trivial
  · rename_i b ver off n' s
    split at h
    case isFalse => simp at h
    rename_i hc
    obtain ⟨c1, c2, rfl⟩ := hc
    simp only [lenAV, Option.some.injEq] at e0
    subst e0
    obtain ⟨ad, cap, he, k1, k2, k3, blk, k4, k5, k6⟩ := hg _ hv
    have hrun := run_slice (P := P) (S := S) hu hi (A := some ad) (len := n') (cap := cap) h1 h2 e2 e1 c1 (by omega)
    have hr : (execOp a.eval o).run P S.w = .ok (.value (.slice (if cap = ll then some ad else (some ad).map (·.add (ll * i.size))) (hh - ll) (cap - ll))) S.w := by
      simp only [execOp, ho, he, Option.map_none, Sem.run_bind, hrun, Result.andThen_ok, Sem.run_pure]
    split at h
    · rename_i heq
      subst heq
      obtain rfl := Option.some.inj h
      exact Did.same hS hr rfl ⟨_, _, _, rfl, by simp, by omega, by omega, fun ht => by simp at ht, trivial⟩
    · rename_i hne
      obtain rfl := Option.some.inj h
      rw [if_neg (by omega)] at hr
      refine Did.same hS hr rfl ⟨ad.add (ll * i.size), cap - ll, rfl, add_spot _ k1, by omega, by omega, blk, k4, k5, fun ha hv' => ?_⟩
      obtain ⟨rfl, g2, g3⟩ := k6 ha hv'
      refine ⟨by rw [add_eq _ rfl], ?_, by omega⟩
      have : ll * i.size + (cap - ll) * i.size = cap * i.size := by rw [← Nat.add_mul]; congr 1; omega
      show off + ll * i.size + (cap - ll) * i.size ≤ S.cap b
      omega
  · simp at h

/-! ### append -/
theorem flatten_len {α : Type} {sz : Nat} : ∀ {xs : List (List α)}, (∀ r ∈ xs, r.length = sz) → xs.flatten.length = xs.length * sz
  | [], _ => by simp
  | x :: xs, h => by
    rw [List.flatten_cons, List.length_append, h x (by simp), flatten_len (fun r hr => h r (by simp [hr])), List.length_cons, Nat.succ_mul, Nat.add_comm]

theorem PRR.flat {w : World} {fz : Nat → Prop} {sz : Nat} : ∀ {xs : List (List PV)} {ad : Addr}, ad.spot = none → PRR w fz sz xs (some ad) → (∀ r ∈ xs, r.length = sz) ∧
    ∃ ys : List Value, ys.length = xs.length * sz ∧ (∀ (j : Nat) u, ys[j]? = some u → w.cell? (ad.add j) = some u) ∧ (∀ (j : Nat) c u, xs.flatten[j]? = some c → ys[j]? = some u → PR w fz c u) ∧ (∀ u ∈ ys, u.oneCell' = true)
  | [], _, _, _ => ⟨by simp, [], by simp, by simp, by simp, by simp⟩
  | x :: xs, ad, hs, h => by
    obtain ⟨ad', h1, h2, h3, h4, h5, h6⟩ := h
    obtain rfl := Option.some.inj h1
    obtain ⟨g0, ys, g1, g2, g3, g4⟩ := PRR.flat (add_spot sz hs) h6
    obtain ⟨zs, k1, k2, k3, k4⟩ := PRC.vals hs h5
    refine ⟨fun r hr => ?_, zs ++ ys, by rw [List.length_append, k1, h4, g1, List.length_cons, Nat.succ_mul, Nat.add_comm], fun j u hj => ?_, fun j c u hc hj => ?_, fun u hu => ?_⟩
    · rcases List.mem_cons.1 hr with rfl | hr
      · exact h4
      · exact g0 r hr
    · by_cases hlt : j < zs.length
      · rw [List.getElem?_append_left hlt] at hj; exact k2 j u hj
      · rw [List.getElem?_append_right (by omega)] at hj
        have := g2 _ u hj
        rw [add_add _ _ hs] at this
        rwa [show sz + (j - zs.length) = j by omega] at this
    · rw [List.flatten_cons] at hc
      by_cases hlt : j < x.length
      · rw [List.getElem?_append_left hlt] at hc
        rw [List.getElem?_append_left (by omega)] at hj
        exact k3 j c u hc hj
      · rw [List.getElem?_append_right (by omega)] at hc
        rw [List.getElem?_append_right (by omega), k1] at hj
        exact g3 _ c u hc hj
    · rcases List.mem_append.1 hu with hu | hu
      · exact k4 u hu
      · exact g4 u hu

/-- What is appended. -/
theorem src_rel {sz k : Nat} {v : AV} {y : Value} {news : List AV} (hS : S.WF) (hv : VR S v y) (h : srcCells S.m sz v = some (k, news)) :
    (k = 0 ∧ news = [] ∧ ∃ A c, y = .slice A 0 c) ∨ ∃ ad c nv, y = .slice (some ad) k c ∧ nv.length = k * sz ∧ VRs S news nv ∧ (∀ (j : Nat) u, nv[j]? = some u → S.w.cell? (ad.add j) = some u) ∧ (∀ u ∈ nv, u.oneCell' = true) := by
  unfold srcCells at h
  split at h
  · rename_i s t xs
    obtain ⟨A, len, cap, rfl, rfl, k1, k2, k3, k4⟩ := hv
    split at h
    · rename_i hx
      simp only [Option.some.injEq, Prod.mk.injEq] at h
      obtain ⟨rfl, rfl⟩ := h
      subst hx
      exact .inl ⟨rfl, rfl, A, cap, rfl⟩
    · split at h
      case isFalse => simp at h
      rename_i hx hs
      subst hs
      simp only [Option.some.injEq, Prod.mk.injEq] at h
      obtain ⟨rfl, rfl⟩ := h
      cases A with
      | none =>
        exfalso
        cases xs with
        | nil => exact hx rfl
        | cons x xs => obtain ⟨ad, h', _⟩ := k4; cases h'
      | some ad =>
        have hsp : ad.spot = none := by
          cases xs with
          | nil => exact absurd rfl hx
          | cons x xs => obtain ⟨ad', h', hs, _⟩ := k4; obtain rfl := Option.some.inj h'; exact hs
        obtain ⟨g0, ys, g1, g2, g3, g4⟩ := PRR.flat hsp k4
        exact .inr ⟨ad, cap, ys, rfl, g1, VRs.pure (by rw [g1, flatten_len g0]) g3, g2, g4⟩
  · rename_i A c
    simp only [Option.some.injEq, Prod.mk.injEq] at h
    obtain ⟨rfl, rfl⟩ := h
    exact .inl ⟨rfl, rfl, A, c, hv⟩
  · rename_i b ver off n s
    split at h
    case h_2 => simp at h
    rename_i blk hb
    split at h
    case isFalse => simp at h
    rename_i hc
    obtain ⟨rfl, c1, c2, c3, c4⟩ := hc
    simp only [Option.some.injEq, Prod.mk.injEq] at h
    obtain ⟨rfl, rfl⟩ := h
    obtain ⟨ad, cap, rfl, k1, k2, k3, blk', k4, k5, k6⟩ := hv
    rw [hb] at k4; obtain rfl := Option.some.inj k4
    obtain ⟨rfl, _⟩ := k6 c1 c2
    obtain ⟨ys, rest, ty, g1, g2, g3⟩ := (hS.lies b blk hb c1).lies
    have hv' := (g2.drop off).take (n * s)
    refine .inr ⟨_, cap, (ys.drop off).take (n * s), rfl, by simp [g2.length]; omega, hv', fun j u hj => ?_, fun u hu => ?_⟩
    · rw [List.getElem?_take] at hj
      split at hj
      · rw [List.getElem?_drop] at hj
        rw [add_eq _ rfl]
        simp only [World.cell?, g1, Option.isSome_none, Bool.false_eq_true, if_false, List.getElem?_toArray]
        rw [List.getElem?_append_left (List.getElem?_eq_some_iff.1 hj).1]
        exact hj
      · simp at hj
    · obtain ⟨j, hj⟩ := List.mem_iff_getElem?.1 hu
      have hlt : j < ((blk.cells.drop off).take (n * s)).length := by rw [← hv'.length]; exact (List.getElem?_eq_some_iff.1 hj).1
      obtain ⟨u', e1, e2⟩ := hv'.get (List.getElem?_eq_getElem hlt)
      rw [hj] at e1; obtain rfl := Option.some.inj e1
      refine VR.one (List.all_eq_true.1 c4 _ ?_) e2
      exact List.mem_of_mem_drop (List.mem_of_mem_take (List.getElem_mem hlt))
  · simp at h
end
end Go.Proofs.YtlkphnhlibpngaaGreat.Abs
