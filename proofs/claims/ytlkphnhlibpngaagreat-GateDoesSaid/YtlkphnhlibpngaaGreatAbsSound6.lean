/- Abs, part 9: append; all operations but calls in one theorem. -/
import Derived.Test.YtlkphnhlibpngaaGreatAbsSound5
set_option linter.unusedVariables false
set_option linter.unusedSimpArgs false
namespace Go.Proofs.YtlkphnhlibpngaaGreat.Abs
open Go

section
variable {P : Program} {o : Oper} {a : Act} {S : Setup} {L : Env} {x : AV} {m' : Mem}

theorem run_append_zero (w : World) (t ty e : TypeId) (i : TypeInfo) (ht : P.underlying t = some (.slice e)) (hi : P.info? e = some i) (A B : Option Addr) (n c c' : Nat) (h : n ≤ c) :
    (Builtin.append_ #[t, t] ty #[.slice A n c, .slice B 0 c']).run P w = .ok (.slice A n c) w := by
  cases A <;> cases B <;> simp [Builtin.append_, run_underlying ht, sizeOf, typeInfo, hi, Builtin.lenOf, h, Builtin.firstCells, loadCells, loadCellsFrom, storeCells]

theorem run_append_in (w : World) (t ty e : TypeId) (i : TypeInfo) (ht : P.underlying t = some (.slice e)) (hi : P.info? e = some i)
    (g sLen sCap : Nat) (cur : Array Value) (ty' : TypeId) (hg : w.heap[g]? = some (.cells cur ty' (0, 0)))
    (b : Addr) (m c : Nat) (news : List Value) (hl : news.length = m * i.size) (hnews : ∀ (j : Nat) u, news[j]? = some u → w.cell? (b.add j) = some u) (h1 : ∀ u ∈ news, u.oneCell' = true)
    (hroom : sLen + m ≤ sCap) (hfit : sLen * i.size + news.length ≤ cur.size) :
    (Builtin.append_ #[t, t] ty #[.slice (some ⟨g, 0, none⟩) sLen sCap, .slice (some b) m c]).run P w =
      .ok (.slice (some ⟨g, 0, none⟩) (sLen + m) sCap) (w.setRow g (cur.toList.take (sLen * i.size) ++ news ++ cur.toList.drop (sLen * i.size + news.length)).toArray) := by
  have hf := run_firstCells_some (P := P) w i.size m b m c news hl hnews
  have hst := run_storeCells_at P g (sLen * i.size) ty' news 0 cur w hg (by simpa using hfit) h1
  simp only [Nat.add_zero] at hst
  have hadd : (⟨g, 0, none⟩ : Addr).add (sLen * i.size) = ⟨g, sLen * i.size, none⟩ := by rw [add_eq _ rfl]; simp
  simp [Builtin.append_, run_underlying ht, sizeOf, typeInfo, hi, Builtin.lenOf, hroom, hf, hadd, hst]

theorem zero_size (z : Array Value) (n : Nat) : (Builtin.zeroCells z n).size = n * z.size := by simp [Builtin.zeroCells]

theorem sound_app {t e : TypeId} {i : TypeInfo} {z : Value} {args : Array Operand} {ats : Array TypeId} {z1 z2 : Operand} (ho : o.op = .call { callee := .builtin .append, args := args, argTypes := ats })
    (ha : args.toList = [z1, z2]) (hats : ats.toList = [t, t]) (ht : P.underlying t = some (.slice e)) (hi : P.info? e = some i) (hz : i.zero = some z) (hzs : z.cells.size = i.size) (h0 : 0 < i.size)
    (hS : S.WF) (h1 : Good S L a z1) (h2 : Good S L a z2) (h : aop L S.m (.app i.size i.bytes z1 z2) = some (x, m')) : Did P o a.eval S x m' := by
  have hargs : args = #[z1, z2] := by rw [← Array.toArray_toList (xs := args), ha]
  have hats' : ats = #[t, t] := by rw [← Array.toArray_toList (xs := ats), hats]
  have hex : ∀ {v : Value} {w' : World}, (Builtin.append_ #[t, t] o.type #[a.eval z1, a.eval z2]).run P S.w = .ok v w' → (execOp a.eval o).run P S.w = .ok (.value v) w' := by
    intro v w' hr
    simp [execOp, ho, hargs, hats', Go.resolve, invoke, builtin, hr]
  simp only [aop] at h
  split at h
  case h_2 => simp at h
  rename_i u v e1 e2
  unfold appendAV at h
  split at h
  · simp at h
  rename_i k news hsrc
  have hsr := src_rel hS (h2 _ e2) hsrc
  have hu := h1 _ e1
  split at h
  · -- a list that has no room
    rename_i s xs
    obtain ⟨A, len, cap, heq, rfl, k1, k2, k3, k4⟩ := id hu
    obtain rfl := k3 rfl
    split at h
    · rename_i hk
      simp only [Option.some.injEq, Prod.mk.injEq] at h
      obtain ⟨rfl, rfl⟩ := h
      have : ∃ B c', a.eval z2 = .slice B 0 c' := by
        rcases hsr with ⟨_, _, B, c', h'⟩ | ⟨ad, c, nv, h', _⟩
        · exact ⟨B, c', h'⟩
        · exact ⟨some ad, c, by rw [h', hk]⟩
      obtain ⟨B, c', hB⟩ := this
      refine Did.same (y := a.eval z1) hS (hex ?_) rfl hu
      rw [heq, hB]
      exact run_append_zero S.w t o.type e i ht hi A B xs.length xs.length c' (Nat.le_refl _)
    · rename_i hk
      split at h
      case isFalse => simp at h
      rename_i hc
      obtain ⟨c1, c2, c3⟩ := hc
      simp only [Option.some.injEq, Prod.mk.injEq] at h
      obtain ⟨rfl, rfl⟩ := h
      rcases hsr with ⟨h', _⟩ | ⟨ad, c, nv, hB, b1, b2, b3, b4⟩
      · exact absurd h' hk
      have hsmall : xs.length + k ≤ 140737488355328 := by
        have := Nat.le_mul_of_pos_right (xs.length + k) c2; omega
      have hge := grownCap_ge S.w (xs.length + k) xs.length e
      have hcm := grownCap_le_maxLen S.w (xs.length + k) xs.length e (by unfold maxLen; omega)
      unfold maxLen at hcm
      -- the old cells
      have hold : ∃ olds : List Value, olds.length = xs.length * i.size ∧ VRs S (xs.flatten.map .p) olds ∧
          (Builtin.append_ #[t, t] o.type #[a.eval z1, a.eval z2]).run P S.w = .ok (.slice (some ⟨S.w.heap.size, 0, none⟩) (xs.length + k) (grownCap S.w (xs.length + k) xs.length e))
            (S.w.drew.alloc (.cells (olds.toArray ++ nv.toArray ++ Builtin.zeroCells z.cells (grownCap S.w (xs.length + k) xs.length e - (xs.length + k))) e)) := by
        rw [heq, hB]
        cases A with
        | none =>
          have hx : xs = [] := by
            cases xs with
            | nil => rfl
            | cons x xs => obtain ⟨ad', h', _⟩ := k4; cases h'
          subst hx
          refine ⟨[], by simp, rfl, ?_⟩
          simp only [List.length_nil, Nat.zero_add] at c1 ⊢
          have := run_append_nil (P := P) S.w t o.type e i z ht hi hz ad k c nv b1 b3 (by omega) (by omega) (by omega)
          simpa using this
        | some ad0 =>
          have hsp : xs ≠ [] → ad0.spot = none := by
            intro hne
            cases xs with
            | nil => exact absurd rfl hne
            | cons x xs => obtain ⟨ad', h', hs, _⟩ := k4; obtain rfl := Option.some.inj h'; exact hs
          have hss : ∃ olds : List Value, olds.length = xs.length * i.size ∧ VRs S (xs.flatten.map .p) olds ∧ (∀ (j : Nat) u, olds[j]? = some u → S.w.cell? (ad0.add j) = some u) := by
            by_cases hx : xs = []
            · subst hx; exact ⟨[], by simp, rfl, by simp⟩
            · rcases c3 with rfl | rfl
              · exact absurd rfl hx
              · obtain ⟨g0, ys, g1, g2, g3, _⟩ := PRR.flat (hsp hx) k4
                exact ⟨ys, g1, VRs.pure (by rw [g1, flatten_len g0]) g3, g2⟩
          obtain ⟨olds, o1, o2, o3⟩ := hss
          refine ⟨olds, o1, o2, ?_⟩
          exact run_append_grow (P := P) S.w t o.type e i z ht hi hz ad0 xs.length xs.length olds o1 o3 ad k c nv b1 b3 (by omega) (by omega) (growslice_fits (by omega) c1)
      obtain ⟨olds, o1, o2, o3⟩ := hold
      have hD := hS.drew
      have eq : (olds.toArray ++ nv.toArray ++ Builtin.zeroCells z.cells (grownCap S.w (xs.length + k) xs.length e - (xs.length + k))) =
          ((olds ++ nv) ++ (Builtin.zeroCells z.cells (grownCap S.w (xs.length + k) xs.length e - (xs.length + k))).toList).toArray := by
        apply Array.ext'; simp
      rw [eq] at o3
      have hlen : ((olds ++ nv) ++ (Builtin.zeroCells z.cells (grownCap S.w (xs.length + k) xs.length e - (xs.length + k))).toList).length = grownCap S.w (xs.length + k) xs.length e * i.size := by
        simp only [List.length_append, Array.length_toList, zero_size, hzs, o1, b1]
        rw [← Nat.add_mul, ← Nat.add_mul]; congr 1; omega
      have hvs : VRs S.drew (xs.flatten.map .p ++ news) (olds ++ nv) := (VRs.mono (Ext.drew S) _ _ o2).append (VRs.mono (Ext.drew S) _ _ b2)
      have hE := Ext.own hD (xs.flatten.map .p ++ news) (.cells ((olds ++ nv) ++ (Builtin.zeroCells z.cells (grownCap S.w (xs.length + k) xs.length e - (xs.length + k))).toList).toArray e) (grownCap S.w (xs.length + k) xs.length e * i.size)
      refine ⟨_, _, .inl (hex o3), (Ext.drew S).trans hE, Setup.WF.own hD hvs hlen, rfl, ?_⟩
      refine ⟨_, _, rfl, rfl, hge, by omega, .box (xs.flatten.map .p ++ news), by simp [Setup.own, Setup.drew], Nat.le_refl _, fun _ _ => ⟨?_, ?_, hcm⟩⟩
      · simp [Setup.own, Setup.drew]
      · simp [Setup.own, Setup.drew]
  · -- a slice of one's own
    rename_i b ver n s
    split at h
    case h_2 => simp at h
    rename_i blk hb
    split at h
    case isFalse => simp at h
    rename_i hc
    obtain ⟨rfl, c1, c2, c3, c4, c5⟩ := hc
    simp only [Option.some.injEq, Prod.mk.injEq] at h
    obtain ⟨rfl, rfl⟩ := h
    obtain ⟨ad0, cap, heq, k1, k2, k3, blk', k4, k5, k6⟩ := hu
    rw [hb] at k4; obtain rfl := Option.some.inj k4
    obtain ⟨rfl, k7, k8⟩ := k6 c1 c2
    obtain ⟨ys, rest, ty, g1, g2, g3⟩ := (hS.lies b blk hb c1).lies
    have hys : ys.length = n * i.size := by rw [g2.length, c3]
    have hsmall : n + k ≤ 140737488355328 := by
      have := Nat.le_mul_of_pos_right (n + k) c5; omega
    have hfresh : ∀ (S' : Setup) (q : Value), S'.m = S.m.set b ⟨blk.cells ++ news, blk.cur + 1, true⟩ → True := fun _ _ _ => trivial
    have hlt : b < S.m.length := (List.getElem?_eq_some_iff.1 hb).1
    by_cases hroom : n + k ≤ cap
    · -- in place
      have hin : ∃ nv : List Value, nv.length = k * i.size ∧ VRs S news nv ∧
          (Builtin.append_ #[t, t] o.type #[a.eval z1, a.eval z2]).run P S.w = .ok (.slice (some ⟨S.β b, 0, none⟩) (n + k) cap) (S.w.setRow (S.β b) ((ys ++ nv) ++ rest.drop nv.length).toArray) := by
        have hsz : (ys ++ rest).length = S.cap b := g3
        have hcapsz : n * i.size + k * i.size ≤ (ys ++ rest).length := by
          rw [hsz]
          have := Nat.mul_le_mul_right i.size hroom
          rw [Nat.add_mul] at this; omega
        rcases hsr with ⟨rfl, rfl, B, c', hB⟩ | ⟨ad, c, nv, hB, b1, b2, b3, b4⟩
        · refine ⟨[], by simp, rfl, ?_⟩
          rw [heq, hB]
          have := run_append_zero (P := P) S.w t o.type e i ht hi (some ⟨S.β b, 0, none⟩) B n cap c' k2
          simp only [Nat.add_zero, List.append_nil, List.length_nil, List.drop_zero]
          rw [setRow_self S.w (S.β b) _ ty (0, 0) g1]
          exact this
        · refine ⟨nv, b1, b2, ?_⟩
          rw [heq, hB]
          have := run_append_in (P := P) S.w t o.type e i ht hi (S.β b) n cap (ys ++ rest).toArray ty g1 ad k c nv b1 b3 b4 hroom (by simp only [List.size_toArray, b1]; exact hcapsz)
          rw [this]
          congr 3
          have e1 : (ys ++ rest).take (n * i.size) = ys := by rw [← hys]; exact List.take_left' rfl
          have e2 : (ys ++ rest).drop (n * i.size + nv.length) = rest.drop nv.length := by rw [← hys, List.drop_append]; simp
          simp only [e1, e2]
      obtain ⟨nv, b1, b2, hr⟩ := hin
      have hl : ((ys ++ nv) ++ rest.drop nv.length).length = S.cap b := by
        have h1 := Nat.mul_le_mul_right i.size hroom
        rw [Nat.add_mul] at h1
        have h2 : (ys ++ rest).length = S.cap b := g3
        simp only [List.length_append, List.length_drop] at h2 ⊢
        omega
      refine ⟨S.put b ⟨blk.cells ++ news, blk.cur + 1, true⟩ ((ys ++ nv) ++ rest.drop nv.length).toArray, _, .inl (hex hr), Ext.put hS hb c1 (Nat.le_succ _) _,
        Setup.WF.put hS hb c1 (Nat.le_succ _) (g2.append b2) hl, rfl, ?_⟩
      refine ⟨_, _, rfl, rfl, hroom, by omega, ⟨blk.cells ++ news, blk.cur + 1, true⟩, by simp only [Setup.put]; rw [List.getElem?_set_self hlt], by simp; omega, fun _ _ => ⟨rfl, k7, k8⟩⟩
    · -- a new row
      have hk : k ≠ 0 := by omega
      rcases hsr with ⟨h', _⟩ | ⟨ad, c, nv, hB, b1, b2, b3, b4⟩
      · exact absurd h' hk
      have hge := grownCap_ge S.w (n + k) cap e
      have hcm := grownCap_le_maxLen S.w (n + k) cap e (by unfold maxLen; omega)
      unfold maxLen at hcm
      have holds : ∀ (j : Nat) u, ys[j]? = some u → S.w.cell? ((⟨S.β b, 0, none⟩ : Addr).add j) = some u := by
        intro j u hj
        rw [add_eq _ rfl]
        simp only [World.cell?, g1, Option.isSome_none, Bool.false_eq_true, if_false, List.getElem?_toArray, Nat.zero_add]
        rw [List.getElem?_append_left (List.getElem?_eq_some_iff.1 hj).1]
        exact hj
      have hr := run_append_grow (P := P) S.w t o.type e i z ht hi hz ⟨S.β b, 0, none⟩ n cap ys hys holds ad k c nv b1 b3 (by omega) (by omega) (growslice_fits (by omega) c4)
      have eq : (ys.toArray ++ nv.toArray ++ Builtin.zeroCells z.cells (grownCap S.w (n + k) cap e - (n + k))) =
          ((ys ++ nv) ++ (Builtin.zeroCells z.cells (grownCap S.w (n + k) cap e - (n + k))).toList).toArray := by
        apply Array.ext'; simp
      rw [eq] at hr
      have hlen : ((ys ++ nv) ++ (Builtin.zeroCells z.cells (grownCap S.w (n + k) cap e - (n + k))).toList).length = grownCap S.w (n + k) cap e * i.size := by
        simp only [List.length_append, Array.length_toList, zero_size, hzs, hys, b1]
        rw [← Nat.add_mul, ← Nat.add_mul]; congr 1; omega
      have hD := hS.drew
      have hvs : VRs S.drew (blk.cells ++ news) (ys ++ nv) := (VRs.mono (Ext.drew S) _ _ g2).append (VRs.mono (Ext.drew S) _ _ b2)
      have hE := Ext.move (S := S.drew) hD (b := b) (blk := blk) (blk' := ⟨blk.cells ++ news, blk.cur + 1, true⟩) hb (Nat.lt_succ_self _) (.cells ((ys ++ nv) ++ (Builtin.zeroCells z.cells (grownCap S.w (n + k) cap e - (n + k))).toList).toArray e) (grownCap S.w (n + k) cap e * i.size)
      refine ⟨_, _, .inl (hex (by rw [heq, hB]; exact hr)), (Ext.drew S).trans hE, Setup.WF.move (S := S.drew) (blk' := ⟨blk.cells ++ news, blk.cur + 1, true⟩) hD hb (Nat.lt_succ_self _) hvs hlen, rfl, ?_⟩
      refine ⟨_, _, rfl, rfl, hge, by omega, ⟨blk.cells ++ news, blk.cur + 1, true⟩, by simp only [Setup.move, Setup.drew]; rw [List.getElem?_set_self hlt], by simp; omega, fun _ _ => ⟨?_, ?_, hcm⟩⟩
      · simp [Setup.move, Setup.drew]
      · simp [Setup.move, Setup.drew]
  · simp at h
end
end Go.Proofs.YtlkphnhlibpngaaGreat.Abs
