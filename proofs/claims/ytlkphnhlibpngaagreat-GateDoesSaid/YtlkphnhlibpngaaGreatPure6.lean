/- The document's lists: the k-th least by counting; the first of each number. -/
import Derived.Test.YtlkphnhlibpngaaGreatPure2
set_option linter.unusedVariables false
set_option linter.unusedSimpArgs false
namespace Go.Proofs.YtlkphnhlibpngaaGreat.Abs
open Go

theorem countP_le {α : Type} {p q : α → Bool} (h : ∀ x, p x = true → q x = true) : ∀ l : List α, l.countP p ≤ l.countP q
  | [] => Nat.le_refl _
  | x :: l => by
    have ih := countP_le h l
    simp only [List.countP_cons]
    cases hp : p x with
    | false => simp only [Bool.false_eq_true, if_false]; split <;> omega
    | true => rw [h x hp]; simp only [if_true]; omega
theorem nth_some {k : Int} {xs : List Int} (h0 : 0 ≤ k) (h1 : k < xs.length) : ∃ v, (sorted xs)[k.toNat]? = some v ∧ LeastF k xs = (v, true) ∧ v ∈ xs := by
  have hl : k.toNat < (sorted xs).length := by rw [sorted_length]; omega
  refine ⟨_, List.getElem?_eq_getElem hl, ?_, (sorted_perm xs).mem_iff.1 (List.getElem_mem hl)⟩
  have e : (decide (k < 0) || decide ((xs.length : Int) ≤ k)) = false := by simp; omega
  simp only [LeastF, e, Bool.false_eq_true, if_false, List.getElem?_eq_getElem hl, Option.getD_some]
def KthB (k : Int) (xs : List Int) (x : Int) : Bool := decide (((xs.countP fun y => decide (y < x) : Nat) : Int) ≤ k) && decide (k < ((xs.countP fun y => decide (y ≤ x) : Nat) : Int))
theorem kth_nth {k : Int} {xs : List Int} {v : Int} (h0 : 0 ≤ k) (h : (sorted xs)[k.toNat]? = some v) : KthB k xs v = true := by
  have := count_sorted (sorted_pair xs) h
  rw [(sorted_perm xs).countP_eq, (sorted_perm xs).countP_eq] at this
  simp only [KthB, Bool.and_eq_true, decide_eq_true_eq]
  omega
theorem kth_one {k : Int} {xs : List Int} {v x : Int} (hv : KthB k xs v = true) (hx : KthB k xs x = true) : x = v := by
  simp only [KthB, Bool.and_eq_true, decide_eq_true_eq] at hv hx
  rcases Int.lt_trichotomy x v with h | h | h
  · have := countP_le (p := fun y => decide (y ≤ x)) (q := fun y => decide (y < v)) (fun y hy => by simp at hy ⊢; omega) xs
    omega
  · exact h
  · have := countP_le (p := fun y => decide (y ≤ v)) (q := fun y => decide (y < x)) (fun y hy => by simp at hy ⊢; omega) xs
    omega
/-- Who is found by counting is the k-th least. -/
theorem kth_is {k : Int} {xs : List Int} {x : Int} (h0 : 0 ≤ k) (h1 : k < xs.length) (hx : KthB k xs x = true) : LeastF k xs = (x, true) := by
  obtain ⟨v, hv, hl, _⟩ := nth_some h0 h1
  rw [kth_one (kth_nth h0 hv) hx]; exact hl
/-- One is found. -/
theorem kth_has {k : Int} {xs : List Int} (h0 : 0 ≤ k) (h1 : k < xs.length) : ∃ x ∈ xs, KthB k xs x = true := by
  obtain ⟨v, hv, hl, hm⟩ := nth_some h0 h1
  exact ⟨v, hm, kth_nth h0 hv⟩
theorem few_eq {f : Int} {n : Nat} : FewF f n = (decide (f < 0) || (decide ((n : Int) < f) || decide ((n : Int) < 2 * f + 1))) := by
  unfold FewF
  by_cases h1 : f < 0
  · simp [h1]
  · simp only [h1, decide_false, Bool.false_or]
    rw [Bool.eq_iff_iff]
    simp only [Bool.or_eq_true, decide_eq_true_eq]
    omega

/-! the first of each number -/
def Frm (a b : Heard) : Prop := a.msg.frm < b.msg.frm
theorem ext_frm : ∀ {xs ys : List Heard}, xs.Pairwise Frm → ys.Pairwise Frm → (∀ a, a ∈ xs ↔ a ∈ ys) → xs = ys
  | [], [], _, _, _ => rfl
  | [], y :: ys, _, _, h => absurd ((h y).2 (by simp)) (by simp)
  | x :: xs, [], _, _, h => absurd ((h x).1 (by simp)) (by simp)
  | x :: xs, y :: ys, hx, hy, h => by
    obtain ⟨hx1, hx2⟩ := List.pairwise_cons.1 hx
    obtain ⟨hy1, hy2⟩ := List.pairwise_cons.1 hy
    have e : x = y := by
      rcases List.mem_cons.1 ((h x).1 (by simp)) with h1 | h1
      · exact h1
      · rcases List.mem_cons.1 ((h y).2 (by simp)) with h2 | h2
        · exact h2.symm
        · have a1 := hy1 x h1
          have a2 := hx1 y h2
          unfold Frm at a1 a2
          omega
    subst e
    rw [ext_frm hx2 hy2 fun a => ⟨fun ha => ?_, fun ha => ?_⟩]
    · rcases List.mem_cons.1 ((h a).1 (List.mem_cons_of_mem _ ha)) with h1 | h1
      · have := hx1 a ha; subst h1; unfold Frm at this; omega
      · exact h1
    · rcases List.mem_cons.1 ((h a).2 (List.mem_cons_of_mem _ ha)) with h1 | h1
      · have := hy1 a ha; subst h1; unfold Frm at this; omega
      · exact h1
theorem hlt_iff {a b : Heard} (h1 : 0 ≤ a.msg.frm) (h2 : a.msg.frm < 16) (h3 : 0 ≤ b.msg.frm) (h4 : b.msg.frm < 16) : hlt a b = true ↔ a.msg.frm < b.msg.frm := by
  unfold hlt w64
  rw [wrap_id (by omega) (by omega)]
  simp only [decide_eq_true_eq]; omega
theorem down_sorted : ∀ (n : Nat) (pre : List Heard) (x : Heard) (rest : List Heard), pre.length = n → (∀ h ∈ pre, 0 ≤ h.msg.frm ∧ h.msg.frm < 16) → 0 ≤ x.msg.frm → x.msg.frm < 16 → pre.Pairwise Frm → (∀ h ∈ pre, h.msg.frm ≠ x.msg.frm) →
    ∃ A, down hlt n (pre ++ x :: rest) = A ++ rest ∧ A.Pairwise Frm ∧ A.Perm (pre ++ [x])
  | 0, pre, x, rest, hl, _, _, _, _, _ => by
    obtain rfl := List.length_eq_zero_iff.1 hl
    exact ⟨[x], rfl, by simp, .refl _⟩
  | n + 1, pre, x, rest, hl, hr, hx0, hx1, hs, hd => by
    obtain ⟨pre', y, rfl⟩ : ∃ pre' y, pre = pre' ++ [y] := by
      rcases List.eq_nil_or_concat pre with h | ⟨a, b, h⟩
      · rw [h] at hl; simp at hl
      · exact ⟨a, b, by rw [h]; simp⟩
    have hl' : pre'.length = n := by simpa using hl
    obtain ⟨hs1, _, hs2⟩ := List.pairwise_append.1 hs
    have hy := hr y (by simp)
    have g1 : ((pre' ++ [y]) ++ x :: rest)[n + 1]? = some x := by
      rw [List.getElem?_append_right (by simp [hl'])]; simp [hl']
    have g0 : ((pre' ++ [y]) ++ x :: rest)[n]? = some y := by
      rw [List.append_assoc, List.getElem?_append_right (by omega)]; simp [hl']
    have hgd : goesDown hlt ((pre' ++ [y]) ++ x :: rest) (n + 1) = hlt x y := by
      unfold goesDown
      rw [g1, Nat.add_sub_cancel, g0]
    rw [down, hgd]
    by_cases hxy : hlt x y = true
    · rw [if_pos hxy]
      have hxy' := (hlt_iff hx0 hx1 hy.1 hy.2).1 hxy
      have hsw : swapAt ((pre' ++ [y]) ++ x :: rest) (n + 1) = pre' ++ x :: (y :: rest) := by
        unfold swapAt
        rw [g1, Nat.add_sub_cancel, g0]
        simp only
        rw [List.append_assoc, List.set_append_right _ _ (by omega), List.set_append_right _ _ (by omega), hl']
        simp
      rw [hsw]
      obtain ⟨A, h1, h2, h3⟩ := down_sorted n pre' x (y :: rest) hl' (fun h hh => hr h (by simp [hh])) hx0 hx1 hs1 (fun h hh => hd h (by simp [hh]))
      refine ⟨A ++ [y], by rw [h1]; simp, List.pairwise_append.2 ⟨h2, by simp, fun a ha b hb => ?_⟩, ?_⟩
      · obtain rfl := List.mem_singleton.1 hb
        rcases List.mem_append.1 (h3.mem_iff.1 ha) with h | h
        · exact hs2 a h b (by simp)
        · obtain rfl := List.mem_singleton.1 h; exact hxy'
      · refine (h3.append_right [y]).trans ?_
        simp only [List.append_assoc]
        exact List.Perm.append_left _ (List.Perm.swap ..)
    · rw [if_neg hxy]
      have hxy' : y.msg.frm < x.msg.frm := by
        have h1 : ¬ x.msg.frm < y.msg.frm := fun h => hxy ((hlt_iff hx0 hx1 hy.1 hy.2).2 h)
        have h2 := hd y (by simp)
        omega
      refine ⟨(pre' ++ [y]) ++ [x], by simp, List.pairwise_append.2 ⟨hs, by simp, fun a ha b hb => ?_⟩, .refl _⟩
      obtain rfl := List.mem_singleton.1 hb
      rcases List.mem_append.1 ha with h | h
      · have := hs2 a h y (by simp); unfold Frm at this ⊢; omega
      · obtain rfl := List.mem_singleton.1 h; exact hxy'
theorem sortFrom_sorted : ∀ (n : Nat) (pre rest : List Heard), rest.length = n → (∀ h ∈ pre ++ rest, 0 ≤ h.msg.frm ∧ h.msg.frm < 16) → pre.Pairwise Frm → ((pre ++ rest).map (·.msg.frm)).Nodup → (sortFrom hlt pre.length n (pre ++ rest)).Pairwise Frm
  | 0, pre, rest, hl, _, hs, _ => by
    obtain rfl := List.length_eq_zero_iff.1 hl
    simpa [sortFrom] using hs
  | n + 1, pre, x :: rest, hl, hr, hs, hn => by
    have hn' := hn
    rw [List.map_append, List.nodup_append] at hn'
    have hx := hr x (by simp)
    obtain ⟨A, h1, h2, h3⟩ := down_sorted pre.length pre x rest rfl (fun h hh => hr h (by simp [hh])) hx.1 hx.2 hs (fun h hh => hn'.2.2 _ (List.mem_map.2 ⟨h, hh, rfl⟩) _ (by simp))
    rw [sortFrom, h1]
    have hA : A.length = pre.length + 1 := by rw [h3.length_eq]; simp
    rw [← hA]
    have hp : (A ++ rest).Perm (pre ++ x :: rest) := by
      refine (h3.append_right rest).trans ?_
      simp
    refine sortFrom_sorted n A rest (by simpa using hl) (fun h hh => hr h (hp.mem_iff.1 hh)) h2 ?_
    exact ((hp.map _).nodup_iff).2 hn
  | n + 1, pre, [], hl, _, _, _ => by simp at hl
theorem sortBy_sorted {xs : List Heard} (hr : ∀ h ∈ xs, 0 ≤ h.msg.frm ∧ h.msg.frm < 16) (hn : (xs.map (·.msg.frm)).Nodup) : (sortBy hlt xs).Pairwise Frm := by
  cases xs with
  | nil => simp [sortBy, sortFrom]
  | cons x xs => exact sortFrom_sorted xs.length [x] xs rfl hr (by simp) hn
def OkH (p : Params) (me : Int) (h : Heard) : Prop := h.msg.kind = 1 ∧ 0 ≤ h.msg.frm ∧ h.msg.frm < mn p.n 16 ∧ h.msg.frm ≠ me
def IsH (k : Int) (h : Heard) : Bool := decide (h.msg.kind = 1) && decide (h.msg.frm = k)
theorem takes_iff {p : Params} {me : Int} {out : List Heard} {x : Heard} : Takes p me out x = true ↔ OkH p me x ∧ ∀ y ∈ out, y.msg.frm ≠ x.msg.frm := by
  simp only [Takes, OkH, Bool.and_eq_true, decide_eq_true_eq, Bool.not_eq_true', decide_eq_false_iff_not, List.any_eq_false]
  constructor
  · rintro ⟨h1, h2, h3, h4, h5⟩; exact ⟨⟨h1, h2, h3, h4⟩, fun y hy => by simpa using h5 y hy⟩
  · rintro ⟨⟨h1, h2, h3, h4⟩, h5⟩; exact ⟨h1, h2, h3, h4, fun y hy => by simpa using h5 y hy⟩
theorem firsts_mem {p : Params} {me : Int} {a : Heard} : ∀ (l out : List Heard), a ∈ Firsts p me out l ↔ a ∈ out ∨ (OkH p me a ∧ (∀ y ∈ out, y.msg.frm ≠ a.msg.frm) ∧ l.find? (IsH a.msg.frm) = some a)
  | [], out => by simp [Firsts]
  | x :: l, out => by
    rw [Firsts, firsts_mem l]
    simp only [List.find?_cons]
    by_cases ht : Takes p me out x = true
    · obtain ⟨h1, h2⟩ := takes_iff.1 ht
      rw [if_pos ht]
      by_cases he : x.msg.frm = a.msg.frm
      · have hi : IsH a.msg.frm x = true := by simp [IsH, h1.1, he]
        rw [hi]
        constructor
        · rintro (h | ⟨h3, h4, h5⟩)
          · rcases List.mem_append.1 h with h | h
            · exact .inl h
            · obtain rfl := List.mem_singleton.1 h
              exact .inr ⟨h1, h2, rfl⟩
          · exact absurd he (h4 x (by simp))
        · rintro (h | ⟨h3, h4, h5⟩)
          · exact .inl (by simp [h])
          · exact .inl (by simp at h5; simp [h5])
      · have hi : IsH a.msg.frm x = false := by simp [IsH, he]
        rw [hi]
        constructor
        · rintro (h | ⟨h3, h4, h5⟩)
          · rcases List.mem_append.1 h with h | h
            · exact .inl h
            · obtain rfl := List.mem_singleton.1 h
              exact absurd rfl he
          · exact .inr ⟨h3, fun y hy => h4 y (by simp [hy]), h5⟩
        · rintro (h | ⟨h3, h4, h5⟩)
          · exact .inl (by simp [h])
          · refine .inr ⟨h3, fun y hy => ?_, h5⟩
            rcases List.mem_append.1 hy with h | h
            · exact h4 y h
            · obtain rfl := List.mem_singleton.1 h; exact he
    · rw [if_neg ht]
      constructor
      · rintro (h | ⟨h3, h4, h5⟩)
        · exact .inl h
        · refine .inr ⟨h3, h4, ?_⟩
          have hi : IsH a.msg.frm x = false := by
            cases hh : IsH a.msg.frm x with
            | false => rfl
            | true =>
              simp only [IsH, Bool.and_eq_true, decide_eq_true_eq] at hh
              exact absurd (takes_iff.2 ⟨⟨hh.1, by rw [hh.2]; exact h3.2.1, by rw [hh.2]; exact h3.2.2.1, by rw [hh.2]; exact h3.2.2.2⟩, by rw [hh.2]; exact h4⟩) ht
          rw [hi]; exact h5
      · rintro (h | ⟨h3, h4, h5⟩)
        · exact .inl h
        · refine .inr ⟨h3, h4, ?_⟩
          have hi : IsH a.msg.frm x = false := by
            cases hh : IsH a.msg.frm x with
            | false => rfl
            | true =>
              simp only [IsH, Bool.and_eq_true, decide_eq_true_eq] at hh
              exact absurd (takes_iff.2 ⟨⟨hh.1, by rw [hh.2]; exact h3.2.1, by rw [hh.2]; exact h3.2.2.1, by rw [hh.2]; exact h3.2.2.2⟩, by rw [hh.2]; exact h4⟩) ht
          rw [hi] at h5; exact h5
/-- Number by number. -/
def PickH (me : Int) (l : List Heard) (k : Nat) : Option Heard := if (k : Int) = me then none else l.find? (IsH k)
def ToldR (me : Int) (l : List Heard) : Nat → List Heard
  | 0 => []
  | k + 1 => ToldR me l k ++ (PickH me l k).toList
theorem pickH_frm {me : Int} {l : List Heard} {k : Nat} {a : Heard} (h : PickH me l k = some a) : a.msg.kind = 1 ∧ a.msg.frm = k ∧ (k : Int) ≠ me ∧ l.find? (IsH k) = some a := by
  unfold PickH at h
  split at h
  · simp at h
  · rename_i hk
    have := List.find?_some h
    simp only [IsH, Bool.and_eq_true, decide_eq_true_eq] at this
    exact ⟨this.1, this.2, hk, h⟩
theorem toldR_mem {me : Int} {l : List Heard} {a : Heard} : ∀ (m : Nat), a ∈ ToldR me l m ↔ ∃ k, k < m ∧ PickH me l k = some a
  | 0 => by simp [ToldR]
  | m + 1 => by
    rw [ToldR, List.mem_append, toldR_mem m, Option.mem_toList]
    constructor
    · rintro (⟨k, h1, h2⟩ | h)
      · exact ⟨k, by omega, h2⟩
      · exact ⟨m, by omega, h⟩
    · rintro ⟨k, h1, h2⟩
      by_cases hk : k = m
      · subst hk; exact .inr h2
      · exact .inl ⟨k, by omega, h2⟩
theorem toldR_sorted {me : Int} {l : List Heard} : ∀ (m : Nat), (ToldR me l m).Pairwise Frm
  | 0 => by simp [ToldR]
  | m + 1 => by
    rw [ToldR, List.pairwise_append]
    refine ⟨toldR_sorted m, ?_, fun a ha b hb => ?_⟩
    · cases PickH me l m <;> simp
    · obtain ⟨k, h1, h2⟩ := (toldR_mem m).1 ha
      have e1 := (pickH_frm h2).2.1
      have e2 := (pickH_frm (Option.mem_toList.1 hb)).2.1
      unfold Frm; omega
theorem told_eq {p : Params} {me : Int} {l : List Heard} {m : Nat} (hm : (m : Int) = mn p.n 16 ∨ (m = 0 ∧ mn p.n 16 ≤ 0)) : ToldR me l m = Told p me l := by
  have hf : Few (Firsts p me [] l) := firsts_few l [] ⟨by simp, by simp⟩
  have hn : ((Firsts p me [] l).map (·.msg.frm)).Nodup := by
    have h1 := hf.1
    have : (Firsts p me [] l).map (fun x => x.msg.frm.toNat) = ((Firsts p me [] l).map (·.msg.frm)).map Int.toNat := by rw [List.map_map]; rfl
    rw [this] at h1
    exact (List.pairwise_map.1 h1).imp fun h e => h (by rw [e])
  unfold Told
  refine ext_frm (toldR_sorted m) (sortBy_sorted hf.2 hn) fun a => ?_
  rw [(sortBy_perm hlt _).mem_iff, firsts_mem, toldR_mem]
  constructor
  · rintro ⟨k, h1, h2⟩
    obtain ⟨g1, g2, g3, g4⟩ := pickH_frm h2
    refine .inr ⟨⟨g1, by omega, by omega, by omega⟩, by simp, by rw [g2]; exact g4⟩
  · rintro (h | ⟨⟨h1, h2, h3, h4⟩, _, h5⟩)
    · simp at h
    · refine ⟨a.msg.frm.toNat, by omega, ?_⟩
      have e : ((a.msg.frm.toNat : Nat) : Int) = a.msg.frm := by omega
      unfold PickH
      rw [e, if_neg h4]; exact h5
end Go.Proofs.YtlkphnhlibpngaaGreat.Abs
