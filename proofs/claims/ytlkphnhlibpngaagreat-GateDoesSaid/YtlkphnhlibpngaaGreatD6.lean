/- The document's functions, part 6: what many say. -/
import Derived.Test.YtlkphnhlibpngaaGreatD5
set_option linter.unusedVariables false
set_option linter.unusedSimpArgs false
set_option maxRecDepth 100000
namespace Go.Proofs.YtlkphnhlibpngaaGreat.Abs
open Go

theorem fewR_0 (f : Int) (n : Nat) (hn : n ≤ 281474976710656) : ACall Tryz.prog 72 [i f, i n] [] (bools (FewF f n)) [] := by
  rw [few_eq]
  refine acall_run R_ref07_Few_ok ⟨fun h1 => ?_, fun h1 => ⟨fun h2 => ?_, fun h2 => ⟨fun h3 => ?_, fun h3 => ?_⟩⟩⟩
  · exact endP (.inr rfl) rfl (b_eq (by rw [h1]; rfl)) trivial
  · exact endP (.inr rfl) rfl (b_eq (by rw [h1, h2]; rfl)) trivial
  · have g1 := df h1
    have g2 := df h2
    rw [wrap_id (n := 2 * f) (by omega) (by omega), wrap_id (by omega) (by omega)] at h3
    exact endP (.inr rfl) rfl (b_eq (by rw [h1, h2, h3]; rfl)) trivial
  · have g1 := df h1
    have g2 := df h2
    rw [wrap_id (n := 2 * f) (by omega) (by omega), wrap_id (by omega) (by omega)] at h3
    exact endP (.inr rfl) rfl (b_eq (by rw [h1, h2, h3]; rfl)) trivial
theorem fewR (f : Int) (n : Nat) (hn : n ≤ 281474976710656) (m : Mem) : ACall Tryz.prog 72 [i f, i n] m (bools (FewF f n)) m := acall_pure (fewR_0 f n hn) ⟨trivial, trivial, trivial⟩ m
theorem leastR_0 (k : Int) (t : Bool) (xs : List Int) : ACall Tryz.prog 74 [i k, il t xs] [] (.tup [i (LeastF k xs).1, bools (LeastF k xs).2]) [] := by
  refine acall_fact (F := xs.length ≤ 281474976710656) (fun S vs _ _ hv => by obtain ⟨_, _, _, _, z, zs, _, hv, _⟩ := hv; exact il_len hv) fun hlen => ?_
  have ll : (xs.map fun n => [iv n]).length = xs.length := List.length_map _
  refine acall_run R_ref07_Least_ok ⟨fun h1 => ?_, fun h1 => ⟨fun h2 => ?_, fun h2 => ?_⟩⟩
  · have e : LeastF k xs = (0, false) := by simp only [LeastF, h1, Bool.true_or, if_true]
    exact endP (.inr rfl) rfl (ib_eq (by rw [e]) (by rw [e])) ⟨trivial, trivial, trivial⟩
  · rw [ll] at h2
    have e : LeastF k xs = (0, false) := by simp only [LeastF, h2, Bool.or_true, if_true]
    exact endP (.inr rfl) rfl (ib_eq (by rw [e]) (by rw [e])) ⟨trivial, trivial, trivial⟩
  rw [ll] at h2
  have h1 := df h1
  have h2 := df h2
  refine wloopc (σ := Nat) (fun a => [(0, i k), (1, il t xs), (20, il t xs), (21, i (xs.map fun n => [iv n]).length), (22, i a)]) (fun _ => []) (fun a => a ≤ xs.length ∧ ∀ x ∈ xs.take a, KthB k xs x = false)
    (fun a => xs.length - a) 0 ⟨rfl, rfl, rfl, rfl, rfl, trivial⟩ rfl ⟨Nat.zero_le _, by simp⟩ (fun _ _ => ⟨trivial, trivial, trivial, trivial, trivial, trivial⟩) (fun _ _ => trivial) (fun _ _ => Nat.le_refl _) ?_
  rintro a ⟨ha, hno⟩
  refine ⟨fun h3 => ?_, fun h3 => ?_⟩
  · have h3 : a < xs.length := by have := dt h3; simp at this; exact this
    have hx := List.getElem?_eq_getElem h3
    have inc : some (i (IntKind.i64.wrap ((a : Int) + 1))) = some (i ((a + 1 : Nat) : Int)) := by rw [wrap_id (by omega) (by omega)]; rfl
    refine WOp.mk _ _ (iad_list rfl rfl (Int.natCast_nonneg a) (il_get hx)) trivial ?_
    generalize xs[a] = x at *
    have next : KthB k xs x = false → a + 1 ≤ xs.length ∧ ∀ y ∈ xs.take (a + 1), KthB k xs y = false := by
      intro h
      refine ⟨h3, fun y hy => ?_⟩
      rw [take_succ_get hx] at hy
      rcases List.mem_append.1 hy with hy | hy
      · exact hno y hy
      · obtain rfl := List.mem_singleton.1 hy; exact h
    refine wloopc (σ := Nat × Nat × Nat) (fun s => [(0, i k), (1, il t xs), (20, il t xs), (21, i (xs.map fun n => [iv n]).length), (22, i a), (7, i x), (8, i s.2.1), (9, i s.2.2), (26, il t xs), (27, i (xs.map fun n => [iv n]).length), (28, i s.1)]) (fun _ => [])
      (fun s => s.1 ≤ xs.length ∧ s.2.1 = (xs.take s.1).countP (fun y => decide (y < x)) ∧ s.2.2 = (xs.take s.1).countP (fun y => decide (y ≤ x)))
      (fun s => xs.length - s.1) (0, 0, 0) ⟨rfl, rfl, rfl, rfl, rfl, rfl, rfl, rfl, rfl, rfl, rfl, trivial⟩ rfl ⟨Nat.zero_le _, by simp, by simp⟩ (fun _ _ => ⟨trivial, trivial, trivial, trivial, trivial, trivial, trivial, trivial, trivial, trivial, trivial, trivial⟩) (fun _ _ => trivial) (fun _ _ => Nat.le_refl _) ?_
    rintro ⟨c, be, up⟩ ⟨hc, hbe, hup⟩
    have hc : c ≤ xs.length := hc
    have hbe : be = (xs.take c).countP (fun y => decide (y < x)) := hbe
    have hup : up = (xs.take c).countP (fun y => decide (y ≤ x)) := hup
    have hbl : be ≤ c := by rw [hbe]; exact Nat.le_trans List.countP_le_length (by rw [List.length_take]; omega)
    have hul : up ≤ c := by rw [hup]; exact Nat.le_trans List.countP_le_length (by rw [List.length_take]; omega)
    refine ⟨fun h4 => ?_, fun h4 => ?_⟩
    · have h4 : c < xs.length := by have := dt h4; simp at this; exact this
      have hy := List.getElem?_eq_getElem h4
      have incc : some (i (IntKind.i64.wrap ((c : Int) + 1))) = some (i ((c + 1 : Nat) : Int)) := by rw [wrap_id (by omega) (by omega)]; rfl
      have incb : some (i (IntKind.i64.wrap ((be : Int) + 1))) = some (i ((be + 1 : Nat) : Int)) := by rw [wrap_id (by omega) (by omega)]; rfl
      have incu : some (i (IntKind.i64.wrap ((up : Int) + 1))) = some (i ((up + 1 : Nat) : Int)) := by rw [wrap_id (by omega) (by omega)]; rfl
      refine WOp.mk _ _ (iad_list rfl rfl (Int.natCast_nonneg c) (il_get hy)) trivial ?_
      have eb : ∀ b : Nat, b = (if decide (xs[c] < x) = true then be + 1 else be) → b = (xs.take (c + 1)).countP (fun y => decide (y < x)) := by
        intro b hb
        rw [take_succ_get hy, List.countP_append, ← hbe, hb]
        simp only [List.countP_cons, List.countP_nil]
        split <;> omega
      have eu : ∀ u : Nat, u = (if decide (xs[c] ≤ x) = true then up + 1 else up) → u = (xs.take (c + 1)).countP (fun y => decide (y ≤ x)) := by
        intro u hu
        rw [take_succ_get hy, List.countP_append, ← hup, hu]
        simp only [List.countP_cons, List.countP_nil]
        split <;> omega
      refine ⟨fun h5 => ⟨fun h6 => ?_, fun h6 => ?_⟩, fun h5 => ⟨fun h6 => ?_, fun h6 => ?_⟩⟩
      · exact ⟨(c + 1, be + 1, up + 1), ⟨rfl, rfl, rfl, rfl, rfl, rfl, incb, incu, rfl, rfl, incc, trivial⟩, rfl, ⟨h4, eb _ (by rw [if_pos h5]), eu _ (by rw [if_pos h6])⟩, by show xs.length - (c + 1) < _; omega⟩
      · exact ⟨(c + 1, be + 1, up), ⟨rfl, rfl, rfl, rfl, rfl, rfl, incb, rfl, rfl, rfl, incc, trivial⟩, rfl, ⟨h4, eb _ (by rw [if_pos h5]), eu _ (by rw [if_neg (by rw [h6]; decide)])⟩, by show xs.length - (c + 1) < _; omega⟩
      · exact ⟨(c + 1, be, up + 1), ⟨rfl, rfl, rfl, rfl, rfl, rfl, rfl, incu, rfl, rfl, incc, trivial⟩, rfl, ⟨h4, eb _ (by rw [if_neg (by rw [h5]; decide)]), eu _ (by rw [if_pos h6])⟩, by show xs.length - (c + 1) < _; omega⟩
      · exact ⟨(c + 1, be, up), ⟨rfl, rfl, rfl, rfl, rfl, rfl, rfl, rfl, rfl, rfl, incc, trivial⟩, rfl, ⟨h4, eb _ (by rw [if_neg (by rw [h5]; decide)]), eu _ (by rw [if_neg (by rw [h6]; decide)])⟩, by show xs.length - (c + 1) < _; omega⟩
    · have h4 : c = xs.length := by have := df h4; simp at this; omega
      rw [h4, List.take_length] at hbe hup
      have hK : KthB k xs x = (decide ((be : Int) ≤ k) && decide (k < (up : Int))) := by rw [hbe, hup]; rfl
      refine ⟨fun h5 => ⟨fun h6 => ?_, fun h6 => ?_⟩, fun h5 => ?_⟩
      · have e := kth_is (by omega) (by omega) (hK.trans (by rw [h5, h6]; rfl))
        exact endP (.inr rfl) rfl (ib_eq (by rw [e]) (by rw [e])) ⟨trivial, trivial, trivial⟩
      · exact ⟨a + 1, ⟨rfl, rfl, rfl, rfl, inc, trivial⟩, rfl, next (hK.trans (by rw [h5, h6]; rfl)), by show xs.length - (a + 1) < _; omega⟩
      · exact ⟨a + 1, ⟨rfl, rfl, rfl, rfl, inc, trivial⟩, rfl, next (hK.trans (by rw [h5]; rfl)), by show xs.length - (a + 1) < _; omega⟩
  · have h3 : a = xs.length := by have := df h3; simp at this; omega
    rw [h3, List.take_length] at hno
    obtain ⟨x, hx, hk⟩ := kth_has (k := k) (xs := xs) (by omega) (by omega)
    rw [hno x hx] at hk; cases hk
theorem leastR (k : Int) (t : Bool) (xs : List Int) (m : Mem) : ACall Tryz.prog 74 [i k, il t xs] m (.tup [i (LeastF k xs).1, bools (LeastF k xs).2]) m := acall_pure (leastR_0 k t xs) ⟨trivial, trivial, trivial⟩ m
theorem mostR7_0 (k : Int) (t : Bool) (xs : List Int) : ACall Tryz.prog 73 [i k, il t xs] [] (.tup [i (MostF k xs).1, bools (MostF k xs).2]) [] := by
  refine acall_fact (F := xs.length ≤ 281474976710656) (fun S vs _ _ hv => by obtain ⟨_, _, _, _, z, zs, _, hv, _⟩ := hv; exact il_len hv) fun hlen => ?_
  have ll : (xs.map fun n => [iv n]).length = xs.length := List.length_map _
  refine acall_run R_ref07_Most_ok ⟨fun h1 => ?_, fun h1 => ⟨fun h2 => ?_, fun h2 => ?_⟩⟩
  · have e : MostF k xs = (0, false) := by simp only [MostF, h1, Bool.true_or, if_true]
    exact endP (.inr rfl) rfl (ib_eq (by rw [e]) (by rw [e])) ⟨trivial, trivial, trivial⟩
  · rw [ll] at h2
    have e : MostF k xs = (0, false) := by simp only [MostF, h2, Bool.or_true, if_true]
    exact endP (.inr rfl) rfl (ib_eq (by rw [e]) (by rw [e])) ⟨trivial, trivial, trivial⟩
  rw [ll] at h2
  have e : MostF k xs = LeastF ((xs.length : Int) - 1 - k) xs := by simp only [MostF, h1, h2, Bool.or_false, Bool.false_eq_true, if_false]
  have h1 := df h1
  have h2 := df h2
  have w : IntKind.i64.wrap (IntKind.i64.wrap (((xs.map fun n => [iv n]).length : Int) - 1) - k) = (xs.length : Int) - 1 - k := by
    rw [ll, wrap_id (n := (xs.length : Int) - 1) (by omega) (by omega), wrap_id (by omega) (by omega)]
  have hc : ∀ m, ACall Tryz.prog 74 [i (IntKind.i64.wrap (IntKind.i64.wrap (((xs.map fun n => [iv n]).length : Int) - 1) - k)), il t xs] m (.tup [i (MostF k xs).1, bools (MostF k xs).2]) m := fun m => by rw [w, e]; exact leastR _ t xs m
  refine WCall.any _ hc (WB.of ?_)
  exact endP (.inr rfl) rfl (ib_eq rfl rfl) ⟨trivial, trivial, trivial⟩
theorem mostR7 (k : Int) (t : Bool) (xs : List Int) (m : Mem) : ACall Tryz.prog 73 [i k, il t xs] m (.tup [i (MostF k xs).1, bools (MostF k xs).2]) m := acall_pure (mostR7_0 k t xs) ⟨trivial, trivial, trivial⟩ m
theorem fuseR_0 (f : Int) (t : Bool) (l : List Span) (hl : l.length ≤ 1048576) : ACall Tryz.prog 38 [i f, spl t l] [] (.tup [.agg (eSpan (FuseF f l).1), bools (FuseF f l).2]) [] := by
  have len : (l.map rSpan).length = l.length := List.length_map _
  have few : ∀ {L : Env} {mm : Mem} {e : Exit}, FewF f l.length = true → (e = .normal ∨ e = .ret) → aress L mm R_ref07_Fuse.res = some [.agg [i 0, i 0], bools false] → Ends R_ref07_Fuse [] (.tup [.agg (eSpan (FuseF f l).1), bools (FuseF f l).2]) [] e L mm := by
    intro L mm e h he hr
    have h' : FuseF f l = (⟨0, 0⟩, false) := by simp only [FuseF, h, if_true]
    exact endP he hr (by rw [h']; rfl) (by rw [h']; exact ⟨flatS _, trivial, trivial⟩)
  have hlc : ((l.map rSpan).length : Int) = (l.length : Int) := by rw [len]
  have hfw : ∀ m, ACall Tryz.prog 72 [i f, i (l.map rSpan).length] m (bools (FewF f l.length)) m := fun m => by rw [len]; exact fewR f l.length (by omega) m
  refine acall_run R_ref07_Fuse_ok ?_
  refine WCall.any _ hfw ⟨fun h => few h (.inr rfl) rfl, fun hfew => ?_⟩
  have h2' : 0 < l.length := by
    unfold FewF at hfew
    simp only [Bool.or_eq_false_iff, decide_eq_false_iff_not] at hfew
    omega
  have h0 : l ≠ [] := fun h => by subst h; simp at h2'
  obtain ⟨s0, ss, rfl⟩ := List.exists_cons_of_ne_nil h0
  refine wloopc (σ := Nat) (fun k => [(0, i f), (4, .ptr 0 0 0), (6, fV 2 k), (7, fV 3 k), (19, spl t (s0 :: ss)), (20, i ((s0 :: ss).map rSpan).length), (21, i k)]) (fun k => fM s0 (s0 :: ss) k) (fun k => k ≤ (s0 :: ss).length)
    (fun k => (s0 :: ss).length - k) 0 ⟨rfl, rfl, rfl, rfl, rfl, rfl, rfl, trivial⟩ rfl (Nat.zero_le _) ?_ ?_ ?_ ?_
  · intro k _
    cases k with
    | zero => exact ⟨trivial, (by decide : 0 < 1), trivial, trivial, trivial, trivial, trivial, trivial⟩
    | succ k => exact ⟨trivial, (by show 0 < 4; decide), (by show 2 < 4; decide), (by show 3 < 4; decide), trivial, trivial, trivial, trivial⟩
  · intro k _
    cases k with
    | zero => exact ⟨⟨trivial, trivial, trivial⟩, trivial⟩
    | succ k => exact ⟨⟨trivial, trivial, trivial⟩, ⟨trivial, trivial, trivial⟩, under_ib _ _ _, under_ib _ _ _, trivial⟩
  · intro k _
    cases k <;> simp [fM]
  intro k hk
  have inc : some (i (IntKind.i64.wrap ((k : Int) + 1))) = some (i ((k + 1 : Nat) : Int)) := by rw [wrap_id (by omega) (by omega)]; rfl
  refine ⟨fun h4 => ?_, fun h4 => ?_⟩
  · have h4 : k < (s0 :: ss).length := by have := dt h4; simp at this; simp; omega
    have hx := List.getElem?_eq_getElem h4
    cases k with
    | zero =>
      refine WOp.mk _ _ (iad_list (n := 0) rfl rfl (Int.le_refl _) (row_get (k := 0) hx)) trivial ?_
      refine WOp.mk _ _ (app_ib0 (y := s0.lo) rfl rfl) trivial ?_
      refine WOp.mk _ _ (app_ib0 (y := s0.hi) rfl rfl) trivial ?_
      exact ⟨1, ⟨rfl, rfl, rfl, rfl, rfl, rfl, inc, trivial⟩, rfl, h4, by simp⟩
    | succ k =>
      refine WOp.mk _ _ (iad_list (n := ((k + 1 : Nat) : Int)) rfl rfl (Int.natCast_nonneg _) (row_get hx)) trivial ?_
      have hlo : ((s0 :: ss).take (k + 1)).length = k + 1 := by rw [List.length_take]; omega
      have app2 : ∀ {L : Env} {m : Mem} {b : Nat} {g : Span → Int} {y : Int} {x z : Operand}, opd L x = some (.sl b k 0 (k + 1) 1) → opd L z = some (.p (.list 1 true [[iv y]])) → m[b]? = some (ib (((s0 :: ss).take (k + 1)).map g) k) → g (s0 :: ss)[k + 1] = y →
          aop L m (.app 1 8 x z) = some (.sl b (k + 1) 0 (k + 2) 1, m.set b (ib (((s0 :: ss).take (k + 2)).map g) (k + 1))) := by
        intro L m b g y x z e1 e2 e3 e4
        have := app_ib (L := L) (m := m) (b := b) (ver := k) (xs := ((s0 :: ss).take (k + 1)).map g) (y := y) (x := x) (z := z) (by rw [e1, List.length_map, hlo]) e2 e3 (by rw [List.length_map, hlo]; omega)
        rw [this, List.length_map, hlo, take_succ_get hx, List.map_append, List.map_singleton, e4]
      refine WOp.mk _ _ (app2 (g := (·.lo)) rfl rfl rfl rfl) trivial ?_
      refine WOp.mk _ _ (app2 (g := (·.hi)) rfl rfl rfl rfl) trivial ?_
      exact ⟨k + 2, ⟨rfl, rfl, rfl, rfl, rfl, rfl, inc, trivial⟩, rfl, h4, by omega⟩
  · have h4 : k = (s0 :: ss).length := by have := df h4; simp at this; simp at hk ⊢; omega
    subst h4
    have tk : (s0 :: ss).take (ss.length + 1) = s0 :: ss := List.take_of_length_le (by simp)
    have hM : ∀ m : Mem, m[2]? = some (ib (((s0 :: ss).take (ss.length + 1)).map (·.lo)) ss.length) → ACall Tryz.prog 73 [i f, .sl 2 ss.length 0 (ss.length + 1) 1] m (.tup [i (MostF f ((s0 :: ss).map (·.lo))).1, bools (MostF f ((s0 :: ss).map (·.lo))).2]) m := fun m hm => by
      rw [tk] at hm
      have := view_ib hm
      rw [List.length_map] at this
      exact acall_view (.cons (.p _) (.cons this .nil)) ⟨trivial, trivial, trivial⟩ (mostR7_0 f false _)
    have hL : ∀ m : Mem, m[3]? = some (ib (((s0 :: ss).take (ss.length + 1)).map (·.hi)) ss.length) → ACall Tryz.prog 74 [i f, .sl 3 ss.length 0 (ss.length + 1) 1] m (.tup [i (LeastF f ((s0 :: ss).map (·.hi))).1, bools (LeastF f ((s0 :: ss).map (·.hi))).2]) m := fun m hm => by
      rw [tk] at hm
      have := view_ib hm
      rw [List.length_map] at this
      exact acall_view (.cons (.p _) (.cons this .nil)) ⟨trivial, trivial, trivial⟩ (leastR_0 f false _)
    have fin : ∀ {L : Env} {mm : Mem} {e : Exit} {s : Span} {b : Bool}, FuseF f (s0 :: ss) = (s, b) → (e = .normal ∨ e = .ret) → aress L mm R_ref07_Fuse.res = some [.agg (eSpan s), bools b] → Ends R_ref07_Fuse [] (.tup [.agg (eSpan (FuseF f (s0 :: ss)).1), bools (FuseF f (s0 :: ss)).2]) [] e L mm := by
      intro L mm e s b h he hr
      exact endP he hr (by rw [h]; rfl) (by rw [h]; exact ⟨flatS _, trivial, trivial⟩)
    have two : ∀ {L : Env} {mm : Mem} {e : Exit}, (LeastF f ((s0 :: ss).map (·.hi))).1 < (MostF f ((s0 :: ss).map (·.lo))).1 → (e = .normal ∨ e = .ret) → aress L mm R_ref07_Fuse.res = some [.agg [i 0, i 0], bools false] → Ends R_ref07_Fuse [] (.tup [.agg (eSpan (FuseF f (s0 :: ss)).1), bools (FuseF f (s0 :: ss)).2]) [] e L mm :=
      fun h he hr => fin (s := ⟨0, 0⟩) (by simp only [FuseF, hfew, Bool.false_eq_true, if_false, if_pos h]) he hr
    have one : ∀ {L : Env} {mm : Mem} {e : Exit}, ¬ (LeastF f ((s0 :: ss).map (·.hi))).1 < (MostF f ((s0 :: ss).map (·.lo))).1 → (e = .normal ∨ e = .ret) → aress L mm R_ref07_Fuse.res = some [.agg (eSpan (SpanOf (MostF f ((s0 :: ss).map (·.lo))).1 (LeastF f ((s0 :: ss).map (·.hi))).1)), bools true] → Ends R_ref07_Fuse [] (.tup [.agg (eSpan (FuseF f (s0 :: ss)).1), bools (FuseF f (s0 :: ss)).2]) [] e L mm :=
      fun h he hr => fin (by simp only [FuseF, hfew, Bool.false_eq_true, if_false, if_neg h]) he hr
    refine WCall.here rfl _ _ (hM _ rfl) trivial ⟨fun _ => ?_, fun _ => ?_⟩
    · refine WCall.here rfl _ _ (hL _ rfl) trivial ⟨fun _ => ⟨fun h => two (dt h) (.inr rfl) rfl, fun h => WCall.any _ (ofR _ _) (one (df h) (.inr rfl) rfl)⟩, fun _ => ⟨fun h => two (dt h) (.inr rfl) rfl, fun h => WCall.any _ (ofR _ _) (one (df h) (.inr rfl) rfl)⟩⟩
    · refine WCall.here rfl _ _ (hL _ rfl) trivial ⟨fun _ => ⟨fun h => two (dt h) (.inr rfl) rfl, fun h => WCall.any _ (ofR _ _) (one (df h) (.inr rfl) rfl)⟩, fun _ => ⟨fun h => two (dt h) (.inr rfl) rfl, fun h => WCall.any _ (ofR _ _) (one (df h) (.inr rfl) rfl)⟩⟩
theorem fuseR (f : Int) (t : Bool) (l : List Span) (hl : l.length ≤ 1048576) (m : Mem) : ACall Tryz.prog 38 [i f, spl t l] m (.tup [.agg (eSpan (FuseF f l).1), bools (FuseF f l).2]) m := acall_pure (fuseR_0 f t l hl) ⟨trivial, trivial, trivial⟩ m
end Go.Proofs.YtlkphnhlibpngaaGreat.Abs
