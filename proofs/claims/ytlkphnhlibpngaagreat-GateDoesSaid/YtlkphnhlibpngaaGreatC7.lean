/- Contracts, part 7: what many say. -/
import Derived.Test.YtlkphnhlibpngaaGreatSo3
set_option linter.unusedVariables false
set_option linter.unusedSimpArgs false
set_option maxRecDepth 100000
namespace Go.Proofs.YtlkphnhlibpngaaGreat.Abs
open Go

theorem ib_eq {a b : Int} {c d : Bool} (h1 : a = b) (h2 : c = d) : tupled [i a, bools c] = .tup [i b, bools d] := by rw [h1, h2]; rfl
theorem least_0 (k : Int) (t : Bool) (xs : List Int) (hl : xs.length ≤ 1048576) : ACall Tryz.prog 91 [i k, il t xs] [] (.tup [i (LeastF k xs).1, bools (LeastF k xs).2]) [] := by
  have len : (xs.map fun n => [iv n]).length = xs.length := List.length_map _
  refine acall_run R_trim_Least_ok ⟨fun h1 => ?_, fun h1 => ⟨fun h2 => ?_, fun h2 => ?_⟩⟩
  · exact endP (.inr rfl) rfl (ib_eq (by simp only [LeastF, h1, Bool.true_or, if_true]) (by simp only [LeastF, h1, Bool.true_or, if_true])) ⟨trivial, trivial, trivial⟩
  · rw [len] at h2
    exact endP (.inr rfl) rfl (ib_eq (by simp only [LeastF, h2, Bool.or_true, if_true]) (by simp only [LeastF, h2, Bool.or_true, if_true])) ⟨trivial, trivial, trivial⟩
  · rw [len] at h2
    have h1' := df h1
    have h2' := df h2
    have hk : k.toNat < (sorted xs).length := by rw [sorted_length]; omega
    have hx := List.getElem?_eq_getElem hk
    refine WCall.here rfl _ _ (values_0 t xs) trivial ?_
    refine WCall.here rfl _ _ (sorted_1 t xs (fun h => by subst h; simp at h2'; omega) hl) trivial ?_
    refine WOp.mk _ _ (iad_list (n := k) rfl rfl (by omega) (by rw [List.getElem?_map, hx]; rfl)) trivial ?_
    exact endP (.inr rfl) rfl (ib_eq (by simp only [LeastF, h1, h2, Bool.or_false, Bool.false_eq_true, if_false, hx, Option.getD_some]) (by simp only [LeastF, h1, h2, Bool.or_false, Bool.false_eq_true, if_false])) ⟨trivial, trivial, trivial⟩
theorem least_ok (k : Int) (t : Bool) (xs : List Int) (hl : xs.length ≤ 1048576) (m : Mem) : ACall Tryz.prog 91 [i k, il t xs] m (.tup [i (LeastF k xs).1, bools (LeastF k xs).2]) m := acall_pure (least_0 k t xs hl) ⟨trivial, trivial, trivial⟩ m
theorem most_0 (k : Int) (t : Bool) (xs : List Int) (hl : xs.length ≤ 1048576) : ACall Tryz.prog 90 [i k, il t xs] [] (.tup [i (MostF k xs).1, bools (MostF k xs).2]) [] := by
  have len : (xs.map fun n => [iv n]).length = xs.length := List.length_map _
  refine acall_run R_trim_Most_ok ⟨fun h1 => ?_, fun h1 => ⟨fun h2 => ?_, fun h2 => ?_⟩⟩
  · exact endP (.inr rfl) rfl (ib_eq (by simp only [MostF, h1, Bool.true_or, if_true]) (by simp only [MostF, h1, Bool.true_or, if_true])) ⟨trivial, trivial, trivial⟩
  · rw [len] at h2
    exact endP (.inr rfl) rfl (ib_eq (by simp only [MostF, h2, Bool.or_true, if_true]) (by simp only [MostF, h2, Bool.or_true, if_true])) ⟨trivial, trivial, trivial⟩
  · rw [len] at h2
    have h1' := df h1
    have h2' := df h2
    have hw : IntKind.i64.wrap (IntKind.i64.wrap ((xs.map fun n => [iv n]).length - 1) - k) = (xs.length : Int) - 1 - k := by
      rw [len, wrap_id (n := (xs.length : Int) - 1) (by omega) (by omega), wrap_id (by omega) (by omega)]
    have e : MostF k xs = LeastF ((xs.length : Int) - 1 - k) xs := by simp only [MostF, h1, h2, Bool.or_false, Bool.false_eq_true, if_false]
    have hc : ∀ m, ACall Tryz.prog 91 [i (IntKind.i64.wrap (IntKind.i64.wrap ((xs.map fun n => [iv n]).length - 1) - k)), il t xs] m (.tup [i (MostF k xs).1, bools (MostF k xs).2]) m := fun m => by
      rw [hw, e]; exact least_ok _ t xs hl m
    refine WCall.any _ hc ⟨fun h3 => ?_, fun h3 => ?_⟩
    · exact endP (.inr rfl) rfl (ib_eq rfl h3.symm) ⟨trivial, trivial, trivial⟩
    · exact endP (.inr rfl) rfl (ib_eq rfl h3.symm) ⟨trivial, trivial, trivial⟩
theorem most_ok (k : Int) (t : Bool) (xs : List Int) (hl : xs.length ≤ 1048576) (m : Mem) : ACall Tryz.prog 90 [i k, il t xs] m (.tup [i (MostF k xs).1, bools (MostF k xs).2]) m := acall_pure (most_0 k t xs hl) ⟨trivial, trivial, trivial⟩ m

/-! rows of numbers of one's own -/
theorem app_ib {L : Env} {m : Mem} {b ver : Nat} {xs : List Int} {y : Int} {x z : Operand} (hx : opd L x = some (.sl b ver 0 xs.length 1)) (hz : opd L z = some (.p (.list 1 true [[iv y]]))) (hb : m[b]? = some (ib xs ver)) (hl : xs.length ≤ 1048576) :
    aop L m (.app 1 8 x z) = some (.sl b (ver + 1) 0 (xs.length + 1) 1, m.set b (ib (xs ++ [y]) (ver + 1))) := by
  have e3 : srcCells m 1 (.p (.list 1 true [[iv y]])) = some (1, [.p (iv y)]) := by simp [srcCells]
  simp only [aop, hx, hz, appendAV, e3, hb, ib, true_and]
  rw [if_pos ⟨by simp, by omega, by decide⟩]
  simp
theorem app_ib0 {L : Env} {m : Mem} {y : Int} {s : Nat} {x z : Operand} (hx : opd L x = some (.p (.list s true []))) (hz : opd L z = some (.p (.list 1 true [[iv y]]))) :
    aop L m (.app 1 8 x z) = some (.sl m.length 0 0 1 1, m ++ [ib [y] 0]) := by
  rw [app_new (ys := [[iv y]]) hx hz (by simp) (by decide) (by show 1 * 8 ≤ _; decide)]; rfl
theorem view_ib {m : Mem} {b ver : Nat} {xs : List Int} (hb : m[b]? = some (ib xs ver)) : View m (.sl b ver 0 xs.length 1) (il false xs) :=
  .sl hb rfl rfl (by rw [ib_flat]; rfl) (by simp) (by intro r hr; obtain ⟨l, _, rfl⟩ := List.mem_map.1 hr; rfl) (fun c hc => one_ib xs c hc)
theorem under_ib (k : Nat) (xs : List Int) (ver : Nat) : AV.unders k (ib xs ver).cells := under_p k _
def rSpan (s : Span) : List PV := [iv s.lo, iv s.hi]
abbrev spl (t : Bool) (l : List Span) : AV := .p (.list 2 t (l.map rSpan))
def fM (s0 : Span) (l : List Span) : Nat → Mem
  | 0 => [.box [zi, zi]]
  | k + 1 => [.box [zi, zi], .box [i s0.lo, i s0.hi], ib ((l.take (k + 1)).map (·.lo)) k, ib ((l.take (k + 1)).map (·.hi)) k]
def fV (b : Nat) : Nat → AV
  | 0 => zl
  | k + 1 => .sl b k 0 (k + 1) 1
theorem fuse_0 (f : Int) (t : Bool) (l : List Span) (hl : l.length ≤ 1048576) : ACall Tryz.prog 61 [i f, spl t l] [] (.tup [.agg (eSpan (FuseF f l).1), bools (FuseF f l).2]) [] := by
  have len : (l.map rSpan).length = l.length := List.length_map _
  have few : ∀ {L : Env} {mm : Mem} {e : Exit}, FewF f l.length = true → (e = .normal ∨ e = .ret) → aress L mm R_trim_Fuse.res = some [.agg [i 0, i 0], bools false] → Ends R_trim_Fuse [] (.tup [.agg (eSpan (FuseF f l).1), bools (FuseF f l).2]) [] e L mm := by
    intro L mm e h he hr
    have h' : FuseF f l = (⟨0, 0⟩, false) := by simp only [FuseF, h, if_true]
    exact endP he hr (by rw [h']; rfl) (by rw [h']; exact ⟨flatS _, trivial, trivial⟩)
  refine acall_run R_trim_Fuse_ok ⟨fun h1 => ?_, fun h1 => ⟨fun h2 => ?_, fun h2 => ⟨fun h3 => ?_, fun h3 => ?_⟩⟩⟩
  · exact few (by simp only [FewF, h1, Bool.true_or]) (.inr rfl) rfl
  · rw [len] at h2
    exact few (by simp only [FewF, h2, Bool.or_true, Bool.true_or]) (.inr rfl) rfl
  · rw [len] at h2 h3
    have h1' := df h1; have h2' := df h2; have h3' := dt h3
    rw [wrap_id (by omega) (by omega)] at h3'
    exact few (by simp only [FewF, decide_eq_true h3', Bool.or_true]) (.inr rfl) rfl
  rw [len] at h2 h3
  have h1' := df h1; have h2' := df h2; have h3' := df h3
  rw [wrap_id (by omega) (by omega)] at h3'
  have hfew : FewF f l.length = false := by simp only [FewF, h1, h2, decide_eq_false h3', Bool.or_false]
  have h0 : l ≠ [] := fun h => by subst h; simp at h2'; omega
  obtain ⟨s0, ss, rfl⟩ := List.exists_cons_of_ne_nil h0
  refine wloopc (σ := Nat) (fun k => [(0, i f), (4, .ptr 0 0 0), (6, fV 2 k), (7, fV 3 k), (31, spl t (s0 :: ss)), (32, i ((s0 :: ss).map rSpan).length), (33, i k)]) (fun k => fM s0 (s0 :: ss) k) (fun k => k ≤ (s0 :: ss).length)
    (fun k => (s0 :: ss).length - k) 0 ⟨rfl, rfl, rfl, rfl, rfl, rfl, rfl, trivial⟩ rfl (Nat.zero_le _) ?_ ?_ ?_ ?_
  · intro k _
    cases k with
    | zero => exact ⟨trivial, (by decide : 0 < 1), trivial, trivial, trivial, trivial, trivial, trivial⟩
    | succ k => exact ⟨trivial, (by show 0 < 4; decide), (by show 2 < 4; decide), (by show 3 < 4; decide), trivial, trivial, trivial, trivial⟩
  · intro k _
    cases k with
    | zero => exact ⟨⟨trivial, trivial, trivial⟩, trivial⟩
    | succ k => exact ⟨⟨trivial, trivial, trivial⟩, ⟨trivial, trivial, trivial⟩, under_ib _ _ _, under_ib _ _ _, trivial⟩
  · intro k _
    cases k <;> simp [fM]
  intro k hk
  have inc : some (i (IntKind.i64.wrap ((k : Int) + 1))) = some (i ((k + 1 : Nat) : Int)) := by rw [wrap_id (by omega) (by omega)]; rfl
  refine ⟨fun h4 => ?_, fun h4 => ?_⟩
  · have h4 : k < (s0 :: ss).length := by have := dt h4; simp at this; simp; omega
    have hx := List.getElem?_eq_getElem h4
    cases k with
    | zero =>
      refine WOp.mk _ _ (iad_list (n := 0) rfl rfl (Int.le_refl _) (row_get (k := 0) hx)) trivial ?_
      refine WReg.mk [1] ?_
      refine WOp.mk _ _ (app_ib0 (y := s0.lo) rfl rfl) ⟨rfl, trivial⟩ ?_
      refine WOp.mk _ _ (app_ib0 (y := s0.hi) rfl rfl) ⟨rfl, trivial⟩ ?_
      exact ⟨1, ⟨rfl, rfl, rfl, rfl, rfl, rfl, inc, trivial⟩, rfl, h4, by simp⟩
    | succ k =>
      refine WOp.mk _ _ (iad_list (n := ((k + 1 : Nat) : Int)) rfl rfl (Int.natCast_nonneg _) (row_get hx)) trivial ?_
      refine WReg.mk [4] ?_
      have hlo : ((s0 :: ss).take (k + 1)).length = k + 1 := by rw [List.length_take]; omega
      have app2 : ∀ {L : Env} {m : Mem} {b : Nat} {g : Span → Int} {y : Int} {x z : Operand}, opd L x = some (.sl b k 0 (k + 1) 1) → opd L z = some (.p (.list 1 true [[iv y]])) → m[b]? = some (ib (((s0 :: ss).take (k + 1)).map g) k) → g (s0 :: ss)[k + 1] = y →
          aop L m (.app 1 8 x z) = some (.sl b (k + 1) 0 (k + 2) 1, m.set b (ib (((s0 :: ss).take (k + 2)).map g) (k + 1))) := by
        intro L m b g y x z e1 e2 e3 e4
        have := app_ib (L := L) (m := m) (b := b) (ver := k) (xs := ((s0 :: ss).take (k + 1)).map g) (y := y) (x := x) (z := z) (by rw [e1, List.length_map, hlo]) e2 e3 (by rw [List.length_map, hlo]; omega)
        rw [this, List.length_map, hlo, take_succ_get hx, List.map_append, List.map_singleton, e4]
      refine WOp.mk _ _ (app2 (g := (·.lo)) rfl rfl rfl rfl) ⟨rfl, trivial⟩ ?_
      refine WOp.mk _ _ (app2 (g := (·.hi)) rfl rfl rfl rfl) ⟨rfl, trivial⟩ ?_
      exact ⟨k + 2, ⟨rfl, rfl, rfl, rfl, rfl, rfl, inc, trivial⟩, rfl, h4, by omega⟩
  · have h4 : k = (s0 :: ss).length := by have := df h4; simp at this; simp at hk ⊢; omega
    subst h4
    have tk : (s0 :: ss).take (ss.length + 1) = s0 :: ss := List.take_of_length_le (by simp)
    have hM : ∀ m : Mem, m[2]? = some (ib (((s0 :: ss).take (ss.length + 1)).map (·.lo)) ss.length) → ACall Tryz.prog 90 [i f, .sl 2 ss.length 0 (ss.length + 1) 1] m (.tup [i (MostF f ((s0 :: ss).map (·.lo))).1, bools (MostF f ((s0 :: ss).map (·.lo))).2]) m := fun m hm => by
      rw [tk] at hm
      have := view_ib hm
      rw [List.length_map] at this
      exact acall_view (.cons (.p _) (.cons this .nil)) ⟨trivial, trivial, trivial⟩ (most_0 f false _ (by rw [List.length_map]; exact hl))
    have hL : ∀ m : Mem, m[3]? = some (ib (((s0 :: ss).take (ss.length + 1)).map (·.hi)) ss.length) → ACall Tryz.prog 91 [i f, .sl 3 ss.length 0 (ss.length + 1) 1] m (.tup [i (LeastF f ((s0 :: ss).map (·.hi))).1, bools (LeastF f ((s0 :: ss).map (·.hi))).2]) m := fun m hm => by
      rw [tk] at hm
      have := view_ib hm
      rw [List.length_map] at this
      exact acall_view (.cons (.p _) (.cons this .nil)) ⟨trivial, trivial, trivial⟩ (least_0 f false _ (by rw [List.length_map]; exact hl))
    have fin : ∀ {L : Env} {mm : Mem} {e : Exit} {s : Span} {b : Bool}, FuseF f (s0 :: ss) = (s, b) → (e = .normal ∨ e = .ret) → aress L mm R_trim_Fuse.res = some [.agg (eSpan s), bools b] → Ends R_trim_Fuse [] (.tup [.agg (eSpan (FuseF f (s0 :: ss)).1), bools (FuseF f (s0 :: ss)).2]) [] e L mm := by
      intro L mm e s b h he hr
      exact endP he hr (by rw [h]; rfl) (by rw [h]; exact ⟨flatS _, trivial, trivial⟩)
    have two : ∀ {L : Env} {mm : Mem} {e : Exit}, (LeastF f ((s0 :: ss).map (·.hi))).1 < (MostF f ((s0 :: ss).map (·.lo))).1 → (e = .normal ∨ e = .ret) → aress L mm R_trim_Fuse.res = some [.agg [i 0, i 0], bools false] → Ends R_trim_Fuse [] (.tup [.agg (eSpan (FuseF f (s0 :: ss)).1), bools (FuseF f (s0 :: ss)).2]) [] e L mm :=
      fun h he hr => fin (s := ⟨0, 0⟩) (by simp only [FuseF, hfew, Bool.false_eq_true, if_false, if_pos h]) he hr
    have one : ∀ {L : Env} {mm : Mem} {e : Exit}, ¬ (LeastF f ((s0 :: ss).map (·.hi))).1 < (MostF f ((s0 :: ss).map (·.lo))).1 → (e = .normal ∨ e = .ret) → aress L mm R_trim_Fuse.res = some [.agg (eSpan (SpanOf (MostF f ((s0 :: ss).map (·.lo))).1 (LeastF f ((s0 :: ss).map (·.hi))).1)), bools true] → Ends R_trim_Fuse [] (.tup [.agg (eSpan (FuseF f (s0 :: ss)).1), bools (FuseF f (s0 :: ss)).2]) [] e L mm :=
      fun h he hr => fin (by simp only [FuseF, hfew, Bool.false_eq_true, if_false, if_neg h]) he hr
    refine WCall.here rfl _ _ (hM _ rfl) trivial ⟨fun _ => ?_, fun _ => ?_⟩
    · refine WCall.here rfl _ _ (hL _ rfl) trivial ⟨fun _ => ⟨fun h => two (dt h) (.inr rfl) rfl, fun h => WCall.any _ (of_ok _ _) (one (df h) (.inr rfl) rfl)⟩, fun _ => ⟨fun h => two (dt h) (.inr rfl) rfl, fun h => WCall.any _ (of_ok _ _) (one (df h) (.inr rfl) rfl)⟩⟩
    · refine WCall.here rfl _ _ (hL _ rfl) trivial ⟨fun _ => ⟨fun h => two (dt h) (.inr rfl) rfl, fun h => WCall.any _ (of_ok _ _) (one (df h) (.inr rfl) rfl)⟩, fun _ => ⟨fun h => two (dt h) (.inr rfl) rfl, fun h => WCall.any _ (of_ok _ _) (one (df h) (.inr rfl) rfl)⟩⟩
theorem fuse_ok (f : Int) (t : Bool) (l : List Span) (hl : l.length ≤ 1048576) (m : Mem) : ACall Tryz.prog 61 [i f, spl t l] m (.tup [.agg (eSpan (FuseF f l).1), bools (FuseF f l).2]) m := acall_pure (fuse_0 f t l hl) ⟨trivial, trivial, trivial⟩ m
theorem afuse_0 (p : Params) (t : Bool) (l : List Span) (hl : l.length ≤ 1048576) : ACall Tryz.prog 34 [.agg (eP p), spl t l] [] (.tup [.agg (eSpan (FuseF p.f l).1), bools (FuseF p.f l).2]) [] := by
  refine acall_run R_anchor_Fuse_ok ?_
  refine WCall.any _ (fuse_ok p.f t l hl) ⟨fun h => ?_, fun h => ?_⟩
  · exact endP (.inr rfl) rfl (spanb_eq rfl rfl h.symm) ⟨flatS _, trivial, trivial⟩
  · exact endP (.inr rfl) rfl (spanb_eq rfl rfl h.symm) ⟨flatS _, trivial, trivial⟩
theorem afuse_ok (p : Params) (t : Bool) (l : List Span) (hl : l.length ≤ 1048576) (m : Mem) : ACall Tryz.prog 34 [.agg (eP p), spl t l] m (.tup [.agg (eSpan (FuseF p.f l).1), bools (FuseF p.f l).2]) m := acall_pure (afuse_0 p t l hl) ⟨flatP p, trivial, trivial⟩ m
end Go.Proofs.YtlkphnhlibpngaaGreat.Abs
