/- Contracts, part 6: what a gate was told. -/
import Derived.Test.YtlkphnhlibpngaaGreatC5
set_option linter.unusedVariables false
set_option linter.unusedSimpArgs false
set_option maxRecDepth 100000
namespace Go.Proofs.YtlkphnhlibpngaaGreat.Abs
open Go

theorem app_more {L : Env} {m : Mem} {b : Nat} {xs : List Heard} {y : Heard} {x z : Operand} (hx : opd L x = some (.sl b (xs.length - 1) 0 xs.length 15)) (hz : opd L z = some (.p (.list 15 true [rHeard y]))) (hb : m[b]? = some (rb xs (xs.length - 1))) (h0 : 0 < xs.length) (hl : xs.length ≤ 1048576) :
    aop L m (.app 15 128 x z) = some (.sl b ((xs ++ [y]).length - 1) 0 (xs ++ [y]).length 15, m.set b (rb (xs ++ [y]) ((xs ++ [y]).length - 1))) := by
  have h1 : xs.length * 15 = ((xs.map rHeard).flatten.map AV.p).length := by rw [List.length_map, rows_length rHeard_len]
  have h2 : (xs.length + 1) * 128 ≤ 140737488355328 := by omega
  have e1 : (xs ++ [y]).length = xs.length + 1 := by simp
  have e2 : xs.length - 1 + 1 = xs.length := by omega
  have e3 : srcCells m 15 (.p (.list 15 true [rHeard y])) = some (1, (rHeard y).map .p) := by
    simp [srcCells]
  simp only [aop, hx, hz, appendAV, e3, hb, rb, true_and]
  rw [if_pos ⟨h1, h2, by decide⟩]
  simp only [Option.some.injEq, Prod.mk.injEq]
  refine ⟨by rw [e1, e2]; rfl, ?_⟩
  rw [e1, e2, List.map_append, List.flatten_append, List.map_append]
  simp
theorem under_P (k : Nat) (p : Params) : AV.unders k (eP p) := ⟨trivial, trivial, trivial, trivial, trivial, trivial, trivial, trivial, trivial, trivial, trivial, trivial, trivial⟩
/-- Where what is taken lies, once something is. -/
def tm (p : Params) (h0 : Heard) : List Heard → Mem
  | [] => [.box (eP p)]
  | o :: os => [.box (eP p), .box ((rHeard h0).map .p), .box ((rMsg h0.msg).map .p), rb (o :: os) ((o :: os).length - 1)]
def tv : List Heard → AV
  | [] => .p (.list 0 true [])
  | o :: os => .sl 3 ((o :: os).length - 1) 0 (o :: os).length 15
/-- Is the sender among these? -/
theorem known_ok (m : Mem) (b : Nat) (y : Msg) (xs : List Heard) (x : AV) (hx : View m x (.p (.list 15 false (xs.map rHeard)))) (hb : m[b]? = some (.box ((rMsg y).map .p))) :
    ACall Tryz.prog 26 [x, .fn 27 [.ptr b 0 0]] m (bools (xs.any fun x => decide (x.msg.frm = y.frm))) m :=
  acall_view (.cons hx (.cons (.fn _ (.cons (.ptr hb rfl rfl (cs := rMsg y) rfl (Nat.zero_le _) (fun c hc => one_p hc (by intro q hq; simp only [rMsg, List.mem_cons, List.not_mem_nil, or_false] at hq; rcases hq with rfl | rfl | rfl | rfl | rfl | rfl | rfl | rfl | rfl | rfl | rfl | rfl | rfl | rfl <;> rfl))) .nil)) .nil)) trivial
    (containsH_0 (caps := [.fp (rMsg y)]) (by kernel_rfl) ⟨trivial, trivial⟩ (fun l => told1_0 l y) false xs)
theorem known_nil (m : Mem) (b : Nat) (y : Msg) (hb : m[b]? = some (.box ((rMsg y).map .p))) :
    ACall Tryz.prog 26 [.p (.list 0 true []), .fn 27 [.ptr b 0 0]] m (bools false) m :=
  acall_args (.cons (le_nil _ 15 _) (.cons (.refl _) .nil)) (known_ok m b y [] _ (.p _) hb)
theorem one_hs (xs : List Heard) : ∀ q ∈ ((xs.map rHeard).flatten), (AV.p q).one = true := by
  intro q hq
  obtain ⟨r, hr, hq⟩ := List.mem_flatten.1 hq
  obtain ⟨l, _, rfl⟩ := List.mem_map.1 hr
  simp only [rHeard, rMsg, List.cons_append, List.nil_append, List.mem_cons, List.not_mem_nil, or_false] at hq
  rcases hq with rfl | rfl | rfl | rfl | rfl | rfl | rfl | rfl | rfl | rfl | rfl | rfl | rfl | rfl | rfl <;> rfl
theorem view_rb {m : Mem} {b ver : Nat} {xs : List Heard} (hb : m[b]? = some (rb xs ver)) : View m (.sl b ver 0 xs.length 15) (.p (.list 15 false (xs.map rHeard))) :=
  .sl hb rfl rfl rfl (by simp) (by intro r hr; obtain ⟨l, _, rfl⟩ := List.mem_map.1 hr; rfl) (fun c hc => one_p hc (one_hs xs))
theorem told_0 (p : Params) (me : Int) (t : Bool) (l : List Heard) (hlen : l.length ≤ 1048576) : ACall Tryz.prog 10 [.agg (eP p), i me, .p (.list 15 t (l.map rHeard))] [] (.p (hd (Told p me l))) [] := by
  refine acall_run R_gate_Told_ok ?_
  refine wloopc (σ := Nat × List Heard × Heard) (fun s => [(1, i me), (2, .p (.list 15 t (l.map rHeard))), (3, .ptr 0 0 0), (7, tv s.2.1), (12, .p (.list 15 t (l.map rHeard))), (13, i (l.map rHeard).length), (14, i s.1)]) (fun s => tm p s.2.2 s.2.1)
    (fun s => s.1 ≤ l.length ∧ Few s.2.1 ∧ Firsts p me s.2.1 (l.drop s.1) = Firsts p me [] l) (fun s => l.length - s.1) (0, [], ⟨⟨0, 0, ⟨0, 0⟩, 0, 0, false, false, ⟨0, 0⟩, 0, ⟨0, 0⟩, []⟩, 0⟩) ⟨rfl, rfl, rfl, rfl, rfl, rfl, rfl, trivial⟩ rfl
    ⟨Nat.zero_le _, ⟨List.nodup_nil, fun x hx => by simp at hx⟩, rfl⟩ ?_ ?_ ?_ ?_
  · rintro ⟨k, out, h0⟩ _
    cases out with
    | nil => exact ⟨trivial, trivial, (by decide : 0 < 1), trivial, trivial, trivial, trivial, trivial⟩
    | cons o os => exact ⟨trivial, trivial, (by show 0 < 4; decide), (by show 3 < 4; decide), trivial, trivial, trivial, trivial⟩
  · rintro ⟨k, out, h0⟩ _
    cases out with
    | nil => exact ⟨under_P _ p, trivial⟩
    | cons o os => exact ⟨under_P _ p, under_p _ _, under_p _ _, under_flat _, trivial⟩
  · rintro ⟨k, out, h0⟩ _
    cases out <;> simp [tm]
  rintro ⟨k, out, h0⟩ ⟨hk, hf, hs⟩
  have hk : k ≤ l.length := hk
  have hf : Few out := hf
  have hs : Firsts p me out (l.drop k) = Firsts p me [] l := hs
  have inc : k < l.length → some (i (IntKind.i64.wrap ((k : Int) + 1))) = some (i ((k + 1 : Nat) : Int)) := fun h => by rw [wrap_id (by omega) (by omega)]; rfl
  cases out with
  | nil =>
    refine ⟨fun h1 => ?_, fun h1 => ?_⟩
    · have h1 : k < l.length := by have := dt h1; simp at this; exact this
      have hx := List.getElem?_eq_getElem h1
      rw [drop_get h1] at hs
      have skip : ∀ {L' : Env} {m' : Mem}, Takes p me [] l[k] = false → L'.get 1 = some (i me) → L'.get 2 = some (.p (.list 15 t (l.map rHeard))) → L'.get 3 = some (.ptr 0 0 0) → L'.get 7 = some (.p (.list 0 true [])) → L'.get 12 = some (.p (.list 15 t (l.map rHeard))) → L'.get 13 = some (i (l.map rHeard).length) → L'.get 14 = some (i (IntKind.i64.wrap ((k : Int) + 1))) → m'.take 1 = [.box (eP p)] →
          ∃ s' : Nat × List Heard × Heard, Says L' [(1, i me), (2, .p (.list 15 t (l.map rHeard))), (3, .ptr 0 0 0), (7, tv s'.2.1), (12, .p (.list 15 t (l.map rHeard))), (13, i (l.map rHeard).length), (14, i s'.1)] ∧ m'.take (tm p s'.2.2 s'.2.1).length = tm p s'.2.2 s'.2.1 ∧ (s'.1 ≤ l.length ∧ Few s'.2.1 ∧ Firsts p me s'.2.1 (l.drop s'.1) = Firsts p me [] l) ∧ l.length - s'.1 < l.length - k := by
        intro L' m' ht e1 e2 e3 e7 e12 e13 e14 em
        refine ⟨(k + 1, [], h0), ⟨e1, e2, e3, e7, e12, e13, e14.trans (inc h1), trivial⟩, em, ⟨h1, hf, ?_⟩, by show l.length - (k + 1) < _; omega⟩
        rw [← hs]; simp only [Firsts, ht]; rfl
      refine WOp.mk _ _ (iad_list rfl rfl (Int.natCast_nonneg k) (row_get hx)) trivial ?_
      refine WCall.here rfl _ _ (known_nil _ 2 l[k].msg rfl) trivial ⟨nof, fun _ => ⟨fun h2 => ⟨fun h3 => ⟨fun h4 => ⟨fun h5 => ?_, fun h5 => ?_⟩, fun h4 => ?_⟩, fun h3 => ?_⟩, fun h2 => ?_⟩⟩
      · have ht : Takes p me [] l[k] = true := by simp only [Takes, h2, h3, List.any_nil, Bool.not_false, Bool.and_true, Bool.true_and]; exact Bool.and_eq_true_iff.2 ⟨h4, h5⟩
        refine WOp.mk _ _ (app_new (ys := [rHeard l[k]]) rfl rfl (by simp) (by decide) (by show 1 * 128 ≤ _; decide)) trivial ?_
        refine ⟨(k + 1, [l[k]], l[k]), ⟨rfl, rfl, rfl, rfl, rfl, rfl, inc h1, trivial⟩, ?_, ⟨h1, hf.take ht, ?_⟩, by show l.length - (k + 1) < l.length - k; omega⟩
        · rfl
        · rw [← hs]; simp only [Firsts, ht]; rfl
      · exact skip (by simp only [Takes, h2, h3]; rw [show decide (l[k].msg.frm < mn p.n 16) = true from h4, show (!decide (l[k].msg.frm = me)) = false from h5]; rfl) rfl rfl rfl rfl rfl rfl rfl rfl
      · exact skip (by simp only [Takes, h2, h3]; rw [show decide (l[k].msg.frm < mn p.n 16) = false from h4]; rfl) rfl rfl rfl rfl rfl rfl rfl rfl
      · exact skip (by simp only [Takes, h2]; rw [show decide (0 ≤ l[k].msg.frm) = false from h3]; rfl) rfl rfl rfl rfl rfl rfl rfl rfl
      · exact skip (by simp only [Takes]; rw [show decide (l[k].msg.kind = 1) = false from h2]; rfl) rfl rfl rfl rfl rfl rfl rfl rfl
    · have h1 : k = l.length := by have := df h1; simp at this; omega
      have he : Told p me l = [] := by rw [Told, ← hs, h1, List.drop_length]; rfl
      refine WCall.any _ (acall_pure ssort_0 ⟨trivial, trivial, trivial⟩) ?_
      exact endW (.inr rfl) rfl rfl (by rw [he]; exact le_nil _ _ _) trivial
  | cons o os =>
    have h16 := hf.length
    have hlo : (o :: os).length = os.length + 1 := rfl
    refine ⟨fun h1 => ?_, fun h1 => ?_⟩
    · have h1 : k < l.length := by have := dt h1; simp at this; exact this
      have hx := List.getElem?_eq_getElem h1
      rw [drop_get h1] at hs
      have skip : ∀ {L' : Env} {m' : Mem}, Takes p me (o :: os) l[k] = false → L'.get 1 = some (i me) → L'.get 2 = some (.p (.list 15 t (l.map rHeard))) → L'.get 3 = some (.ptr 0 0 0) → L'.get 7 = some (tv (o :: os)) → L'.get 12 = some (.p (.list 15 t (l.map rHeard))) → L'.get 13 = some (i (l.map rHeard).length) → L'.get 14 = some (i (IntKind.i64.wrap ((k : Int) + 1))) → m'.take 4 = tm p h0 (o :: os) →
          ∃ s' : Nat × List Heard × Heard, Says L' [(1, i me), (2, .p (.list 15 t (l.map rHeard))), (3, .ptr 0 0 0), (7, tv s'.2.1), (12, .p (.list 15 t (l.map rHeard))), (13, i (l.map rHeard).length), (14, i s'.1)] ∧ m'.take (tm p s'.2.2 s'.2.1).length = tm p s'.2.2 s'.2.1 ∧ (s'.1 ≤ l.length ∧ Few s'.2.1 ∧ Firsts p me s'.2.1 (l.drop s'.1) = Firsts p me [] l) ∧ l.length - s'.1 < l.length - k := by
        intro L' m' ht e1 e2 e3 e7 e12 e13 e14 em
        refine ⟨(k + 1, o :: os, h0), ⟨e1, e2, e3, e7, e12, e13, e14.trans (inc h1), trivial⟩, em, ⟨h1, hf, ?_⟩, by show l.length - (k + 1) < _; omega⟩
        rw [← hs]; simp only [Firsts, ht]; rfl
      refine WOp.mk _ _ (iad_list rfl rfl (Int.natCast_nonneg k) (row_get hx)) trivial ?_
      refine WCall.here rfl _ _ (known_ok _ 5 l[k].msg (o :: os) _ (view_rb rfl) rfl) trivial ⟨fun h6 => ⟨fun h2 => ⟨fun h3 => ⟨fun h4 => ⟨fun h5 => ?_, fun h5 => ?_⟩, fun h4 => ?_⟩, fun h3 => ?_⟩, fun h2 => ?_⟩, fun h6 => ⟨fun h2 => ⟨fun h3 => ⟨fun h4 => ⟨fun h5 => ?_, fun h5 => ?_⟩, fun h4 => ?_⟩, fun h3 => ?_⟩, fun h2 => ?_⟩⟩
      · exact skip (by simp only [Takes, h6, Bool.not_true, Bool.and_false]) rfl rfl rfl rfl rfl rfl rfl rfl
      · exact skip (by simp only [Takes, h6, Bool.not_true, Bool.and_false]) rfl rfl rfl rfl rfl rfl rfl rfl
      · exact skip (by simp only [Takes, h6, Bool.not_true, Bool.and_false]) rfl rfl rfl rfl rfl rfl rfl rfl
      · exact skip (by simp only [Takes, h6, Bool.not_true, Bool.and_false]) rfl rfl rfl rfl rfl rfl rfl rfl
      · exact skip (by simp only [Takes, h6, Bool.not_true, Bool.and_false]) rfl rfl rfl rfl rfl rfl rfl rfl
      · have ht : Takes p me (o :: os) l[k] = true := by simp only [Takes, h2, h3, h6, Bool.not_false, Bool.and_true, Bool.true_and]; exact Bool.and_eq_true_iff.2 ⟨h4, h5⟩
        refine WOp.mk _ _ (app_more (xs := o :: os) (y := l[k]) rfl rfl rfl (Nat.succ_pos _) (by omega)) trivial ?_
        refine ⟨(k + 1, o :: (os ++ [l[k]]), h0), ⟨rfl, rfl, rfl, rfl, rfl, rfl, inc h1, trivial⟩, rfl, ⟨h1, hf.take ht, ?_⟩, by show l.length - (k + 1) < l.length - k; omega⟩
        rw [← hs]; simp only [Firsts, ht]; rfl
      · exact skip (by simp only [Takes, h2, h3]; rw [show decide (l[k].msg.frm < mn p.n 16) = true from h4, show (!decide (l[k].msg.frm = me)) = false from h5]; rfl) rfl rfl rfl rfl rfl rfl rfl rfl
      · exact skip (by simp only [Takes, h2, h3]; rw [show decide (l[k].msg.frm < mn p.n 16) = false from h4]; rfl) rfl rfl rfl rfl rfl rfl rfl rfl
      · exact skip (by simp only [Takes, h2]; rw [show decide (0 ≤ l[k].msg.frm) = false from h3]; rfl) rfl rfl rfl rfl rfl rfl rfl rfl
      · exact skip (by simp only [Takes]; rw [show decide (l[k].msg.kind = 1) = false from h2]; rfl) rfl rfl rfl rfl rfl rfl rfl rfl
    · have h1 : k = l.length := by have := df h1; simp at this; omega
      have he : Told p me l = sortBy hlt (o :: os) := by rw [Told, ← hs, h1, List.drop_length]; rfl
      have hsl : (sortBy hlt (o :: os)).length = (o :: os).length := (sortBy_perm hlt (o :: os)).length_eq
      refine WCall.here rfl _ _ (acall_frame (ssort_1 (o :: os) ((o :: os).length - 1) (by omega)) ⟨Nat.one_pos, trivial, trivial⟩ (under_flat _) (under_flat _) 3 _ rfl) trivial ?_
      rw [he]
      exact endL (.inr rfl) rfl rfl rfl rfl rfl rfl (by simpa using hsl) (by intro r hr; obtain ⟨l, _, rfl⟩ := List.mem_map.1 hr; rfl) (fun c hc => one_p hc (one_hs _))
theorem told_ok (p : Params) (me : Int) (t : Bool) (l : List Heard) (hlen : l.length ≤ 1048576) (m : Mem) : ACall Tryz.prog 10 [.agg (eP p), i me, .p (.list 15 t (l.map rHeard))] m (.p (hd (Told p me l))) m := acall_pure (told_0 p me t l hlen) ⟨flatP p, trivial, trivial, trivial⟩ m
end Go.Proofs.YtlkphnhlibpngaaGreat.Abs
