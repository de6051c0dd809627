/- Contracts, part 9: a gate's beat. -/
import Derived.Test.YtlkphnhlibpngaaGreatC8
import Derived.Test.YtlkphnhlibpngaaGreatAbsRows
set_option linter.unusedVariables false
set_option linter.unusedSimpArgs false
set_option maxRecDepth 100000
namespace Go.Proofs.YtlkphnhlibpngaaGreat.Abs
open Go

theorem flatS1 (s : Span) : (AV.agg (eSpan s)).under 1 := ⟨trivial, trivial, trivial⟩
abbrev zmsg : List AV := [zi, zi, zi, zi, zi, zi, zb, zb, zi, zi, zi, zi, zi, zl]
def beatBase (p : Params) (s : State) (me : Int) (x : Input) (seen : Span) : Mem := [gb p s me, .box (eInput x), .box zmsg, .box (eP p), .box (eSpan seen)]
def beatE (rd : Bool) (l : List Span) : Env := [(0, .ptr 0 0 0), (3, .ptr 1 0 0), (4, .ptr 2 0 0), (5, .ptr 3 0 0), (6, .ptr 4 0 0), (7, bools rd), (8, spl false l)]
theorem beat_rest (p : Params) (s : State) (me : Int) (x : Input) (rd : Bool) (seen : Span) (l : List Span) (c : Nat) (hl : l.length ≤ 1048576) (hs : s.table.length ≤ 1048576) (hx : x.table.length ≤ 1048576) :
    Stop Tryz.prog 125 [] [] [.code R_gate_Gate_Beat_s10] (beatE rd l) (beatBase p s me x seen ++ [.dead c])
      (Ends R_gate_Gate_Beat [gb p s me] (.agg (eMsg (SayF p (StepF p s x.ticks (NextC p s x l)) 1 me rd seen))) [gb p (StampF (StepF p s x.ticks (NextC p s x l))) me]) := by
  have tab : ∀ {next : State}, next.table.length ≤ 1048576 → (StepF p s x.ticks next).table.length ≤ 1048576 := by
    intro next h
    unfold StepF StepC StepB StepA Sane
    repeat' split
    all_goals first | assumption | (simp; done) | (simp; omega) | skip
  refine Wy_sound 100000 _ _ _ _ _ _ ?_
  refine WCall.any _ (hold_ok p s.span x.ticks) ?_
  refine WCall.any _ (more_ok s.held) ?_
  refine WCall.any _ (afuse_ok p false l hl) ⟨fun h1 => ⟨fun h2 => ?_, fun h2 => ?_⟩, fun h1 => ⟨fun h2 => ?_, fun h2 => ?_⟩⟩
  · have hn : NextC p s x l = ⟨(FuseF p.f l).1, s.time, s.set, 0, 0, true, x.table, s.stamp, s.life⟩ := by simp only [NextC, NextB, NextA, h1, h2, if_true, Bool.false_eq_true, if_false]
    rw [hn]
    refine WCall.here rfl _ _ (acall_frame (step_1 p s me x.ticks ⟨(FuseF p.f l).1, s.time, s.set, 0, 0, true, x.table, s.stamp, s.life⟩ hx) ⟨Nat.one_pos, trivial, ⟨trivial, trivial, trivial, trivial, trivial, trivial, trivial, trivial, trivial, trivial, trivial, trivial⟩, trivial⟩ (flatG0 _ _ _) (flatG0 _ _ _) 0 _ rfl) trivial ?_
    refine WCall.here rfl _ _ (acall_frame (say_1 p (StepF p s x.ticks ⟨(FuseF p.f l).1, s.time, s.set, 0, 0, true, x.table, s.stamp, s.life⟩) me 1 me rd seen (tab (next := ⟨(FuseF p.f l).1, s.time, s.set, 0, 0, true, x.table, s.stamp, s.life⟩) hx)) ⟨Nat.one_pos, trivial, trivial, trivial, flatS1 _, trivial⟩ (flatG0 _ _ _) (flatG0 _ _ _) 0 _ rfl) trivial ?_
    exact end1 rfl (.inr rfl) rfl rfl (flatM1 _) rfl (flatG1 _ _ _)
  · have hn : NextC p s x l = ⟨(FuseF p.f l).1, s.time, s.set, 0, 0, true, s.table, s.stamp, s.life⟩ := by simp only [NextC, NextB, NextA, h1, h2, if_true, Bool.false_eq_true, if_false]
    rw [hn]
    refine WCall.here rfl _ _ (acall_frame (step_1 p s me x.ticks ⟨(FuseF p.f l).1, s.time, s.set, 0, 0, true, s.table, s.stamp, s.life⟩ hs) ⟨Nat.one_pos, trivial, ⟨trivial, trivial, trivial, trivial, trivial, trivial, trivial, trivial, trivial, trivial, trivial, trivial⟩, trivial⟩ (flatG0 _ _ _) (flatG0 _ _ _) 0 _ rfl) trivial ?_
    refine WCall.here rfl _ _ (acall_frame (say_1 p (StepF p s x.ticks ⟨(FuseF p.f l).1, s.time, s.set, 0, 0, true, s.table, s.stamp, s.life⟩) me 1 me rd seen (tab (next := ⟨(FuseF p.f l).1, s.time, s.set, 0, 0, true, s.table, s.stamp, s.life⟩) hs)) ⟨Nat.one_pos, trivial, trivial, trivial, flatS1 _, trivial⟩ (flatG0 _ _ _) (flatG0 _ _ _) 0 _ rfl) trivial ?_
    exact end1 rfl (.inr rfl) rfl rfl (flatM1 _) rfl (flatG1 _ _ _)
  · have hn : NextC p s x l = ⟨Hold p s.span x.ticks, s.time, s.set, More s.held, 0, s.good, x.table, s.stamp, s.life⟩ := by simp only [NextC, NextB, NextA, h1, h2, if_true, Bool.false_eq_true, if_false]
    rw [hn]
    refine WCall.here rfl _ _ (acall_frame (step_1 p s me x.ticks ⟨Hold p s.span x.ticks, s.time, s.set, More s.held, 0, s.good, x.table, s.stamp, s.life⟩ hx) ⟨Nat.one_pos, trivial, ⟨trivial, trivial, trivial, trivial, trivial, trivial, trivial, trivial, trivial, trivial, trivial, trivial⟩, trivial⟩ (flatG0 _ _ _) (flatG0 _ _ _) 0 _ rfl) trivial ?_
    refine WCall.here rfl _ _ (acall_frame (say_1 p (StepF p s x.ticks ⟨Hold p s.span x.ticks, s.time, s.set, More s.held, 0, s.good, x.table, s.stamp, s.life⟩) me 1 me rd seen (tab (next := ⟨Hold p s.span x.ticks, s.time, s.set, More s.held, 0, s.good, x.table, s.stamp, s.life⟩) hx)) ⟨Nat.one_pos, trivial, trivial, trivial, flatS1 _, trivial⟩ (flatG0 _ _ _) (flatG0 _ _ _) 0 _ rfl) trivial ?_
    exact end1 rfl (.inr rfl) rfl rfl (flatM1 _) rfl (flatG1 _ _ _)
  · have hn : NextC p s x l = ⟨Hold p s.span x.ticks, s.time, s.set, More s.held, 0, s.good, s.table, s.stamp, s.life⟩ := by simp only [NextC, NextB, NextA, h1, h2, if_true, Bool.false_eq_true, if_false]
    rw [hn]
    refine WCall.here rfl _ _ (acall_frame (step_1 p s me x.ticks ⟨Hold p s.span x.ticks, s.time, s.set, More s.held, 0, s.good, s.table, s.stamp, s.life⟩ hs) ⟨Nat.one_pos, trivial, ⟨trivial, trivial, trivial, trivial, trivial, trivial, trivial, trivial, trivial, trivial, trivial, trivial⟩, trivial⟩ (flatG0 _ _ _) (flatG0 _ _ _) 0 _ rfl) trivial ?_
    refine WCall.here rfl _ _ (acall_frame (say_1 p (StepF p s x.ticks ⟨Hold p s.span x.ticks, s.time, s.set, More s.held, 0, s.good, s.table, s.stamp, s.life⟩) me 1 me rd seen (tab (next := ⟨Hold p s.span x.ticks, s.time, s.set, More s.held, 0, s.good, s.table, s.stamp, s.life⟩) hs)) ⟨Nat.one_pos, trivial, trivial, trivial, flatS1 _, trivial⟩ (flatG0 _ _ _) (flatG0 _ _ _) 0 _ rfl) trivial ?_
    exact end1 rfl (.inr rfl) rfl rfl (flatM1 _) rfl (flatG1 _ _ _)

theorem rSpan_len (s : Span) : (rSpan s).length = 2 := rfl
theorem rSpan_one (s : Span) : ∀ q ∈ rSpan s, (AV.p q).one = true := by
  intro q hq
  simp only [rSpan, List.mem_cons, List.not_mem_nil, or_false] at hq
  rcases hq with rfl | rfl <;> rfl
theorem spansOf_snoc (p : Params) {l : List Heard} {k : Nat} {h : Heard} (hx : l[k]? = some h) : spansOf p (l.take (k + 1)) = if h.msg.ref = true then spansOf p (l.take k) ++ [Way p h.msg.seen h.age] else spansOf p (l.take k) := by
  rw [take_succ_get hx]
  unfold spansOf
  rw [List.filter_append, List.map_append]
  by_cases hr : h.msg.ref = true
  · simp [hr]
  · simp [hr]
theorem spansOf_len (p : Params) (l : List Heard) : (spansOf p l).length ≤ l.length := by
  unfold spansOf; rw [List.length_map]; exact List.length_filter_le _ _
theorem beatBase_under (p : Params) (s : State) (me : Int) (x : Input) (seen : Span) (k : Nat) : munder k (beatBase p s me x seen) :=
  ⟨⟨trivial, trivial, trivial, trivial, trivial, trivial, trivial, trivial, trivial, trivial, trivial, trivial, trivial, trivial, trivial, trivial, trivial, trivial, trivial, trivial, trivial, trivial, trivial, trivial, trivial⟩,
   ⟨trivial, trivial, trivial, trivial, trivial, trivial, trivial⟩, ⟨trivial, trivial, trivial, trivial, trivial, trivial, trivial, trivial, trivial, trivial, trivial, trivial, trivial, trivial, trivial⟩,
   ⟨trivial, trivial, trivial, trivial, trivial, trivial, trivial, trivial, trivial, trivial, trivial, trivial, trivial⟩, ⟨trivial, trivial, trivial⟩, trivial⟩
theorem beat_loopA (p : Params) (s : State) (me : Int) (x : Input) (rd : Bool) (seen s0 : Span) (l : List Heard) (hl : l.length ≤ 1048575) (hs : s.table.length ≤ 1048576) (hx : x.table.length ≤ 1048576) {L : Env}
    (hL : Says L [(0, .ptr 0 0 0), (3, .ptr 1 0 0), (4, .ptr 2 0 0), (5, .ptr 3 0 0), (6, .ptr 4 0 0), (7, bools rd), (8, .sl 5 0 0 1 2), (47, .p (hd l)), (48, i (l.map rHeard).length), (49, i 0)]) :
    WLoop Tryz.prog 125 R_gate_Gate_Beat_b0 [.blk 0, .code R_gate_Gate_Beat_s10] L (beatBase p s me x seen ++ [rows rSpan [s0] 0])
      (Ends R_gate_Gate_Beat [gb p s me] (.agg (eMsg (SayF p (StepF p s x.ticks (NextC p s x ([s0] ++ spansOf p l))) 1 me rd seen))) [gb p (StampF (StepF p s x.ticks (NextC p s x ([s0] ++ spansOf p l)))) me]) := by
  let sp : Nat → List Span := fun k => [s0] ++ spansOf p (l.take k)
  have spl1 : ∀ k, (sp k).length = (spansOf p (l.take k)).length + 1 := fun k => by simp [sp]
  refine wloopm 0 rfl (fun k => [(0, .ptr 0 0 0), (3, .ptr 1 0 0), (4, .ptr 2 0 0), (5, .ptr 3 0 0), (6, .ptr 4 0 0), (7, bools rd), (8, .sl 5 ((sp k).length - 1) 0 (sp k).length 2), (47, .p (hd l)), (48, i (l.map rHeard).length), (49, i k)]) (fun k => beatBase p s me x seen ++ [rows rSpan (sp k) ((sp k).length - 1)])
    (fun k => k ≤ l.length) (fun k => l.length - k) 0 (fun c => beatE rd ([s0] ++ spansOf p l)) (fun c => beatBase p s me x seen ++ [.dead c]) (fun _ => True) hL rfl (Nat.zero_le _) ?_ ?_ ?_ ?_ ?_
  · intro k _
    exact ⟨Nat.zero_lt_succ _, (by show 1 < 6; decide), (by show 2 < 6; decide), (by show 3 < 6; decide), (by show 4 < 6; decide), trivial, (by show 5 < 6; decide), trivial, trivial, trivial, trivial⟩
  · intro k _
    exact ⟨(beatBase_under p s me x seen 6).1, (beatBase_under p s me x seen 6).2.1, (beatBase_under p s me x seen 6).2.2.1, (beatBase_under p s me x seen 6).2.2.2.1, (beatBase_under p s me x seen 6).2.2.2.2.1, under_rows _ _, trivial⟩
  · intro k _
    exact Nat.le_refl _
  · intro k hk
    have inc : some (i (IntKind.i64.wrap ((k : Int) + 1))) = some (i ((k + 1 : Nat) : Int)) := by rw [wrap_id (by omega) (by omega)]; rfl
    have hlen := spansOf_len p (l.take k)
    rw [List.length_take] at hlen
    refine ⟨fun h1 => ?_, fun h1 => ?_⟩
    · have h1 : k < l.length := by have := dt h1; simp at this; exact this
      have hx' := List.getElem?_eq_getElem h1
      refine WOp.mk _ _ (iad_list rfl rfl (Int.natCast_nonneg k) (row_get hx')) trivial ⟨fun h2 => ?_, fun h2 => ?_⟩
      · refine WCall.any _ (way_ok p l[k].msg.seen l[k].age) ?_
        have e : sp (k + 1) = sp k ++ [Way p l[k].msg.seen l[k].age] := by simp only [sp]; rw [spansOf_snoc p hx', if_pos h2, List.append_assoc]
        have e1 : (sp (k + 1)).length = (sp k).length + 1 := by rw [e]; simp
        refine WOp.mk _ _ (app_rows (f := rSpan) (xs := sp k) (y := Way p l[k].msg.seen l[k].age) rSpan_len rfl rfl rfl (by decide) (by rw [spl1]; omega)) trivial ?_
        have e2 : (sp k).length - 1 + 1 = (sp (k + 1)).length - 1 := by rw [e1]; have := spl1 k; omega
        refine ⟨k + 1, ⟨rfl, rfl, rfl, rfl, rfl, rfl, ?_, rfl, rfl, inc, trivial⟩, ?_, h1, by show l.length - (k + 1) < _; omega⟩
        · show some (AV.sl 5 ((sp k).length - 1 + 1) 0 ((sp k).length + 1) 2) = _
          rw [e2, e1]
        · show beatBase p s me x seen ++ [rows rSpan (sp k ++ [Way p l[k].msg.seen l[k].age]) ((sp k).length - 1 + 1)] = _
          rw [e2, ← e]
      · have e : sp (k + 1) = sp k := by simp only [sp]; rw [spansOf_snoc p hx', if_neg (by rw [h2]; decide)]
        refine ⟨k + 1, ?_, ?_, h1, by show l.length - (k + 1) < _; omega⟩
        · rw [e]; exact ⟨rfl, rfl, rfl, rfl, rfl, rfl, rfl, rfl, rfl, inc, trivial⟩
        · rw [e]; rfl
    · have h1 : k = l.length := by have := df h1; simp at this; omega
      have e : [s0] ++ spansOf p l = sp k := by simp only [sp]; rw [h1, List.take_length]
      refine ⟨(sp k).length - 1, trivial, Nat.le_refl _, tells_freeze rfl (beatBase_under p s me x seen 5) (fun blk hb => by have : rows rSpan (sp k) ((sp k).length - 1) = blk := Option.some.inj hb; rw [← this]; exact Nat.le_refl _) ?_⟩
      rw [e]
      exact ⟨Fz.one rfl (by show 0 < 5; decide), Fz.one rfl (by show 1 < 5; decide), Fz.one rfl (by show 2 < 5; decide), Fz.one rfl (by show 3 < 5; decide), Fz.one rfl (by show 4 < 5; decide), Fz.one rfl trivial, ⟨_, rfl, fz_rows rSpan_len rSpan_one (Nat.le_refl 5) rfl⟩, trivial⟩
  · intro c _
    refine beat_rest p s me x rd seen _ c ?_ hs hx
    have := spansOf_len p l
    simp; omega

def bMem (base : Mem) (h0 : Heard) : List Span → Mem
  | [] => base
  | o :: os => base ++ [.box ((rHeard h0).map .p), rows rSpan (o :: os) os.length]
def bV : List Span → AV
  | [] => zl
  | o :: os => .sl 6 os.length 0 (os.length + 1) 2
theorem beat_loopB (p : Params) (s : State) (me : Int) (x : Input) (rd : Bool) (seen : Span) (l : List Heard) (hl : l.length ≤ 1048575) (hs : s.table.length ≤ 1048576) (hx : x.table.length ≤ 1048576) {L : Env}
    (hL : Says L [(0, .ptr 0 0 0), (3, .ptr 1 0 0), (4, .ptr 2 0 0), (5, .ptr 3 0 0), (6, .ptr 4 0 0), (7, bools rd), (8, zl), (47, .p (hd l)), (48, i (l.map rHeard).length), (49, i 0)]) :
    WLoop Tryz.prog 125 R_gate_Gate_Beat_b0 [.blk 0, .code R_gate_Gate_Beat_s10] L (beatBase p s me x seen)
      (Ends R_gate_Gate_Beat [gb p s me] (.agg (eMsg (SayF p (StepF p s x.ticks (NextC p s x (spansOf p l))) 1 me rd seen))) [gb p (StampF (StepF p s x.ticks (NextC p s x (spansOf p l)))) me]) := by
  refine wloopm (σ := Nat × List Span × Heard) 0 rfl (fun t => [(0, .ptr 0 0 0), (3, .ptr 1 0 0), (4, .ptr 2 0 0), (5, .ptr 3 0 0), (6, .ptr 4 0 0), (7, bools rd), (8, bV t.2.1), (47, .p (hd l)), (48, i (l.map rHeard).length), (49, i t.1)]) (fun t => bMem (beatBase p s me x seen) t.2.2 t.2.1)
    (fun t => t.1 ≤ l.length ∧ t.2.1 = spansOf p (l.take t.1)) (fun t => l.length - t.1) (0, [], ⟨⟨0, 0, ⟨0, 0⟩, 0, 0, false, false, ⟨0, 0⟩, 0, ⟨0, 0⟩, []⟩, 0⟩) (fun c => beatE rd (spansOf p l)) (fun c => beatBase p s me x seen ++ [.dead c]) (fun _ => True) hL rfl ⟨Nat.zero_le _, rfl⟩ ?_ ?_ ?_ ?_ ?_
  · rintro ⟨k, z, h0⟩ _
    cases z with
    | nil => exact ⟨Nat.zero_lt_succ _, (by show 1 < 5; decide), (by show 2 < 5; decide), (by show 3 < 5; decide), (by show 4 < 5; decide), trivial, trivial, trivial, trivial, trivial, trivial⟩
    | cons o os => exact ⟨Nat.zero_lt_succ _, (by show 1 < 7; decide), (by show 2 < 7; decide), (by show 3 < 7; decide), (by show 4 < 7; decide), trivial, (by show 6 < 7; decide), trivial, trivial, trivial, trivial⟩
  · rintro ⟨k, z, h0⟩ _
    cases z with
    | nil => exact beatBase_under p s me x seen 5
    | cons o os => exact ⟨(beatBase_under p s me x seen 7).1, (beatBase_under p s me x seen 7).2.1, (beatBase_under p s me x seen 7).2.2.1, (beatBase_under p s me x seen 7).2.2.2.1, (beatBase_under p s me x seen 7).2.2.2.2.1, under_rows _ _, under_rows _ _, trivial⟩
  · rintro ⟨k, z, h0⟩ _
    cases z with
    | nil => exact Nat.le_refl _
    | cons o os => show 5 ≤ 7; decide
  · rintro ⟨k, z, h0⟩ ⟨hk, hz⟩
    have hk : k ≤ l.length := hk
    have hz : z = spansOf p (l.take k) := hz
    have inc : some (i (IntKind.i64.wrap ((k : Int) + 1))) = some (i ((k + 1 : Nat) : Int)) := by rw [wrap_id (by omega) (by omega)]; rfl
    have hlen := spansOf_len p (l.take k)
    rw [List.length_take, ← hz] at hlen
    cases z with
    | nil =>
      refine ⟨fun h1 => ?_, fun h1 => ?_⟩
      · have h1 : k < l.length := by have := dt h1; simp at this; exact this
        have hx' := List.getElem?_eq_getElem h1
        have e := spansOf_snoc p hx'
        rw [← hz] at e
        refine WOp.mk _ _ (iad_list rfl rfl (Int.natCast_nonneg k) (row_get hx')) trivial ⟨fun h2 => ?_, fun h2 => ?_⟩
        · refine WCall.any _ (way_ok p l[k].msg.seen l[k].age) ?_
          refine WOp.mk _ _ (app_rows0 (f := rSpan) (y := Way p l[k].msg.seen l[k].age) rfl rfl (by decide) (by decide)) trivial ?_
          exact ⟨(k + 1, [Way p l[k].msg.seen l[k].age], l[k]), ⟨rfl, rfl, rfl, rfl, rfl, rfl, rfl, rfl, rfl, inc, trivial⟩, rfl, ⟨h1, by rw [e, if_pos h2]; rfl⟩, by show l.length - (k + 1) < _; omega⟩
        · exact ⟨(k + 1, [], h0), ⟨rfl, rfl, rfl, rfl, rfl, rfl, rfl, rfl, rfl, inc, trivial⟩, rfl, ⟨h1, by rw [e, if_neg (by rw [h2]; decide)]⟩, by show l.length - (k + 1) < _; omega⟩
      · have h1 : k = l.length := by have := df h1; simp at this; omega
        rw [h1, List.take_length] at hz
        refine ⟨0, trivial, Nat.le_succ _, tells_freeze rfl (beatBase_under p s me x seen 5) (fun blk hb => by simp [beatBase, bMem] at hb) ?_⟩
        rw [← hz]
        exact ⟨Fz.one rfl (by show 0 < 5; decide), Fz.one rfl (by show 1 < 5; decide), Fz.one rfl (by show 2 < 5; decide), Fz.one rfl (by show 3 < 5; decide), Fz.one rfl (by show 4 < 5; decide), Fz.one rfl trivial, ⟨_, rfl, .le trivial (le_nil _ _ _)⟩, trivial⟩
    | cons o os =>
      refine ⟨fun h1 => ?_, fun h1 => ?_⟩
      · have h1 : k < l.length := by have := dt h1; simp at this; exact this
        have hx' := List.getElem?_eq_getElem h1
        have e := spansOf_snoc p hx'
        rw [← hz] at e
        refine WOp.mk _ _ (iad_list rfl rfl (Int.natCast_nonneg k) (row_get hx')) trivial ⟨fun h2 => ?_, fun h2 => ?_⟩
        · refine WCall.any _ (way_ok p l[k].msg.seen l[k].age) ?_
          refine WOp.mk _ _ (app_rows (f := rSpan) (xs := o :: os) (y := Way p l[k].msg.seen l[k].age) rSpan_len rfl rfl rfl (by decide) (by omega)) trivial ?_
          refine ⟨(k + 1, o :: (os ++ [Way p l[k].msg.seen l[k].age]), h0), ⟨rfl, rfl, rfl, rfl, rfl, rfl, ?_, rfl, rfl, inc, trivial⟩, ?_, ⟨h1, by rw [e, if_pos h2]; rfl⟩, by show l.length - (k + 1) < _; omega⟩
          · show some (AV.sl 6 (os.length + 1) 0 (os.length + 1 + 1) 2) = some (AV.sl 6 (os ++ [Way p l[k].msg.seen l[k].age]).length 0 ((os ++ [Way p l[k].msg.seen l[k].age]).length + 1) 2)
            rw [List.length_append]; rfl
          · show beatBase p s me x seen ++ [.box ((rHeard h0).map .p), rows rSpan (o :: os ++ [Way p l[k].msg.seen l[k].age]) (os.length + 1)] = beatBase p s me x seen ++ [.box ((rHeard h0).map .p), rows rSpan (o :: (os ++ [Way p l[k].msg.seen l[k].age])) (os ++ [Way p l[k].msg.seen l[k].age]).length]
            rw [List.length_append]; rfl
        · exact ⟨(k + 1, o :: os, h0), ⟨rfl, rfl, rfl, rfl, rfl, rfl, rfl, rfl, rfl, inc, trivial⟩, rfl, ⟨h1, by rw [e, if_neg (by rw [h2]; decide)]⟩, by show l.length - (k + 1) < _; omega⟩
      · have h1 : k = l.length := by have := df h1; simp at this; omega
        rw [h1, List.take_length] at hz
        refine ⟨0, trivial, Nat.le_succ _, tells_freeze rfl (beatBase_under p s me x seen 5) (fun blk hb => by have : Blk.box ((rHeard h0).map .p) = blk := Option.some.inj hb; rw [← this]; exact Nat.le_refl _) ?_⟩
        rw [← hz]
        exact ⟨Fz.one rfl (by show 0 < 5; decide), Fz.one rfl (by show 1 < 5; decide), Fz.one rfl (by show 2 < 5; decide), Fz.one rfl (by show 3 < 5; decide), Fz.one rfl (by show 4 < 5; decide), Fz.one rfl trivial, ⟨_, rfl, fz_rows (xs := o :: os) rSpan_len rSpan_one (by decide : 5 ≤ 6) rfl⟩, trivial⟩
  · intro c _
    refine beat_rest p s me x rd seen _ c ?_ hs hx
    have := spansOf_len p l
    omega
theorem told_len (p : Params) (me : Int) (l : List Heard) : (Told p me l).length ≤ 16 := by
  unfold Told
  rw [(sortBy_perm hlt _).length_eq]
  exact (firsts_few l [] ⟨List.nodup_nil, fun x hx => by simp at hx⟩).length
theorem beat_1 (p : Params) (s : State) (me : Int) (x : Input) (hh : x.heard.length ≤ 1048576) (hs : s.table.length ≤ 1048576) (hx : x.table.length ≤ 1048576) :
    ACall Tryz.prog 13 [.ptr 0 0 0, .agg (eInput x)] [gb p s me] (.agg (eMsg (BeatM p me s x))) [gb p (BeatS p me s x) me] := by
  have hT := told_len p me x.heard
  have absB : ∀ {b : Bool} {F : Prop}, b = true → b = false → F := fun h h' => by rw [h] at h'; cases h'
  by_cases hr : ReadB p x = true
  · have h12 := Bool.and_eq_true_iff.1 hr
    have eM : BeatM p me s x = SayF p (StepF p s x.ticks (NextC p s x ([(Seen p x.reading).1] ++ spansOf p (Told p me x.heard)))) 1 me true (Seen p x.reading).1 := by simp only [BeatM, StepG, SpansB, SeenB, hr, if_true]
    have eS : BeatS p me s x = StampF (StepF p s x.ticks (NextC p s x ([(Seen p x.reading).1] ++ spansOf p (Told p me x.heard)))) := by simp only [BeatS, StepG, SpansB, hr, if_true]
    rw [eM, eS]
    refine acall_run R_gate_Gate_Beat_ok ⟨nof, fun _ => ?_⟩
    refine WCall.any _ (seen_ok p x.reading) ⟨fun h1 => ⟨fun h2 => ?_, fun h2 => absB h12.2 h2⟩, fun h1 => absB h12.1 h1⟩
    refine WOp.mk _ _ (app_rows0 (f := rSpan) (y := (Seen p x.reading).1) rfl rfl (by decide) (by decide)) trivial ?_
    refine WCall.any _ (told_ok p me false x.heard hh) ?_
    exact beat_loopA p s me x true (Seen p x.reading).1 (Seen p x.reading).1 (Told p me x.heard) (by omega) hs hx ⟨rfl, rfl, rfl, rfl, rfl, rfl, rfl, rfl, rfl, rfl, trivial⟩
  · have eM : BeatM p me s x = SayF p (StepF p s x.ticks (NextC p s x (spansOf p (Told p me x.heard)))) 1 me false ⟨0, 0⟩ := by
      have hr' : ReadB p x = false := by simpa using hr
      simp only [BeatM, StepG, SpansB, SeenB, hr', Bool.false_eq_true, if_false, List.nil_append]
    have eS : BeatS p me s x = StampF (StepF p s x.ticks (NextC p s x (spansOf p (Told p me x.heard)))) := by simp only [BeatS, StepG, SpansB, if_neg hr, List.nil_append]
    rw [eM, eS]
    refine acall_run R_gate_Gate_Beat_ok ⟨nof, fun _ => ?_⟩
    refine WCall.any _ (seen_ok p x.reading) ⟨fun h1 => ⟨fun h2 => absurd (Bool.and_eq_true_iff.2 ⟨h1, h2⟩) hr, fun h2 => ?_⟩, fun h1 => ?_⟩
    · refine WCall.any _ (told_ok p me false x.heard hh) ?_
      exact beat_loopB p s me x false ⟨0, 0⟩ (Told p me x.heard) (by omega) hs hx ⟨rfl, rfl, rfl, rfl, rfl, rfl, rfl, rfl, rfl, rfl, trivial⟩
    · refine WCall.any _ (told_ok p me false x.heard hh) ?_
      exact beat_loopB p s me x false ⟨0, 0⟩ (Told p me x.heard) (by omega) hs hx ⟨rfl, rfl, rfl, rfl, rfl, rfl, rfl, rfl, rfl, rfl, trivial⟩
end Go.Proofs.YtlkphnhlibpngaaGreat.Abs
