/- The document's functions, part 10: a gate's beat. -/
import Derived.Test.YtlkphnhlibpngaaGreatD9
import Derived.Test.YtlkphnhlibpngaaGreatC9
set_option linter.unusedVariables false
set_option linter.unusedSimpArgs false
set_option maxRecDepth 100000
namespace Go.Proofs.YtlkphnhlibpngaaGreat.Abs
open Go

abbrev zst : List AV := [zi, zi, zi, zb, zi, zi, zb, zl, zi, zi, zi]
def qB (p : Params) (s : State) (x : Input) (seen : Span) : Mem := [.box (eP p), .box (eState s), .box (eInput x), .box zst, .box zmsg, .box (eSpan seen)]
def qE (me : Int) (rd : Bool) (v : AV) : Env := [(1, i me), (4, .ptr 0 0 0), (6, .ptr 1 0 0), (7, .ptr 2 0 0), (8, .ptr 3 0 0), (9, .ptr 4 0 0), (10, .ptr 5 0 0), (11, bools rd), (12, v)]
theorem tab_step {p : Params} {s : State} {t : Int} {next : State} (h : next.table.length ≤ 1048576) : (StepF p s t next).table.length ≤ 1048576 := by
  unfold StepF StepC StepB StepA Sane
  repeat' split
  all_goals first | assumption | (simp; done) | (simp; omega) | skip
theorem beatR_rest (p : Params) (s : State) (me : Int) (x : Input) (rd : Bool) (seen : Span) (l : List Span) (c : Nat) (hl : l.length ≤ 1048576) (hs : s.table.length ≤ 1048576) (hx : x.table.length ≤ 1048576) :
    Stop Tryz.prog 102 [] [] [.code R_ref22_Beat_s7] (qE me rd (spl false l)) (qB p s x seen ++ [.dead c])
      (Ends R_ref22_Beat [] (.tup [.agg (eState (StampF (StepF p s x.ticks (NextC p s x l)))), .agg (eMsg (SayF p (StepF p s x.ticks (NextC p s x l)) 1 me rd seen))]) []) := by
  have tab : ∀ {next : State}, next.table.length ≤ 1048576 → (StepF p s x.ticks next).table.length ≤ 1048576 := fun h => tab_step h
  refine Wy_sound 100000 _ _ _ _ _ _ ?_
  refine WCall.any _ (fuseR p.f false l hl) ⟨fun h1 => ⟨fun h2 => ?_, fun h2 => ?_⟩, fun h1 => ?_⟩
  rotate_left 2
  · refine WCall.any _ (holdR p s.span x.ticks) (WCall.any _ (moreR s.held) ⟨fun h2 => ?_, fun h2 => ?_⟩)
    · have hn : NextC p s x l = ⟨Hold p s.span x.ticks, s.time, s.set, More s.held, 0, s.good, x.table, s.stamp, s.life⟩ := by simp only [NextC, NextB, NextA, h1, h2, if_true, Bool.false_eq_true, if_false]
      rw [hn]
      refine WCall.any _ (stepR p s x.ticks ⟨Hold p s.span x.ticks, s.time, s.set, More s.held, 0, s.good, x.table, s.stamp, s.life⟩ hx) (WCall.any _ (sayR p (StepF p s x.ticks ⟨Hold p s.span x.ticks, s.time, s.set, More s.held, 0, s.good, x.table, s.stamp, s.life⟩) 1 me rd seen (tab (next := ⟨Hold p s.span x.ticks, s.time, s.set, More s.held, 0, s.good, x.table, s.stamp, s.life⟩) hx)) ?_)
      exact endP (.inr rfl) rfl rfl ⟨flatState _, flatM _, trivial⟩
    · have hn : NextC p s x l = ⟨Hold p s.span x.ticks, s.time, s.set, More s.held, 0, s.good, s.table, s.stamp, s.life⟩ := by simp only [NextC, NextB, NextA, h1, h2, if_true, Bool.false_eq_true, if_false]
      rw [hn]
      refine WCall.any _ (stepR p s x.ticks ⟨Hold p s.span x.ticks, s.time, s.set, More s.held, 0, s.good, s.table, s.stamp, s.life⟩ hs) (WCall.any _ (sayR p (StepF p s x.ticks ⟨Hold p s.span x.ticks, s.time, s.set, More s.held, 0, s.good, s.table, s.stamp, s.life⟩) 1 me rd seen (tab (next := ⟨Hold p s.span x.ticks, s.time, s.set, More s.held, 0, s.good, s.table, s.stamp, s.life⟩) hs)) ?_)
      exact endP (.inr rfl) rfl rfl ⟨flatState _, flatM _, trivial⟩
  · have hn : NextC p s x l = ⟨(FuseF p.f l).1, s.time, s.set, 0, 0, true, x.table, s.stamp, s.life⟩ := by simp only [NextC, NextB, NextA, h1, h2, if_true, Bool.false_eq_true, if_false]
    rw [hn]
    refine WCall.any _ (stepR p s x.ticks ⟨(FuseF p.f l).1, s.time, s.set, 0, 0, true, x.table, s.stamp, s.life⟩ hx) (WCall.any _ (sayR p (StepF p s x.ticks ⟨(FuseF p.f l).1, s.time, s.set, 0, 0, true, x.table, s.stamp, s.life⟩) 1 me rd seen (tab (next := ⟨(FuseF p.f l).1, s.time, s.set, 0, 0, true, x.table, s.stamp, s.life⟩) hx)) ?_)
    exact endP (.inr rfl) rfl rfl ⟨flatState _, flatM _, trivial⟩
  · have hn : NextC p s x l = ⟨(FuseF p.f l).1, s.time, s.set, 0, 0, true, s.table, s.stamp, s.life⟩ := by simp only [NextC, NextB, NextA, h1, h2, if_true, Bool.false_eq_true, if_false]
    rw [hn]
    refine WCall.any _ (stepR p s x.ticks ⟨(FuseF p.f l).1, s.time, s.set, 0, 0, true, s.table, s.stamp, s.life⟩ hs) (WCall.any _ (sayR p (StepF p s x.ticks ⟨(FuseF p.f l).1, s.time, s.set, 0, 0, true, s.table, s.stamp, s.life⟩) 1 me rd seen (tab (next := ⟨(FuseF p.f l).1, s.time, s.set, 0, 0, true, s.table, s.stamp, s.life⟩) hs)) ?_)
    exact endP (.inr rfl) rfl rfl ⟨flatState _, flatM _, trivial⟩

theorem trs_S2 (m : Mem) (os : List Nat) (s : State) : Trs m os (eState s) (eState s) := by
  unfold eState; repeat first | exact Trs.nil | refine Trs.cons (Tr.p _) ?_
theorem trs_I2 (m : Mem) (os : List Nat) (x : Input) : Trs m os (eInput x) (eInput x) := by
  unfold eInput; repeat first | exact Trs.nil | refine Trs.cons (Tr.p _) ?_
theorem trs_z1 (m : Mem) (os : List Nat) : Trs m os zst zst := by
  repeat first | exact Trs.nil | refine Trs.cons (Tr.p _) ?_
theorem trs_z2 (m : Mem) (os : List Nat) : Trs m os zmsg zmsg := by
  repeat first | exact Trs.nil | refine Trs.cons (Tr.p _) ?_
theorem trs_Sp (m : Mem) (os : List Nat) (s : Span) : Trs m os (eSpan s) (eSpan s) := by
  unfold eSpan; repeat first | exact Trs.nil | refine Trs.cons (Tr.p _) ?_
def qV : List Span → AV
  | [] => zl
  | o :: os => .sl 6 os.length 0 (os.length + 1) 2
def qM (p : Params) (s : State) (x : Input) (seen : Span) : List Span → Mem
  | [] => qB p s x seen
  | o :: os => qB p s x seen ++ [rows rSpan (o :: os) os.length]
theorem qM_len (p : Params) (s : State) (x : Input) (seen : Span) : ∀ z, (qM p s x seen z).length ≤ 7
  | [] => by show 6 ≤ 7; decide
  | _ :: _ => Nat.le_refl 7
theorem beatR_loop (p : Params) (s : State) (me : Int) (x : Input) (rd : Bool) (seen : Span) (z0 : List Span) (l : List Heard) (hz0 : z0.length ≤ 1) (hl : l.length ≤ 1048575) (hs : s.table.length ≤ 1048576) (hx : x.table.length ≤ 1048576) {L : Env}
    (hL : Says L (qE me rd (qV z0) ++ [(39, .p (hd l)), (40, i (l.map rHeard).length), (41, i ((0 : Nat) : Int))])) :
    WLoop Tryz.prog 102 R_ref22_Beat_b0 [.blk 0, .code R_ref22_Beat_s7] L (qM p s x seen z0)
      (Ends R_ref22_Beat [] (.tup [.agg (eState (StampF (StepF p s x.ticks (NextC p s x (z0 ++ spansOf p l))))), .agg (eMsg (SayF p (StepF p s x.ticks (NextC p s x (z0 ++ spansOf p l))) 1 me rd seen))]) []) := by
  refine wloopk (σ := Nat × List Span) 0 rfl (fun q => qE me rd (qV q.2) ++ [(39, .p (hd l)), (40, i (l.map rHeard).length), (41, i q.1)]) (fun q => qM p s x seen q.2) (fun q => q.1 ≤ l.length ∧ q.2 = z0 ++ spansOf p (l.take q.1)) (fun q => l.length - q.1) (0, z0)
    (fun (_ : Nat) => qE me rd (spl false (z0 ++ spansOf p l))) (fun c => qB p s x seen ++ [.dead c]) (fun _ => True) hL rfl ⟨Nat.zero_le _, by simp [spansOf]⟩ ?_ ?_
  · rintro ⟨k, z⟩ ⟨hk, hz⟩
    have hk : k ≤ l.length := hk
    have hz : z = z0 ++ spansOf p (l.take k) := hz
    have inc : some (i (IntKind.i64.wrap ((k : Int) + 1))) = some (i ((k + 1 : Nat) : Int)) := by rw [wrap_id (by omega) (by omega)]; rfl
    have hlen : z.length ≤ 1 + k := by
      have := spansOf_len p (l.take k)
      rw [List.length_take] at this
      rw [hz, List.length_append]; omega
    have k7 := qM_len p s x seen z0
    have snoc : ∀ h, l[k]? = some h → z0 ++ spansOf p (l.take (k + 1)) = if h.msg.ref = true then z ++ [Way p h.msg.seen h.age] else z := by
      intro h hh
      rw [spansOf_snoc p hh, hz]
      split
      · rw [List.append_assoc]
      · rfl
    cases z with
    | nil =>
      have k6 : (qM p s x seen z0).length ≤ 6 := by
        have : z0 = [] := by
          cases z0 with
          | nil => rfl
          | cons a b => simp at hz
        rw [this]; exact Nat.le_refl 6
      refine ⟨fun h1 => ?_, fun h1 => ?_⟩
      · have h1 : k < l.length := by have := dt h1; simp at this; exact this
        have hx' := List.getElem?_eq_getElem h1
        have sn := snoc _ hx'
        refine WOp.mk _ _ (iad_list rfl rfl (Int.natCast_nonneg k) (row_get hx')) trivial ⟨fun h2 => ?_, fun h2 => ?_⟩
        · rw [if_pos h2] at sn
          refine WCall.any _ (wayR p l[k].msg.seen l[k].age) ?_
          refine WOp.mk _ _ (app_rows0 (f := rSpan) (y := Way p l[k].msg.seen l[k].age) rfl rfl (by decide) (by decide)) trivial ?_
          exact ⟨(k + 1, [Way p l[k].msg.seen l[k].age]), ⟨h1, sn.symm⟩, by show l.length - (k + 1) < l.length - k; omega, tells [0, 1, 2, 3, 4, 5, 7] (by decide) ⟨⟨_, rfl, rfl, rfl, trs_P' _ _ p⟩, ⟨_, rfl, rfl, rfl, trs_S2 _ _ s⟩, ⟨_, rfl, rfl, rfl, trs_I2 _ _ x⟩, ⟨_, rfl, rfl, rfl, trs_z1 _ _⟩, ⟨_, rfl, rfl, rfl, trs_z2 _ _⟩, ⟨_, rfl, rfl, rfl, trs_Sp _ _ seen⟩, ⟨_, rfl, rfl, rfl, trs_p _ _ (([Way p l[k].msg.seen l[k].age].map rSpan).flatten)⟩, trivial⟩ (OldT.down' (b := 6) ⟨⟨⟨⟨⟨⟨trivial, .inl rfl⟩, .inl rfl⟩, .inl rfl⟩, .inl rfl⟩, .inl rfl⟩, .inl rfl⟩ k6) ⟨⟨_, rfl, .p _⟩, ⟨_, rfl, .ptr rfl⟩, ⟨_, rfl, .ptr rfl⟩, ⟨_, rfl, .ptr rfl⟩, ⟨_, rfl, .ptr rfl⟩, ⟨_, rfl, .ptr rfl⟩, ⟨_, rfl, .ptr rfl⟩, ⟨_, rfl, .p _⟩, ⟨_, rfl, .sl rfl⟩, ⟨_, rfl, .p _⟩, ⟨_, rfl, .p _⟩, ⟨_, inc, .p _⟩, trivial⟩⟩
        · rw [if_neg (by rw [h2]; decide)] at sn
          exact ⟨(k + 1, []), ⟨h1, sn.symm⟩, by show l.length - (k + 1) < l.length - k; omega, tells [0, 1, 2, 3, 4, 5] (by decide) ⟨⟨_, rfl, rfl, rfl, trs_P' _ _ p⟩, ⟨_, rfl, rfl, rfl, trs_S2 _ _ s⟩, ⟨_, rfl, rfl, rfl, trs_I2 _ _ x⟩, ⟨_, rfl, rfl, rfl, trs_z1 _ _⟩, ⟨_, rfl, rfl, rfl, trs_z2 _ _⟩, ⟨_, rfl, rfl, rfl, trs_Sp _ _ seen⟩, trivial⟩ (OldT.down' (b := 6) ⟨⟨⟨⟨⟨⟨trivial, .inl rfl⟩, .inl rfl⟩, .inl rfl⟩, .inl rfl⟩, .inl rfl⟩, .inl rfl⟩ k6) ⟨⟨_, rfl, .p _⟩, ⟨_, rfl, .ptr rfl⟩, ⟨_, rfl, .ptr rfl⟩, ⟨_, rfl, .ptr rfl⟩, ⟨_, rfl, .ptr rfl⟩, ⟨_, rfl, .ptr rfl⟩, ⟨_, rfl, .ptr rfl⟩, ⟨_, rfl, .p _⟩, ⟨_, rfl, .p _⟩, ⟨_, rfl, .p _⟩, ⟨_, rfl, .p _⟩, ⟨_, inc, .p _⟩, trivial⟩⟩
      · have h1 : k = l.length := by have := df h1; simp at this; omega
        rw [h1, List.take_length] at hz
        rw [← hz]
        exact ⟨0, trivial, tells [0, 1, 2, 3, 4, 5] (by decide) ⟨⟨_, rfl, rfl, rfl, trs_P' _ _ p⟩, ⟨_, rfl, rfl, rfl, trs_S2 _ _ s⟩, ⟨_, rfl, rfl, rfl, trs_I2 _ _ x⟩, ⟨_, rfl, rfl, rfl, trs_z1 _ _⟩, ⟨_, rfl, rfl, rfl, trs_z2 _ _⟩, ⟨_, rfl, rfl, rfl, trs_Sp _ _ seen⟩, rfl, trivial⟩ (OldT.down' (b := 6) ⟨⟨⟨⟨⟨⟨trivial, .inl rfl⟩, .inl rfl⟩, .inl rfl⟩, .inl rfl⟩, .inl rfl⟩, .inl rfl⟩ k6) ⟨⟨_, rfl, .p _⟩, ⟨_, rfl, .ptr rfl⟩, ⟨_, rfl, .ptr rfl⟩, ⟨_, rfl, .ptr rfl⟩, ⟨_, rfl, .ptr rfl⟩, ⟨_, rfl, .ptr rfl⟩, ⟨_, rfl, .ptr rfl⟩, ⟨_, rfl, .p _⟩, ⟨_, rfl, .le (.p _) (le_nil _ _ _)⟩, trivial⟩⟩
    | cons o os =>
      refine ⟨fun h1 => ?_, fun h1 => ?_⟩
      · have h1 : k < l.length := by have := dt h1; simp at this; exact this
        have hx' := List.getElem?_eq_getElem h1
        have sn := snoc _ hx'
        refine WOp.mk _ _ (iad_list rfl rfl (Int.natCast_nonneg k) (row_get hx')) trivial ⟨fun h2 => ?_, fun h2 => ?_⟩
        · rw [if_pos h2] at sn
          refine WCall.any _ (wayR p l[k].msg.seen l[k].age) ?_
          have lo : (os ++ [Way p l[k].msg.seen l[k].age]).length = os.length + 1 := by simp
          refine WOp.mk _ _ (app_rows (f := rSpan) (xs := o :: os) (y := Way p l[k].msg.seen l[k].age) rSpan_len rfl rfl rfl (by decide) (by omega)) trivial ?_
          refine ⟨(k + 1, o :: (os ++ [Way p l[k].msg.seen l[k].age])), ⟨h1, sn.symm⟩, by show l.length - (k + 1) < l.length - k; omega, tells [0, 1, 2, 3, 4, 5, 6] (by decide) ⟨⟨_, rfl, rfl, rfl, trs_P' _ _ p⟩, ⟨_, rfl, rfl, rfl, trs_S2 _ _ s⟩, ⟨_, rfl, rfl, rfl, trs_I2 _ _ x⟩, ⟨_, rfl, rfl, rfl, trs_z1 _ _⟩, ⟨_, rfl, rfl, rfl, trs_z2 _ _⟩, ⟨_, rfl, rfl, rfl, trs_Sp _ _ seen⟩, ⟨_, rfl, lo, rfl, trs_p _ _ _⟩, trivial⟩ (OldT.down' (b := 7) ⟨⟨⟨⟨⟨⟨⟨trivial, .inl rfl⟩, .inl rfl⟩, .inl rfl⟩, .inl rfl⟩, .inl rfl⟩, .inl rfl⟩, .inl rfl⟩ k7) ⟨⟨_, rfl, .p _⟩, ⟨_, rfl, .ptr rfl⟩, ⟨_, rfl, .ptr rfl⟩, ⟨_, rfl, .ptr rfl⟩, ⟨_, rfl, .ptr rfl⟩, ⟨_, rfl, .ptr rfl⟩, ⟨_, rfl, .ptr rfl⟩, ⟨_, rfl, .p _⟩, ⟨_, rfl, ?_⟩, ⟨_, rfl, .p _⟩, ⟨_, rfl, .p _⟩, ⟨_, inc, .p _⟩, trivial⟩⟩
          show Tr _ _ _ (AV.sl 6 (os ++ [Way p l[k].msg.seen l[k].age]).length 0 ((os ++ [Way p l[k].msg.seen l[k].age]).length + 1) 2)
          rw [lo]; exact .sl rfl
        · rw [if_neg (by rw [h2]; decide)] at sn
          exact ⟨(k + 1, o :: os), ⟨h1, sn.symm⟩, by show l.length - (k + 1) < l.length - k; omega, tells [0, 1, 2, 3, 4, 5, 6] (by decide) ⟨⟨_, rfl, rfl, rfl, trs_P' _ _ p⟩, ⟨_, rfl, rfl, rfl, trs_S2 _ _ s⟩, ⟨_, rfl, rfl, rfl, trs_I2 _ _ x⟩, ⟨_, rfl, rfl, rfl, trs_z1 _ _⟩, ⟨_, rfl, rfl, rfl, trs_z2 _ _⟩, ⟨_, rfl, rfl, rfl, trs_Sp _ _ seen⟩, ⟨_, rfl, rfl, rfl, trs_p _ _ _⟩, trivial⟩ (OldT.down' (b := 7) ⟨⟨⟨⟨⟨⟨⟨trivial, .inl rfl⟩, .inl rfl⟩, .inl rfl⟩, .inl rfl⟩, .inl rfl⟩, .inl rfl⟩, .inl rfl⟩ k7) ⟨⟨_, rfl, .p _⟩, ⟨_, rfl, .ptr rfl⟩, ⟨_, rfl, .ptr rfl⟩, ⟨_, rfl, .ptr rfl⟩, ⟨_, rfl, .ptr rfl⟩, ⟨_, rfl, .ptr rfl⟩, ⟨_, rfl, .ptr rfl⟩, ⟨_, rfl, .p _⟩, ⟨_, rfl, .sl rfl⟩, ⟨_, rfl, .p _⟩, ⟨_, rfl, .p _⟩, ⟨_, inc, .p _⟩, trivial⟩⟩
      · have h1 : k = l.length := by have := df h1; simp at this; omega
        rw [h1, List.take_length] at hz
        rw [← hz]
        exact ⟨os.length, trivial, tells [0, 1, 2, 3, 4, 5] (by decide) ⟨⟨_, rfl, rfl, rfl, trs_P' _ _ p⟩, ⟨_, rfl, rfl, rfl, trs_S2 _ _ s⟩, ⟨_, rfl, rfl, rfl, trs_I2 _ _ x⟩, ⟨_, rfl, rfl, rfl, trs_z1 _ _⟩, ⟨_, rfl, rfl, rfl, trs_z2 _ _⟩, ⟨_, rfl, rfl, rfl, trs_Sp _ _ seen⟩, rfl, trivial⟩ (OldT.down' (b := 7) ⟨⟨⟨⟨⟨⟨⟨trivial, .inl rfl⟩, .inl rfl⟩, .inl rfl⟩, .inl rfl⟩, .inl rfl⟩, .inl rfl⟩, .inr ⟨os.length, rfl, fun blk hb => by obtain rfl := Option.some.inj hb; exact Nat.le_refl _⟩⟩ k7) ⟨⟨_, rfl, .p _⟩, ⟨_, rfl, .ptr rfl⟩, ⟨_, rfl, .ptr rfl⟩, ⟨_, rfl, .ptr rfl⟩, ⟨_, rfl, .ptr rfl⟩, ⟨_, rfl, .ptr rfl⟩, ⟨_, rfl, .ptr rfl⟩, ⟨_, rfl, .p _⟩, ⟨_, rfl, tr_rows' (xs := o :: os) (b := 6) rSpan_len rSpan_one (show 6 ∉ [0, 1, 2, 3, 4, 5] by decide) rfl⟩, trivial⟩⟩
  · intro c _
    refine beatR_rest p s me x rd seen _ c ?_ hs hx
    have := spansOf_len p l
    rw [List.length_append]; omega
theorem beatR_0 (p : Params) (s : State) (me : Int) (x : Input) (hs : s.table.length ≤ 1048576) (hx : x.table.length ≤ 1048576) :
    ACall Tryz.prog 14 [.agg (eP p), i me, .agg (eState s), .agg (eInput x)] [] (.tup [.agg (eState (BeatS p me s x)), .agg (eMsg (BeatM p me s x))]) [] := by
  have hT := told_len p me x.heard
  have absB : ∀ {b : Bool} {F : Prop}, b = true → b = false → F := fun h h' => by rw [h] at h'; cases h'
  by_cases hr : ReadB p x = true
  · have h12 := Bool.and_eq_true_iff.1 hr
    have eM : BeatM p me s x = SayF p (StepF p s x.ticks (NextC p s x ([(Seen p x.reading).1] ++ spansOf p (Told p me x.heard)))) 1 me true (Seen p x.reading).1 := by simp only [BeatM, StepG, SpansB, SeenB, hr, if_true]
    have eS : BeatS p me s x = StampF (StepF p s x.ticks (NextC p s x ([(Seen p x.reading).1] ++ spansOf p (Told p me x.heard)))) := by simp only [BeatS, StepG, SpansB, hr, if_true]
    rw [eM, eS]
    refine acall_run R_ref22_Beat_ok ?_
    refine WCall.any _ (seenR p x.reading) ⟨fun h1 => ⟨fun h2 => ?_, fun h2 => absB h12.2 h2⟩, fun h1 => absB h12.1 h1⟩
    refine WOp.mk _ _ (app_rows0 (f := rSpan) (y := (Seen p x.reading).1) rfl rfl (by decide) (by decide)) trivial ?_
    refine WCall.any _ (toldRk p me false x.heard) ?_
    exact beatR_loop p s me x true (Seen p x.reading).1 [(Seen p x.reading).1] (Told p me x.heard) (Nat.le_refl 1) (by omega) hs hx ⟨rfl, rfl, rfl, rfl, rfl, rfl, rfl, rfl, rfl, rfl, rfl, rfl, trivial⟩
  · have eM : BeatM p me s x = SayF p (StepF p s x.ticks (NextC p s x ([] ++ spansOf p (Told p me x.heard)))) 1 me false ⟨0, 0⟩ := by
      have hr' : ReadB p x = false := by simpa using hr
      simp only [BeatM, StepG, SpansB, SeenB, hr', Bool.false_eq_true, if_false, List.nil_append]
    have eS : BeatS p me s x = StampF (StepF p s x.ticks (NextC p s x ([] ++ spansOf p (Told p me x.heard)))) := by simp only [BeatS, StepG, SpansB, if_neg hr, List.nil_append]
    rw [eM, eS]
    refine acall_run R_ref22_Beat_ok ?_
    refine WCall.any _ (seenR p x.reading) ⟨fun h1 => ⟨fun h2 => absurd (Bool.and_eq_true_iff.2 ⟨h1, h2⟩) hr, fun h2 => ?_⟩, fun h1 => ?_⟩
    · refine WCall.any _ (toldRk p me false x.heard) ?_
      exact beatR_loop p s me x false ⟨0, 0⟩ [] (Told p me x.heard) (Nat.zero_le 1) (by omega) hs hx ⟨rfl, rfl, rfl, rfl, rfl, rfl, rfl, rfl, rfl, rfl, rfl, rfl, trivial⟩
    · refine WCall.any _ (toldRk p me false x.heard) ?_
      exact beatR_loop p s me x false ⟨0, 0⟩ [] (Told p me x.heard) (Nat.zero_le 1) (by omega) hs hx ⟨rfl, rfl, rfl, rfl, rfl, rfl, rfl, rfl, rfl, rfl, rfl, rfl, trivial⟩
theorem flatIn (x : Input) : (AV.agg (eInput x)).under 0 := ⟨trivial, trivial, trivial, trivial, trivial, trivial, trivial⟩
theorem beatR (p : Params) (s : State) (me : Int) (x : Input) (hs : s.table.length ≤ 1048576) (hx : x.table.length ≤ 1048576) (m : Mem) :
    ACall Tryz.prog 14 [.agg (eP p), i me, .agg (eState s), .agg (eInput x)] m (.tup [.agg (eState (BeatS p me s x)), .agg (eMsg (BeatM p me s x))]) m := acall_pure (beatR_0 p s me x hs hx) ⟨flatP p, trivial, flatState s, flatIn x, trivial⟩ m
end Go.Proofs.YtlkphnhlibpngaaGreat.Abs
