/- The document's functions, part 7: what is told. -/
import Derived.Test.YtlkphnhlibpngaaGreatD6
import Derived.Test.YtlkphnhlibpngaaGreatAbsTell
set_option linter.unusedVariables false
set_option linter.unusedSimpArgs false
set_option maxRecDepth 100000
namespace Go.Proofs.YtlkphnhlibpngaaGreat.Abs
open Go

theorem rHeard_one' (y : Heard) : ∀ q ∈ rHeard y, (AV.p q).one = true := by
  intro q hq
  simp only [rHeard, rMsg, List.cons_append, List.nil_append, List.mem_cons, List.not_mem_nil, or_false] at hq
  rcases hq with rfl | rfl | rfl | rfl | rfl | rfl | rfl | rfl | rfl | rfl | rfl | rfl | rfl | rfl | rfl <;> rfl
theorem OldT.down' {m M : Mem} {os : List Nat} {a b : Nat} (h : OldT m M os b) (hab : a ≤ b) : OldT m M os a := by
  induction b with
  | zero => obtain rfl : a = 0 := by omega
            exact h
  | succ b ih =>
    by_cases e : a = b + 1
    · subst e; exact h
    · exact ih h.1 (by omega)
theorem trs_P' (m : Mem) (os : List Nat) (p : Params) : Trs m os (eP p) (eP p) :=
  .cons (.p _) (.cons (.p _) (.cons (.p _) (.cons (.p _) (.cons (.p _) (.cons (.p _) (.cons (.p _) (.cons (.p _) (.cons (.p _) (.cons (.p _) (.cons (.p _) (.cons (.p _) .nil)))))))))))
theorem tr_rows' {α : Type} {f : α → List PV} {sz : Nat} {m : Mem} {os : List Nat} {b ver : Nat} {xs : List α} (hf : ∀ a, (f a).length = sz) (h1 : ∀ a, ∀ q ∈ f a, (AV.p q).one = true) (hk : b ∉ os) (hb : m[b]? = some (rows f xs ver)) : Tr m os (.sl b ver 0 xs.length sz) (.p (.list sz false (xs.map f))) :=
  .list hk hb rfl rfl rfl (by simp) (by intro r hr; obtain ⟨a, _, rfl⟩ := List.mem_map.1 hr; exact hf a) (by
    intro c hc
    obtain ⟨q, hq, rfl⟩ := List.mem_map.1 hc
    obtain ⟨r, hr, hq⟩ := List.mem_flatten.1 hq
    obtain ⟨a, _, rfl⟩ := List.mem_map.1 hr
    exact h1 a q hq)
theorem find_take {α : Type} {p : α → Bool} {l : List α} {c : Nat} {x : α} (h : (l.take c).find? p = none) (hx : l[c]? = some x) (hp : p x = true) : l.find? p = some x := by
  have hl := (List.getElem?_eq_some_iff.1 hx).1
  have e : l = l.take c ++ (x :: l.drop (c + 1)) := by
    have : x = l[c] := by rw [List.getElem?_eq_getElem hl] at hx; exact (Option.some.inj hx).symm
    rw [this, ← List.drop_eq_getElem_cons hl, List.take_append_drop]
  rw [e, List.find?_append, h]
  simp [hp]
def oV : List Heard → AV
  | [] => zl
  | o :: os => .sl 1 os.length 0 (os.length + 1) 15
def oM (p : Params) : List Heard → Mem
  | [] => [.box (eP p)]
  | o :: os => [.box (eP p), rows rHeard (o :: os) os.length]
theorem oM_len (p : Params) : ∀ z, (oM p z).length ≤ 2
  | [] => by show 1 ≤ 2; decide
  | _ :: _ => Nat.le_refl 2
theorem old1 {m M : Mem} {os : List Nat} {k : Nat} (hk : k ≤ 1) (h0 : os[0]? = some 0) : OldT m M os k := OldT.down' (b := 1) ⟨trivial, .inl h0⟩ hk
theorem old2 {m M : Mem} {os : List Nat} {k : Nat} (hk : k ≤ 2) (h0 : os[0]? = some 0) (h1 : os[1]? = some 1 ∨ ∃ c, M[1]? = some (.dead c) ∧ ∀ blk, m[1]? = some blk → blk.cur ≤ c) : OldT m M os k := OldT.down' (b := 2) ⟨⟨trivial, .inl h0⟩, h1⟩ hk
theorem toldR_len {me : Int} {l : List Heard} : ∀ k, (ToldR me l k).length ≤ k
  | 0 => Nat.le_refl _
  | k + 1 => by
    rw [ToldR, List.length_append]
    have := toldR_len (me := me) (l := l) k
    cases PickH me l k <;> simp <;> omega
theorem told_b1 (p : Params) (me : Int) (t : Bool) (l : List Heard) (k : Nat) (hk : k < 16) (z : List Heard) (hz : z.length ≤ 16) (hlen : l.length ≤ 281474976710656) {L : Env} {Q : QT} {kk : List Item}
    (hL : Says L [(1, i me), (2, .p (.list 15 t (l.map rHeard))), (3, .ptr 0 0 0), (7, oV z), (8, i k), (21, .p (.list 15 t (l.map rHeard))), (22, i (l.map rHeard).length), (23, i ((0 : Nat) : Int))])
    (hr : Wy Tryz.prog 49 100000 [] [] kk [(1, i me), (2, .p (.list 15 t (l.map rHeard))), (3, .ptr 0 0 0), (7, oV (z ++ (PickH me l k).toList)), (8, i k)] (oM p (z ++ (PickH me l k).toList)) Q) :
    WLoop Tryz.prog 49 R_ref22_Told_b1 (.blk 2 :: kk) L (oM p z) Q := by
  have ll : (l.map rHeard).length = l.length := List.length_map _
  refine wloopk (σ := Nat) 2 rfl (fun c => [(1, i me), (2, .p (.list 15 t (l.map rHeard))), (3, .ptr 0 0 0), (7, oV z), (8, i k), (21, .p (.list 15 t (l.map rHeard))), (22, i (l.map rHeard).length), (23, i c)]) (fun _ => oM p z) (fun c => c ≤ l.length ∧ ((k : Int) = me ∨ (l.take c).find? (IsH k) = none)) (fun c => l.length - c) 0
    (fun (_ : Unit) => [(1, i me), (2, .p (.list 15 t (l.map rHeard))), (3, .ptr 0 0 0), (7, oV (z ++ (PickH me l k).toList)), (8, i k)]) (fun _ => oM p (z ++ (PickH me l k).toList)) (fun _ => True) hL rfl ⟨Nat.zero_le _, .inr (by simp)⟩ ?_ (fun _ _ => Wy_sound _ _ _ _ _ _ _ hr)
  rintro c ⟨hc, hno⟩
  have inc : some (i (IntKind.i64.wrap ((c : Int) + 1))) = some (i ((c + 1 : Nat) : Int)) := by rw [wrap_id (by omega) (by omega)]; rfl
  cases z with
  | nil =>
    refine ⟨fun h1 => ?_, fun h1 => ?_⟩
    · have h1 : c < l.length := by have := dt h1; simp at this; exact this
      have hx := List.getElem?_eq_getElem h1
      have nomatch_ : (!decide ((k : Int) = me)) = true → IsH k l[c] = false → (l.take (c + 1)).find? (IsH k) = none := by
        intro g1 g2
        rw [take_succ_get hx, List.find?_append, hno.resolve_left (ndt g1)]
        simp [g2]
      refine WOp.mk _ _ (iad_list rfl rfl (Int.natCast_nonneg c) (row_get hx)) trivial ?_
      refine ⟨fun g1 => ⟨fun g2 => ⟨fun g3 => ?_, fun g3 => ?_⟩, fun g2 => ?_⟩, fun g1 => ?_⟩
      · have hp : IsH k l[c] = true := by rw [IsH, g2]; exact g3
        have e : PickH me l k = some l[c] := by
          have g1 : ¬ (k : Int) = me := ndt g1
          unfold PickH
          rw [if_neg g1]
          exact find_take (hno.resolve_left g1) hx hp
        rw [e]
        refine WOp.mk _ _ (app_rows0 (f := rHeard) (y := l[c]) rfl rfl (by decide) (by decide)) trivial ?_
        exact ⟨(), trivial, tells [0, 2] (by decide) ⟨⟨_, rfl, rfl, rfl, trs_P' _ _ p⟩, ⟨_, rfl, rfl, rfl, trs_p _ _ (([l[c]].map rHeard).flatten)⟩, trivial⟩ (old1 (Nat.le_refl 1) rfl) ⟨⟨_, rfl, .p _⟩, ⟨_, rfl, .p _⟩, ⟨_, rfl, .ptr rfl⟩, ⟨_, rfl, .sl rfl⟩, ⟨_, rfl, .p _⟩, trivial⟩⟩
      · exact ⟨c + 1, ⟨h1, .inr (nomatch_ g1 (by rw [IsH, g2]; exact g3))⟩, by show l.length - (c + 1) < _; omega, tells [0] (by decide) ⟨⟨_, rfl, rfl, rfl, trs_P' _ _ p⟩, trivial⟩ (old1 (Nat.le_refl 1) rfl) ⟨⟨_, rfl, .p _⟩, ⟨_, rfl, .p _⟩, ⟨_, rfl, .ptr rfl⟩, ⟨_, rfl, .p _⟩, ⟨_, rfl, .p _⟩, ⟨_, rfl, .p _⟩, ⟨_, rfl, .p _⟩, ⟨_, inc, .p _⟩, trivial⟩⟩
      · exact ⟨c + 1, ⟨h1, .inr (nomatch_ g1 (by rw [IsH, show decide (l[c].msg.kind = 1) = false from g2]; rfl))⟩, by show l.length - (c + 1) < _; omega, tells [0] (by decide) ⟨⟨_, rfl, rfl, rfl, trs_P' _ _ p⟩, trivial⟩ (old1 (Nat.le_refl 1) rfl) ⟨⟨_, rfl, .p _⟩, ⟨_, rfl, .p _⟩, ⟨_, rfl, .ptr rfl⟩, ⟨_, rfl, .p _⟩, ⟨_, rfl, .p _⟩, ⟨_, rfl, .p _⟩, ⟨_, rfl, .p _⟩, ⟨_, inc, .p _⟩, trivial⟩⟩
      · exact ⟨c + 1, ⟨h1, .inl (ndf g1)⟩, by show l.length - (c + 1) < _; omega, tells [0] (by decide) ⟨⟨_, rfl, rfl, rfl, trs_P' _ _ p⟩, trivial⟩ (old1 (Nat.le_refl 1) rfl) ⟨⟨_, rfl, .p _⟩, ⟨_, rfl, .p _⟩, ⟨_, rfl, .ptr rfl⟩, ⟨_, rfl, .p _⟩, ⟨_, rfl, .p _⟩, ⟨_, rfl, .p _⟩, ⟨_, rfl, .p _⟩, ⟨_, inc, .p _⟩, trivial⟩⟩
    · have h1 : c = l.length := by have := df h1; simp at this; omega
      have e : PickH me l k = none := by
        unfold PickH
        split
        · rfl
        · rename_i hm
          have := hno.resolve_left hm
          rwa [h1, List.take_length] at this
      rw [e]
      exact ⟨(), trivial, tells [0] (by decide) ⟨⟨_, rfl, rfl, rfl, trs_P' _ _ p⟩, trivial⟩ (old1 (Nat.le_refl 1) rfl) ⟨⟨_, rfl, .p _⟩, ⟨_, rfl, .p _⟩, ⟨_, rfl, .ptr rfl⟩, ⟨_, rfl, .p _⟩, ⟨_, rfl, .p _⟩, trivial⟩⟩
  | cons o os =>
    have hlo : (o :: os).length = os.length + 1 := rfl
    refine ⟨fun h1 => ?_, fun h1 => ?_⟩
    · have h1 : c < l.length := by have := dt h1; simp at this; exact this
      have hx := List.getElem?_eq_getElem h1
      have nomatch_ : (!decide ((k : Int) = me)) = true → IsH k l[c] = false → (l.take (c + 1)).find? (IsH k) = none := by
        intro g1 g2
        rw [take_succ_get hx, List.find?_append, hno.resolve_left (ndt g1)]
        simp [g2]
      refine WOp.mk _ _ (iad_list rfl rfl (Int.natCast_nonneg c) (row_get hx)) trivial ?_
      refine ⟨fun g1 => ⟨fun g2 => ⟨fun g3 => ?_, fun g3 => ?_⟩, fun g2 => ?_⟩, fun g1 => ?_⟩
      · have hp : IsH k l[c] = true := by rw [IsH, g2]; exact g3
        have e : PickH me l k = some l[c] := by
          have g1 : ¬ (k : Int) = me := ndt g1
          unfold PickH
          rw [if_neg g1]
          exact find_take (hno.resolve_left g1) hx hp
        rw [e]
        have lo : (os ++ [l[c]]).length = os.length + 1 := by simp
        refine WOp.mk _ _ (app_rows (f := rHeard) (xs := o :: os) (y := l[c]) rHeard_len rfl rfl rfl (by decide) (by omega)) trivial ?_
        refine ⟨(), trivial, tells [0, 1] (by decide) ⟨⟨_, rfl, rfl, rfl, trs_P' _ _ p⟩, ⟨_, rfl, lo, rfl, trs_p _ _ _⟩, trivial⟩ (old2 (Nat.le_refl 2) rfl (.inl rfl)) ⟨⟨_, rfl, .p _⟩, ⟨_, rfl, .p _⟩, ⟨_, rfl, .ptr rfl⟩, ⟨_, rfl, ?_⟩, ⟨_, rfl, .p _⟩, trivial⟩⟩
        show Tr _ _ _ (AV.sl 1 (os ++ [l[c]]).length 0 ((os ++ [l[c]]).length + 1) 15)
        rw [lo]; exact .sl rfl
      · exact ⟨c + 1, ⟨h1, .inr (nomatch_ g1 (by rw [IsH, g2]; exact g3))⟩, by show l.length - (c + 1) < _; omega, tells [0, 1] (by decide) ⟨⟨_, rfl, rfl, rfl, trs_P' _ _ p⟩, ⟨_, rfl, rfl, rfl, trs_p _ _ _⟩, trivial⟩ (old2 (Nat.le_refl 2) rfl (.inl rfl)) ⟨⟨_, rfl, .p _⟩, ⟨_, rfl, .p _⟩, ⟨_, rfl, .ptr rfl⟩, ⟨_, rfl, .sl rfl⟩, ⟨_, rfl, .p _⟩, ⟨_, rfl, .p _⟩, ⟨_, rfl, .p _⟩, ⟨_, inc, .p _⟩, trivial⟩⟩
      · exact ⟨c + 1, ⟨h1, .inr (nomatch_ g1 (by rw [IsH, show decide (l[c].msg.kind = 1) = false from g2]; rfl))⟩, by show l.length - (c + 1) < _; omega, tells [0, 1] (by decide) ⟨⟨_, rfl, rfl, rfl, trs_P' _ _ p⟩, ⟨_, rfl, rfl, rfl, trs_p _ _ _⟩, trivial⟩ (old2 (Nat.le_refl 2) rfl (.inl rfl)) ⟨⟨_, rfl, .p _⟩, ⟨_, rfl, .p _⟩, ⟨_, rfl, .ptr rfl⟩, ⟨_, rfl, .sl rfl⟩, ⟨_, rfl, .p _⟩, ⟨_, rfl, .p _⟩, ⟨_, rfl, .p _⟩, ⟨_, inc, .p _⟩, trivial⟩⟩
      · exact ⟨c + 1, ⟨h1, .inl (ndf g1)⟩, by show l.length - (c + 1) < _; omega, tells [0, 1] (by decide) ⟨⟨_, rfl, rfl, rfl, trs_P' _ _ p⟩, ⟨_, rfl, rfl, rfl, trs_p _ _ _⟩, trivial⟩ (old2 (Nat.le_refl 2) rfl (.inl rfl)) ⟨⟨_, rfl, .p _⟩, ⟨_, rfl, .p _⟩, ⟨_, rfl, .ptr rfl⟩, ⟨_, rfl, .sl rfl⟩, ⟨_, rfl, .p _⟩, ⟨_, rfl, .p _⟩, ⟨_, rfl, .p _⟩, ⟨_, inc, .p _⟩, trivial⟩⟩
    · have h1 : c = l.length := by have := df h1; simp at this; omega
      have e : PickH me l k = none := by
        unfold PickH
        split
        · rfl
        · rename_i hm
          have := hno.resolve_left hm
          rwa [h1, List.take_length] at this
      rw [e]
      rw [show (o :: os) ++ (none : Option Heard).toList = o :: os from List.append_nil _]
      exact ⟨(), trivial, tells [0, 1] (by decide) ⟨⟨_, rfl, rfl, rfl, trs_P' _ _ p⟩, ⟨_, rfl, rfl, rfl, trs_p _ _ _⟩, trivial⟩ (old2 (Nat.le_refl 2) rfl (.inl rfl)) ⟨⟨_, rfl, .p _⟩, ⟨_, rfl, .p _⟩, ⟨_, rfl, .ptr rfl⟩, ⟨_, rfl, .sl rfl⟩, ⟨_, rfl, .p _⟩, trivial⟩⟩
theorem mn_16 (n : Int) : mn n 16 = if 16 < n then 16 else n := rfl
theorem toldR_0 (p : Params) (me : Int) (t : Bool) (l : List Heard) : ACall Tryz.prog 11 [.agg (eP p), i me, .p (.list 15 t (l.map rHeard))] [] (.p (hd (Told p me l))) [] := by
  refine acall_fact (F := l.length ≤ 281474976710656) (fun S vs _ _ hv => by obtain ⟨_, _, _, _, _, _, _, _, z, zs, _, hv, _⟩ := hv; exact prow_len hv) fun hlen => ?_
  refine acall_run R_ref22_Told_ok ?_
  refine wloopk (σ := Nat) 0 rfl (fun k => [(1, i me), (2, .p (.list 15 t (l.map rHeard))), (3, .ptr 0 0 0), (7, oV (ToldR me l k)), (8, i k)]) (fun k => oM p (ToldR me l k)) (fun k => k ≤ 16 ∧ (k = 0 ∨ (k : Int) ≤ p.n)) (fun k => 16 - k) 0
    (fun (_ : Nat) => [(7, .p (hd (Told p me l)))]) (fun c => [.box (eP p), .dead c]) (fun _ => True) ⟨rfl, rfl, rfl, rfl, rfl, trivial⟩ rfl ⟨Nat.zero_le _, .inl rfl⟩ ?_ (fun c _ => Wy_sound 100000 _ _ _ _ _ _ (endP (.inr rfl) rfl rfl trivial))
  rintro k ⟨hk, hkn⟩
  have inc : some (i (IntKind.i64.wrap ((k : Int) + 1))) = some (i ((k + 1 : Nat) : Int)) := by rw [wrap_id (by omega) (by omega)]; rfl
  have hz : (ToldR me l k).length ≤ 16 := Nat.le_trans (toldR_len k) hk
  have out : ((k : Int) < p.n → ¬ k < 16) → ToldR me l k = Told p me l := by
    intro h
    refine told_eq ?_
    rw [mn_16]
    rcases hkn with h0 | h0
    · subst h0
      right
      refine ⟨rfl, ?_⟩
      split <;> omega
    · left
      split <;> omega
  have fin : ((k : Int) < p.n → ¬ k < 16) → ∀ {L : Env}, L.get 7 = some (oV (ToldR me l k)) → ∃ c, True ∧ TellsK 49 1 L (oM p (ToldR me l k)) [(7, .p (hd (Told p me l)))] [.box (eP p), .dead c] := by
    intro h L h7
    rw [← out h]
    generalize ToldR me l k = z at *
    cases z with
    | nil => exact ⟨0, trivial, tells [0] (by decide) ⟨⟨_, rfl, rfl, rfl, trs_P' _ _ p⟩, rfl, trivial⟩ (old1 (Nat.le_refl 1) rfl) ⟨⟨_, h7, .le (.p _) (le_nil _ _ _)⟩, trivial⟩⟩
    | cons o os => exact ⟨os.length, trivial, tells [0] (by decide) ⟨⟨_, rfl, rfl, rfl, trs_P' _ _ p⟩, rfl, trivial⟩ (old1 (Nat.le_refl 1) rfl) ⟨⟨_, h7, tr_rows' (xs := o :: os) (b := 1) rHeard_len rHeard_one' (show 1 ∉ [0] by decide) rfl⟩, trivial⟩⟩
  have go : (k : Int) < p.n → k < 16 → ∀ {L : Env}, Says L [(1, i me), (2, .p (.list 15 t (l.map rHeard))), (3, .ptr 0 0 0), (7, oV (ToldR me l (k + 1))), (8, i ((k + 1 : Nat) : Int))] → ∃ s' : Nat, (s' ≤ 16 ∧ (s' = 0 ∨ (s' : Int) ≤ p.n)) ∧ 16 - s' < 16 - k ∧ TellsK 49 1 L (oM p (ToldR me l (k + 1))) [(1, i me), (2, .p (.list 15 t (l.map rHeard))), (3, .ptr 0 0 0), (7, oV (ToldR me l s')), (8, i s')] (oM p (ToldR me l s')) := by
    intro h1 h2 L ⟨e1, e2, e3, e7, e8, _⟩
    refine ⟨k + 1, ⟨h2, .inr (by omega)⟩, by omega, ?_⟩
    generalize ToldR me l (k + 1) = z at *
    cases z with
    | nil => exact tells [0] (by decide) ⟨⟨_, rfl, rfl, rfl, trs_P' _ _ p⟩, trivial⟩ (old1 (Nat.le_refl 1) rfl) ⟨⟨_, e1, .p _⟩, ⟨_, e2, .p _⟩, ⟨_, e3, .ptr rfl⟩, ⟨_, e7, .p _⟩, ⟨_, e8, .p _⟩, trivial⟩
    | cons o os => exact tells [0, 1] (by decide) ⟨⟨_, rfl, rfl, rfl, trs_P' _ _ p⟩, ⟨_, rfl, rfl, rfl, trs_p _ _ _⟩, trivial⟩ (old1 (Nat.le_refl 1) rfl) ⟨⟨_, e1, .p _⟩, ⟨_, e2, .p _⟩, ⟨_, e3, .ptr rfl⟩, ⟨_, e7, .sl rfl⟩, ⟨_, e8, .p _⟩, trivial⟩
  have hP : (oM p (ToldR me l k))[0]? = some (.box (eP p)) := by
    cases ToldR me l k <;> rfl
  generalize hT : ToldR me l k = z at *
  cases z with
  | nil =>
    refine ⟨fun h1 => ⟨fun h2 => ?_, fun h2 => ?_⟩, fun h1 => ?_⟩
    · have h2 : k < 16 := by have := dt h2; omega
      refine told_b1 p me t l k h2 [] hz hlen ⟨rfl, rfl, rfl, rfl, rfl, rfl, rfl, rfl, trivial⟩ ?_
      have e : [] ++ (PickH me l k).toList = ToldR me l (k + 1) := by rw [ToldR, hT]
      rw [e]
      refine go (dt h1) h2 ?_
      exact ⟨rfl, rfl, rfl, rfl, inc, trivial⟩
    · exact fin (fun _ => by have := df h2; omega) rfl
    · exact fin (fun h => absurd h (df h1)) rfl
  | cons o os =>
    refine ⟨fun h1 => ⟨fun h2 => ?_, fun h2 => ?_⟩, fun h1 => ?_⟩
    · have h2 : k < 16 := by have := dt h2; omega
      refine told_b1 p me t l k h2 (o :: os) hz hlen ⟨rfl, rfl, rfl, rfl, rfl, rfl, rfl, rfl, trivial⟩ ?_
      have e : (o :: os) ++ (PickH me l k).toList = ToldR me l (k + 1) := by rw [ToldR, hT]
      rw [e]
      refine go (dt h1) h2 ?_
      exact ⟨rfl, rfl, rfl, rfl, inc, trivial⟩
    · exact fin (fun _ => by have := df h2; omega) rfl
    · exact fin (fun h => absurd h (df h1)) rfl
theorem toldRk (p : Params) (me : Int) (t : Bool) (l : List Heard) (m : Mem) : ACall Tryz.prog 11 [.agg (eP p), i me, .p (.list 15 t (l.map rHeard))] m (.p (hd (Told p me l))) m := acall_pure (toldR_0 p me t l) ⟨flatP p, trivial, trivial, trivial⟩ m
end Go.Proofs.YtlkphnhlibpngaaGreat.Abs
