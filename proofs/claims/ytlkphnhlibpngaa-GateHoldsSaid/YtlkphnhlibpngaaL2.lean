/- GateHolds: the walk. -/
import Derived.Test.YtlkphnhlibpngaaL1
import Derived.Test.YtlkphnhlibpngaaPure3
import Derived.Test.YtlkphnhlibpngaaAbsTell
set_option linter.unusedVariables false
set_option linter.unusedSimpArgs false
set_option maxRecDepth 100000
namespace Go.Proofs.Ytlkphnhlibpngaa.Abs
open Go

def rTold (x : TRow) : List PV := [iv x.err, iv x.way, iv x.off]
theorem rHeard_one (y : Heard) : ∀ q ∈ rHeard y, (AV.p q).one = true := by
  intro q hq
  simp only [rHeard, rMsg, List.cons_append, List.nil_append, List.mem_cons, List.not_mem_nil, or_false] at hq
  rcases hq with rfl | rfl | rfl | rfl | rfl | rfl | rfl | rfl | rfl | rfl | rfl | rfl | rfl | rfl | rfl <;> rfl
/-- What a gate is given, while it is gathered. -/
def inB (tk rd : Int) (h : AV) : Blk := .box [i tk, h, bools true, i rd, zb, zl]
def hV : List Heard → AV
  | [] => zl
  | o :: os => .sl 3 os.length 0 (os.length + 1) 15
def hM (p : Params) (s : State) (tk rd : Int) : List Heard → Mem
  | [] => [.box (eP p), .box (eState s), inB tk rd zl]
  | o :: os => [.box (eP p), .box (eState s), inB tk rd (.sl 3 os.length 0 (os.length + 1) 15), rows rHeard (o :: os) os.length]
theorem le_in (tk rd : Int) (z : List Heard) : (AV.agg [i tk, .p (hd z), bools true, i rd, zb, zl]).le (.agg (eInput ⟨tk, z, true, rd, false, []⟩)) :=
  AV.le.agg (.cons (.refl _) (.cons (.refl _) (.cons (.refl _) (.cons (.refl _) (.cons (.refl _) (.cons (le_nil _ _ _) .nil))))))
theorem holds_rest (p : Params) (s : State) (now tk rd : Int) (z : List Heard) (c : Nat) (hs : s.table.length ≤ 1048576) (hz : z.length ≤ 1048576)
    (H : let x : Input := ⟨tk, z, true, rd, false, []⟩
      let st := BeatS p 0 (Sane p s) x
      let m := BeatM p 0 (Sane p s) x
      st.span.lo ≤ w64 (now + p.beat) ∧ w64 (now + p.beat) ≤ st.span.hi ∧ w64 (st.span.hi - st.span.lo) ≤ w64 (w64 (2 * p.eps) + Hop p) ∧ st.held = 0 ∧ Of p st = 1 ∧ m.span = st.span ∧ m.ref = true ∧ (Of p (Sane p s) = 0 → st.span.lo ≤ st.time ∧ st.time ≤ st.span.hi)) :
    Stop Try.prog 288 [] [] [.code R_law22_GateHolds_s13] [(2, i now), (6, .ptr 0 0 0), (7, .ptr 1 0 0), (13, .ptr 2 0 0)] [.box (eP p), .box (eState s), inB tk rd (.p (hd z)), .dead c] (Ends R_law22_GateHolds [] (bools true) []) := by
  obtain ⟨h1, h2, h3, h4, h5, h6, h7, h8⟩ := H
  have yes : ∀ {L : Env} {mm : Mem}, aress L mm R_law22_GateHolds.res = some [bools true] → Ends R_law22_GateHolds [] (bools true) [] .ret L mm := fun h => endP (.inr rfl) h rfl trivial
  have hb := beat_1 p (Sane p s) 0 ⟨tk, z, true, rd, false, []⟩ hz (sane_tab p s hs) (Nat.zero_le _)
  generalize BeatS p 0 (Sane p s) ⟨tk, z, true, rd, false, []⟩ = st at *
  generalize BeatM p 0 (Sane p s) ⟨tk, z, true, rd, false, []⟩ = ms at *
  refine Wy_sound 100000 _ _ _ _ _ _ ?_
  refine WCall.here rfl _ _ (new_ok p 0 s hs _) trivial ?_
  refine WCall.here rfl _ _ (acall_args (.cons (.refl _) (.cons (le_in tk rd z) .nil)) (acall_frame hb ⟨Nat.one_pos, ⟨trivial, trivial, trivial, trivial, trivial, trivial, trivial⟩, trivial⟩ (flatG0 _ _ _) (flatG0 _ _ _) 4 _ rfl)) trivial ?_
  refine ⟨fun h => absurd (dt h) (by show ¬ w64 (now + p.beat) < _; omega), fun _ => ⟨fun h => absurd (dt h) (by show ¬ _ < w64 (now + p.beat); omega), fun _ => ?_⟩⟩
  refine WCall.any _ (hop_ok p) ⟨fun h => absurd (dt h) (by show ¬ w64 (w64 (2 * p.eps) + Hop p) < w64 _; omega), fun _ => ⟨fun h => absurd h4 (by simpa using h), fun _ => ?_⟩⟩
  refine WCall.here rfl _ _ (acall_look (health_1 p st 0) ⟨Nat.one_pos, trivial⟩ (flatG0 _ _ _) 4 _ rfl) trivial ⟨fun h => absurd h5 (by simpa using h), fun _ => ?_⟩
  refine ⟨fun h => ?_, fun _ => ?_⟩
  · rw [h6] at h; simp at h
  refine ⟨fun _ => ?_, fun h => absurd (h7.symm.trans h) (by decide)⟩
  refine WCall.any _ (sane_ok p s hs) (WCall.any _ (hof_ok p (Sane p s)) ⟨fun _ => yes rfl, fun h => ?_⟩)
  have h9 : Of p (Sane p s) = 0 := by simpa using h
  obtain ⟨h10, h11⟩ := h8 h9
  refine ⟨fun _ => ⟨fun _ => yes rfl, fun h => absurd h11 (df h)⟩, fun h => absurd h10 (df h)⟩
/-- Rows, and behind them a row told raw. -/
def rowx {α : Type} (f : α → List PV) (xs : List α) (r : List PV) (ver : Nat) : Blk := ⟨(((xs.map f).flatten).map .p) ++ r.map .p, ver, true⟩
theorem app_raw {α : Type} {f : α → List PV} {sz : Nat} {L : Env} {m : Mem} {b ver bytes : Nat} {xs : List α} {r : List PV} {x z : Operand} (hf : ∀ a, (f a).length = sz) (hx : opd L x = some (.sl b ver 0 xs.length sz)) (hz : opd L z = some (.p (.list sz true [r]))) (hb : m[b]? = some (rows f xs ver)) (h0 : 0 < bytes) (hl : (xs.length + 1) * bytes ≤ 140737488355328) :
    aop L m (.app sz bytes x z) = some (.sl b (ver + 1) 0 (xs.length + 1) sz, m.set b (rowx f xs r (ver + 1))) := by
  have e3 : srcCells m sz (.p (.list sz true [r])) = some (1, r.map .p) := by simp [srcCells]
  simp only [aop, hx, hz, appendAV, e3, hb, rows, true_and]
  rw [if_pos ⟨by rw [List.length_map, rws_length hf], hl, h0⟩]
  simp [rowx]
theorem trs_app {m : Mem} {os : List Nat} : ∀ {xs xs' ys ys' : List AV}, Trs m os xs xs' → Trs m os ys ys' → Trs m os (xs ++ ys) (xs' ++ ys')
  | _, _, _, _, .nil, h => h
  | _, _, _, _, .cons h hs, h' => .cons h (trs_app hs h')
theorem trs_rowx {α : Type} {f : α → List PV} {m : Mem} {os : List Nat} {xs : List α} {r : List PV} {y : α} {v v' : Nat} (h : Trs m os (r.map .p) ((f y).map .p)) : Trs m os (rowx f xs r v).cells (rows f (xs ++ [y]) v').cells := by
  have e : (rows f (xs ++ [y]) v').cells = (((xs.map f).flatten).map .p) ++ (f y).map .p := by simp [rows]
  rw [e]
  exact trs_app (trs_p _ _ _) h
theorem app_raw0 {sz : Nat} {L : Env} {m : Mem} {s bytes : Nat} {r : List PV} {x z : Operand} (hx : opd L x = some (.p (.list s true []))) (hz : opd L z = some (.p (.list sz true [r]))) (h0 : 0 < bytes) (hl : bytes ≤ 140737488355328) :
    aop L m (.app sz bytes x z) = some (.sl m.length 0 0 1 sz, m ++ [rowx (fun (_ : Unit) => r) [] r 0]) := by
  simp [aop, hx, hz, appendAV, srcCells, h0, hl, rowx, Blk.box]
theorem liesH_snoc {n j : Nat} {lies : List Heard} {x : Heard} (h : lies[j]? = some x) : liesH n 0 (lies.take (j + 1)) = liesH n 0 (lies.take j) ++ [lieH n j x] := by
  have hl := (List.getElem?_eq_some_iff.1 h).1
  have e : lies.take (j + 1) = lies.take j ++ [x] := by rw [List.take_add_one, h]; rfl
  rw [e, liesH_append, List.length_take]
  congr 2
  simp [Nat.min_eq_left (Nat.le_of_lt hl)]
theorem tr_rows {α : Type} {f : α → List PV} {sz : Nat} {m : Mem} {os : List Nat} {b ver : Nat} {xs : List α} (hf : ∀ a, (f a).length = sz) (h1 : ∀ a, ∀ q ∈ f a, (AV.p q).one = true) (hk : b ∉ os) (hb : m[b]? = some (rows f xs ver)) : Tr m os (.sl b ver 0 xs.length sz) (.p (.list sz false (xs.map f))) :=
  .list hk hb rfl rfl rfl (by simp) (by intro r hr; obtain ⟨a, _, rfl⟩ := List.mem_map.1 hr; exact hf a) (by
    intro c hc
    obtain ⟨q, hq, rfl⟩ := List.mem_map.1 hc
    obtain ⟨r, hr, hq⟩ := List.mem_flatten.1 hq
    obtain ⟨a, _, rfl⟩ := List.mem_map.1 hr
    exact h1 a q hq)
theorem trs_P (m : Mem) (os : List Nat) (p : Params) : Trs m os (eP p) (eP p) :=
  .cons (.p _) (.cons (.p _) (.cons (.p _) (.cons (.p _) (.cons (.p _) (.cons (.p _) (.cons (.p _) (.cons (.p _) (.cons (.p _) (.cons (.p _) (.cons (.p _) (.cons (.p _) .nil)))))))))))
theorem trs_S (m : Mem) (os : List Nat) (s : State) : Trs m os (eState s) (eState s) :=
  .cons (.p _) (.cons (.p _) (.cons (.p _) (.cons (.p _) (.cons (.p _) (.cons (.p _) (.cons (.p _) (.cons (.p _) (.cons (.p _) (.cons (.p _) (.cons (.p _) .nil))))))))))
theorem trs_in (m : Mem) (os : List Nat) (tk rd : Int) {h h' : AV} (hh : Tr m os h h') : Trs m os (inB tk rd h).cells (inB tk rd h').cells :=
  .cons (.p _) (.cons hh (.cons (.p _) (.cons (.p _) (.cons (.p _) (.cons (.p _) .nil)))))
theorem OldT.down {m M : Mem} {os : List Nat} {a b : Nat} (h : OldT m M os b) (hab : a ≤ b) : OldT m M os a := by
  induction b with
  | zero => obtain rfl : a = 0 := by omega
            exact h
  | succ b ih =>
    by_cases e : a = b + 1
    · subst e; exact h
    · exact ih h.1 (by omega)
theorem hM_len3 {p : Params} {s : State} {tk rd : Int} : (hM p s tk rd []).length ≤ 3 := Nat.le_refl _
theorem hM_len4 (p : Params) (s : State) (tk rd : Int) : ∀ z, (hM p s tk rd z).length ≤ 4
  | [] => by show 3 ≤ 4; decide
  | _ :: _ => Nat.le_refl 4
theorem old3 {m M : Mem} {os : List Nat} {k : Nat} (hk : k ≤ 3) (h0 : os[0]? = some 0) (h1 : os[1]? = some 1) (h2 : os[2]? = some 2) : OldT m M os k := OldT.down (b := 3) ⟨⟨⟨trivial, .inl h0⟩, .inl h1⟩, .inl h2⟩ hk
theorem old4 {m M : Mem} {os : List Nat} {k : Nat} (hk : k ≤ 4) (h0 : os[0]? = some 0) (h1 : os[1]? = some 1) (h2 : os[2]? = some 2) (h3 : os[3]? = some 3 ∨ ∃ c, M[3]? = some (.dead c) ∧ ∀ blk, m[3]? = some blk → blk.cur ≤ c) : OldT m M os k := OldT.down (b := 4) ⟨⟨⟨⟨trivial, .inl h0⟩, .inl h1⟩, .inl h2⟩, h3⟩ hk
theorem hd_nil_le : zl.le (.p (hd [])) := le_nil _ _ _
theorem holds_b1 (p : Params) (s : State) (now tk rd : Int) (z0 : List Heard) (l : List TRow) (t t' : Bool) (lies : List Heard) (hs : s.table.length ≤ 1048576) (hz : z0.length + lies.length ≤ 1048576) {L : Env}
    (H : let x : Input := ⟨tk, z0 ++ liesH (l.map rTold).length 0 lies, true, rd, false, []⟩
      let st := BeatS p 0 (Sane p s) x
      let m := BeatM p 0 (Sane p s) x
      st.span.lo ≤ w64 (now + p.beat) ∧ w64 (now + p.beat) ≤ st.span.hi ∧ w64 (st.span.hi - st.span.lo) ≤ w64 (w64 (2 * p.eps) + Hop p) ∧ st.held = 0 ∧ Of p st = 1 ∧ m.span = st.span ∧ m.ref = true ∧ (Of p (Sane p s) = 0 → st.span.lo ≤ st.time ∧ st.time ≤ st.span.hi))
    (hL : Says L [(2, i now), (3, .p (.list 3 t (l.map rTold))), (6, .ptr 0 0 0), (7, .ptr 1 0 0), (13, .ptr 2 0 0), (173, .p (.list 15 t' (lies.map rHeard))), (174, i (lies.map rHeard).length), (175, i ((0 : Nat) : Int))]) :
    WLoop Try.prog 288 R_law22_GateHolds_b1 [.blk 2, .code R_law22_GateHolds_s13] L (hM p s tk rd z0) (Ends R_law22_GateHolds [] (bools true) []) := by
  have lt : (l.map rTold).length = l.length := List.length_map _
  have ll : (lies.map rHeard).length = lies.length := List.length_map _
  refine wloopk (σ := Nat × List Heard) 2 rfl (fun q => [(2, i now), (3, .p (.list 3 t (l.map rTold))), (6, .ptr 0 0 0), (7, .ptr 1 0 0), (13, .ptr 2 0 0), (173, .p (.list 15 t' (lies.map rHeard))), (174, i (lies.map rHeard).length), (175, i q.1)]) (fun q => hM p s tk rd q.2)
    (fun q => q.1 ≤ lies.length ∧ q.2 = z0 ++ liesH (l.map rTold).length 0 (lies.take q.1)) (fun q => lies.length - q.1) (0, z0) (fun (_ : Nat) => [(2, i now), (6, .ptr 0 0 0), (7, .ptr 1 0 0), (13, .ptr 2 0 0)]) (fun c => [.box (eP p), .box (eState s), inB tk rd (.p (hd (z0 ++ liesH (l.map rTold).length 0 lies))), .dead c]) (fun _ => True) hL rfl ⟨Nat.zero_le _, by simp [liesH]⟩ ?_ ?_
  · rintro ⟨j, z⟩ ⟨hj, hzz⟩
    have hj : j ≤ lies.length := hj
    have hzz : z = z0 ++ liesH (l.map rTold).length 0 (lies.take j) := hzz
    have inc : some (i (IntKind.i64.wrap ((j : Int) + 1))) = some (i ((j + 1 : Nat) : Int)) := by rw [wrap_id (by omega) (by omega)]; rfl
    have hlen : z.length = z0.length + j := by rw [hzz, List.length_append, liesH_length, List.length_take]; omega
    cases z with
    | nil =>
      have k3 : (hM p s tk rd z0).length ≤ 3 := by
        have : z0.length = 0 := by simp only [List.length_nil] at hlen; omega
        rw [List.length_eq_zero_iff.1 this]; exact hM_len3
      refine ⟨fun h1 => ?_, fun h1 => ?_⟩
      · have h1 : j < lies.length := by have := dt h1; simp at this; exact this
        have hx := List.getElem?_eq_getElem h1
        refine WOp.mk _ _ (iad_list rfl rfl (Int.natCast_nonneg j) (row_get hx)) trivial ?_
        refine WOp.mk _ _ (app_rows0 (f := rHeard) (y := lieH (l.map rTold).length j lies[j]) rfl rfl (by decide) (by decide)) trivial ?_
        have e := liesH_snoc (n := (l.map rTold).length) hx
        refine ⟨(j + 1, [lieH (l.map rTold).length j lies[j]]), ⟨h1, ?_⟩, by show lies.length - (j + 1) < lies.length - j; omega, tells [0, 1, 2, 4] (by decide) ⟨⟨_, rfl, rfl, rfl, trs_P _ _ p⟩, ⟨_, rfl, rfl, rfl, trs_S _ _ s⟩, ⟨_, rfl, rfl, rfl, trs_in _ _ tk rd (.sl rfl)⟩, ⟨_, rfl, rfl, rfl, ?_⟩, trivial⟩ (old3 k3 rfl rfl rfl) ⟨⟨_, rfl, .p _⟩, ⟨_, rfl, .p _⟩, ⟨_, rfl, .ptr rfl⟩, ⟨_, rfl, .ptr rfl⟩, ⟨_, rfl, .ptr rfl⟩, ⟨_, rfl, .p _⟩, ⟨_, rfl, .p _⟩, ⟨_, inc, .p _⟩, trivial⟩⟩
        · rw [e, ← List.append_assoc, ← hzz]; rfl
        · exact trs_p _ _ (([lieH (l.map rTold).length j lies[j]].map rHeard).flatten)
      · have h1 : j = lies.length := by have := df h1; simp at this; omega
        rw [h1, List.take_length] at hzz
        rw [← hzz]
        exact ⟨0, trivial, tells [0, 1, 2] (by decide) ⟨⟨_, rfl, rfl, rfl, trs_P _ _ p⟩, ⟨_, rfl, rfl, rfl, trs_S _ _ s⟩, ⟨_, rfl, rfl, rfl, trs_in _ _ tk rd (.le (.p _) hd_nil_le)⟩, rfl, trivial⟩ (old3 k3 rfl rfl rfl) ⟨⟨_, rfl, .p _⟩, ⟨_, rfl, .ptr rfl⟩, ⟨_, rfl, .ptr rfl⟩, ⟨_, rfl, .ptr rfl⟩, trivial⟩⟩
    | cons o os =>
      refine ⟨fun h1 => ?_, fun h1 => ?_⟩
      · have h1 : j < lies.length := by have := dt h1; simp at this; exact this
        have hx := List.getElem?_eq_getElem h1
        refine WOp.mk _ _ (iad_list rfl rfl (Int.natCast_nonneg j) (row_get hx)) trivial ?_
        refine WOp.mk _ _ (app_rows (f := rHeard) (xs := o :: os) (y := lieH (l.map rTold).length j lies[j]) rHeard_len rfl rfl rfl (by decide) (by rw [hlen]; omega)) trivial ?_
        have e := liesH_snoc (n := (l.map rTold).length) hx
        have lo : (os ++ [lieH (l.map rTold).length j lies[j]]).length = os.length + 1 := by simp
        refine ⟨(j + 1, o :: (os ++ [lieH (l.map rTold).length j lies[j]])), ⟨h1, ?_⟩, by show lies.length - (j + 1) < lies.length - j; omega, tells [0, 1, 2, 3] (by decide) ⟨⟨_, rfl, rfl, rfl, trs_P _ _ p⟩, ⟨_, rfl, rfl, rfl, trs_S _ _ s⟩, ⟨_, rfl, rfl, rfl, ?_⟩, ⟨_, rfl, ?_, rfl, ?_⟩, trivial⟩ (old4 (hM_len4 p s tk rd z0) rfl rfl rfl (.inl rfl)) ⟨⟨_, rfl, .p _⟩, ⟨_, rfl, .p _⟩, ⟨_, rfl, .ptr rfl⟩, ⟨_, rfl, .ptr rfl⟩, ⟨_, rfl, .ptr rfl⟩, ⟨_, rfl, .p _⟩, ⟨_, rfl, .p _⟩, ⟨_, inc, .p _⟩, trivial⟩⟩
        · rw [e, ← List.append_assoc, ← hzz]; rfl
        · rw [lo]; exact trs_in _ _ tk rd (.sl rfl)
        · exact lo
        · exact trs_p _ _ _
      · have h1 : j = lies.length := by have := df h1; simp at this; omega
        rw [h1, List.take_length] at hzz
        rw [← hzz]
        exact ⟨os.length, trivial, tells [0, 1, 2] (by decide) ⟨⟨_, rfl, rfl, rfl, trs_P _ _ p⟩, ⟨_, rfl, rfl, rfl, trs_S _ _ s⟩, ⟨_, rfl, rfl, rfl, trs_in _ _ tk rd (tr_rows (xs := o :: os) (b := 3) rHeard_len rHeard_one (show 3 ∉ [0, 1, 2] by decide) rfl)⟩, rfl, trivial⟩ (old4 (hM_len4 p s tk rd z0) rfl rfl rfl (.inr ⟨os.length, rfl, fun blk hb => by obtain rfl := Option.some.inj hb; exact Nat.le_refl _⟩)) ⟨⟨_, rfl, .p _⟩, ⟨_, rfl, .ptr rfl⟩, ⟨_, rfl, .ptr rfl⟩, ⟨_, rfl, .ptr rfl⟩, trivial⟩⟩
  · intro c _
    exact holds_rest p s now tk rd _ c hs (by rw [List.length_append, liesH_length]; exact hz) H
/-- What a gateway tells, as it is written. -/
def rawT (p : Params) (now : Int) (k : Nat) (x : TRow) : List PV := [iv 1, iv k, iv 0, iv 0, iv 0, iv 0, bv false, bv true, iv (w64 (w64 (now + x.err) - p.eps)), iv (w64 (w64 (now + x.err) + p.eps)), iv 0, iv 0, iv 0, .list 0 true [], iv (w64 (w64 (p.beat - x.way) + x.off))]
theorem trs_raw (m : Mem) (os : List Nat) (p : Params) (now : Int) (k : Nat) (x : TRow) : Trs m os ((rawT p now k x).map .p) ((rHeard (tH p now k x)).map .p) :=
  .cons (.p _) (.cons (.p _) (.cons (.p _) (.cons (.p _) (.cons (.p _) (.cons (.p _) (.cons (.p _) (.cons (.p _) (.cons (.p _) (.cons (.p _) (.cons (.p _) (.cons (.p _) (.cons (.p _) (.cons (.le (.p _) (le_nil _ _ _)) (.cons (.p _) .nil))))))))))))))
theorem toldsH_snoc {p : Params} {now : Int} {k : Nat} {x0 : TRow} {xs : List TRow} {x : TRow} (h : (x0 :: xs)[k + 1]? = some x) : toldsH p now 1 (xs.take (k + 1)) = toldsH p now 1 (xs.take k) ++ [tH p now (k + 1) x] := by
  have h : xs[k]? = some x := by simpa using h
  have hl := (List.getElem?_eq_some_iff.1 h).1
  have e : xs.take (k + 1) = xs.take k ++ [x] := by rw [List.take_add_one, h]; rfl
  rw [e, toldsH_append, List.length_take]
  congr 2
  rw [Nat.min_eq_left (Nat.le_of_lt hl), Nat.add_comm]
theorem okT_take {p : Params} {l : List TRow} {k : Nat} (h1 : k < l.length) (hok : ∀ x ∈ l.take k, OkT p x) (hx : OkT p l[k]) : ∀ x ∈ l.take (k + 1), OkT p x := by
  intro x hm
  rw [List.take_add_one, List.getElem?_eq_getElem h1] at hm
  rcases List.mem_append.1 hm with h | h
  · exact hok x h
  · obtain rfl : x = l[k] := by simpa using h
    exact hx
theorem holds_b0 (p : Params) (s : State) (now err : Int) (l : List TRow) (x0 : TRow) (xs : List TRow) (hcons : l = x0 :: xs) (t t' : Bool) (lies : List Heard) (hc : Check p = 0) (hn1 : -1125899906842624 ≤ now) (hn2 : now ≤ 1125899906842624) (hl : (l.length : Int) = p.n - p.f) (hlies : (lies.length : Int) ≤ p.f)
    (he1 : -p.rho ≤ err) (he2 : err ≤ p.rho) (hs : s.table.length ≤ 1048576) {L : Env}
    (hL : Says L [(2, i now), (3, .p (.list 3 t (l.map rTold))), (4, .p (.list 15 t' (lies.map rHeard))), (6, .ptr 0 0 0), (7, .ptr 1 0 0), (13, .ptr 2 0 0), (78, .p (.list 3 t (l.map rTold))), (79, i (l.map rTold).length), (80, i ((0 : Nat) : Int))]) :
    WLoop Try.prog 288 R_law22_GateHolds_b0 [.blk 0, .code R_law22_GateHolds_s9] L (hM p s (w64 (p.beat + err)) 0 []) (Ends R_law22_GateHolds [] (bools true) []) := by
  obtain ⟨n1, n2, f1, f2, _, _, b1, b2, r1, r2, d1, d2, j1, j2, e1, e2, _⟩ := check_fit hc
  have yes : ∀ {L : Env} {mm : Mem}, aress L mm R_law22_GateHolds.res = some [bools true] → Ends R_law22_GateHolds [] (bools true) [] .ret L mm := fun h => endP (.inr rfl) h rfl trivial
  refine wloopk (σ := Nat × Int × List Heard) 0 rfl (fun q => [(2, i now), (3, .p (.list 3 t (l.map rTold))), (4, .p (.list 15 t' (lies.map rHeard))), (6, .ptr 0 0 0), (7, .ptr 1 0 0), (13, .ptr 2 0 0), (78, .p (.list 3 t (l.map rTold))), (79, i (l.map rTold).length), (80, i q.1)]) (fun q => hM p s (w64 (p.beat + err)) q.2.1 q.2.2)
    (fun q => q.1 ≤ l.length ∧ (∀ x ∈ l.take q.1, OkT p x) ∧ q.2.2 = toldsH p now 1 (xs.take (q.1 - 1)) ∧ (0 < q.1 → q.2.1 = w64 (w64 (now + p.beat) + x0.err))) (fun q => l.length - q.1) (0, 0, []) (fun (q : Int × List Heard) => [(2, i now), (3, .p (.list 3 t (l.map rTold))), (4, .p (.list 15 t' (lies.map rHeard))), (6, .ptr 0 0 0), (7, .ptr 1 0 0), (13, .ptr 2 0 0)]) (fun q => hM p s (w64 (p.beat + err)) q.1 q.2) (fun q => (∀ x ∈ l, OkT p x) ∧ q.2 = toldsH p now 1 xs ∧ q.1 = w64 (w64 (now + p.beat) + x0.err)) hL rfl ⟨Nat.zero_le _, by simp, rfl, fun h => absurd h (Nat.lt_irrefl 0)⟩ ?_ ?_
  · rintro ⟨k, rd, z⟩ ⟨hk, hok, hz, hrd⟩
    have hk : k ≤ l.length := hk
    have hz : z = toldsH p now 1 (xs.take (k - 1)) := hz
    have hrd : 0 < k → rd = w64 (w64 (now + p.beat) + x0.err) := hrd
    have hok : ∀ x ∈ l.take k, OkT p x := hok
    have inc : some (i (IntKind.i64.wrap ((k : Int) + 1))) = some (i ((k + 1 : Nat) : Int)) := by rw [wrap_id (by omega) (by omega)]; rfl
    have lx : l.length = xs.length + 1 := by rw [hcons]; rfl
    have hlen : z.length = k - 1 := by rw [hz, toldsH_length, List.length_take]; omega
    have ok : (h1 : k < l.length) → decide (p.eps < l[k].err) = false → decide (l[k].err < IntKind.i64.wrap (0 - p.eps)) = false → decide (p.delay < l[k].way) = false → decide (l[k].way < IntKind.i64.wrap (p.delay - p.jitter)) = false → decide (p.rho < l[k].off) = false → decide (l[k].off < IntKind.i64.wrap (0 - p.rho)) = false → OkT p l[k] := by
      intro h1 g1 g2 g3 g4 g5 g6
      have g1 := df g1; have g2 := df g2; have g3 := df g3; have g4 := df g4; have g5 := df g5; have g6 := df g6
      rw [wrap_id (by omega) (by omega)] at g2 g4 g6
      exact ⟨by omega, by omega, by omega, by omega, by omega, by omega⟩
    cases z with
    | nil =>
      refine ⟨fun h1 => ?_, fun h1 => ?_⟩
      · have h1 : k < l.length := by have := dt h1; simp at this; exact this
        have hx := List.getElem?_eq_getElem h1
        refine WOp.mk _ _ (iad_list rfl rfl (Int.natCast_nonneg k) (row_get hx)) trivial ?_
        refine ⟨fun _ => yes rfl, fun g1 => ⟨fun _ => yes rfl, fun g2 => ⟨fun _ => yes rfl, fun g3 => ⟨fun _ => yes rfl, fun g4 => ⟨fun _ => yes rfl, fun g5 => ⟨fun _ => yes rfl, fun g6 => ?_⟩⟩⟩⟩⟩⟩
        have okn := okT_take h1 hok (ok h1 g1 g2 g3 g4 g5 g6)
        refine ⟨fun h2 => ?_, fun h2 => ?_⟩
        · have h2 : k = 0 := by have := dt h2; simp at this; exact this
          have e0 : x0 = l[k] := by subst h2; subst hcons; rfl
          refine ⟨(k + 1, w64 (w64 (now + p.beat) + l[k].err), []), ⟨h1, okn, ?_, fun _ => by rw [e0]⟩, by show l.length - (k + 1) < l.length - k; omega, tells [0, 1, 2] (by decide) ⟨⟨_, rfl, rfl, rfl, trs_P _ _ p⟩, ⟨_, rfl, rfl, rfl, trs_S _ _ s⟩, ⟨_, rfl, rfl, rfl, trs_in _ _ (w64 (p.beat + err)) _ (.p _)⟩, trivial⟩ (old3 (Nat.le_refl 3) rfl rfl rfl) ⟨⟨_, rfl, .p _⟩, ⟨_, rfl, .p _⟩, ⟨_, rfl, .p _⟩, ⟨_, rfl, .ptr rfl⟩, ⟨_, rfl, .ptr rfl⟩, ⟨_, rfl, .ptr rfl⟩, ⟨_, rfl, .p _⟩, ⟨_, rfl, .p _⟩, ⟨_, inc, .p _⟩, trivial⟩⟩
          subst h2; rfl
        · have h2 : ¬ k = 0 := by have := df h2; simp at this; exact this
          refine WOp.mk _ _ (app_raw0 (r := rawT p now k l[k]) rfl rfl (by decide) (by decide)) trivial ?_
          have k1 : k = 1 := by simp only [List.length_nil] at hlen; omega
          have e : ∀ y, l[k]? = some y → toldsH p now 1 (xs.take 1) = [tH p now k y] := by
            intro y hy
            rw [hcons, k1] at hy
            rw [k1]
            exact toldsH_snoc (p := p) (now := now) (k := 0) (x0 := x0) (xs := xs) (x := y) hy
          have e := e _ hx
          refine ⟨(k + 1, rd, [tH p now k l[k]]), ⟨h1, okn, ?_, fun _ => hrd (by omega)⟩, by show l.length - (k + 1) < l.length - k; omega, tells [0, 1, 2, 5] (by decide) ⟨⟨_, rfl, rfl, rfl, trs_P _ _ p⟩, ⟨_, rfl, rfl, rfl, trs_S _ _ s⟩, ⟨_, rfl, rfl, rfl, trs_in _ _ (w64 (p.beat + err)) rd (.sl rfl)⟩, ⟨_, rfl, rfl, rfl, trs_raw _ _ p now k l[k]⟩, trivial⟩ (old3 (Nat.le_refl 3) rfl rfl rfl) ⟨⟨_, rfl, .p _⟩, ⟨_, rfl, .p _⟩, ⟨_, rfl, .p _⟩, ⟨_, rfl, .ptr rfl⟩, ⟨_, rfl, .ptr rfl⟩, ⟨_, rfl, .ptr rfl⟩, ⟨_, rfl, .p _⟩, ⟨_, rfl, .p _⟩, ⟨_, inc, .p _⟩, trivial⟩⟩
          show _ = toldsH p now 1 (xs.take (k + 1 - 1))
          rw [← e, k1]
      · have h1 : k = l.length := by have := df h1; simp at this; omega
        exact ⟨(rd, []), ⟨by rw [h1, List.take_length] at hok; exact hok, by rw [hz, h1, lx, List.take_of_length_le (by omega)], hrd (by omega)⟩, tells [0, 1, 2] (by decide) ⟨⟨_, rfl, rfl, rfl, trs_P _ _ p⟩, ⟨_, rfl, rfl, rfl, trs_S _ _ s⟩, ⟨_, rfl, rfl, rfl, trs_in _ _ (w64 (p.beat + err)) rd (.p _)⟩, trivial⟩ (old3 (Nat.le_refl 3) rfl rfl rfl) ⟨⟨_, rfl, .p _⟩, ⟨_, rfl, .p _⟩, ⟨_, rfl, .p _⟩, ⟨_, rfl, .ptr rfl⟩, ⟨_, rfl, .ptr rfl⟩, ⟨_, rfl, .ptr rfl⟩, trivial⟩⟩
    | cons o os =>
      refine ⟨fun h1 => ?_, fun h1 => ?_⟩
      · have h1 : k < l.length := by have := dt h1; simp at this; exact this
        have hx := List.getElem?_eq_getElem h1
        refine WOp.mk _ _ (iad_list rfl rfl (Int.natCast_nonneg k) (row_get hx)) trivial ?_
        refine ⟨fun _ => yes rfl, fun g1 => ⟨fun _ => yes rfl, fun g2 => ⟨fun _ => yes rfl, fun g3 => ⟨fun _ => yes rfl, fun g4 => ⟨fun _ => yes rfl, fun g5 => ⟨fun _ => yes rfl, fun g6 => ?_⟩⟩⟩⟩⟩⟩
        have okn := okT_take h1 hok (ok h1 g1 g2 g3 g4 g5 g6)
        refine ⟨fun h2 => ?_, fun h2 => ?_⟩
        · have h2 : k = 0 := by have := dt h2; simp at this; exact this
          simp only [List.length_cons] at hlen
          omega
        · refine WOp.mk _ _ (app_raw (f := rHeard) (xs := o :: os) (r := rawT p now k l[k]) rHeard_len rfl rfl rfl (by decide) (by rw [hlen]; omega)) trivial ?_
          have k2 : k = os.length + 2 := by simp only [List.length_cons] at hlen; omega
          have lo : (os ++ [tH p now k l[k]]).length = os.length + 1 := by simp
          have e : ∀ y, l[k]? = some y → toldsH p now 1 (xs.take k) = (o :: os) ++ [tH p now k y] := by
            intro y hy
            rw [hcons] at hy
            rw [hz]
            rw [k2] at hy ⊢
            exact toldsH_snoc (p := p) (now := now) (k := os.length + 1) (x0 := x0) (xs := xs) (x := y) hy
          have e := e _ hx
          refine ⟨(k + 1, rd, o :: (os ++ [tH p now k l[k]])), ⟨h1, okn, e.symm, fun _ => hrd (by omega)⟩, by show l.length - (k + 1) < l.length - k; omega, tells [0, 1, 2, 3] (by decide) ⟨⟨_, rfl, rfl, rfl, trs_P _ _ p⟩, ⟨_, rfl, rfl, rfl, trs_S _ _ s⟩, ⟨_, rfl, rfl, rfl, ?_⟩, ⟨_, rfl, lo, rfl, trs_rowx (xs := o :: os) (trs_raw _ _ p now k l[k])⟩, trivial⟩ (old3 (Nat.le_refl 3) rfl rfl rfl) ⟨⟨_, rfl, .p _⟩, ⟨_, rfl, .p _⟩, ⟨_, rfl, .p _⟩, ⟨_, rfl, .ptr rfl⟩, ⟨_, rfl, .ptr rfl⟩, ⟨_, rfl, .ptr rfl⟩, ⟨_, rfl, .p _⟩, ⟨_, rfl, .p _⟩, ⟨_, inc, .p _⟩, trivial⟩⟩
          rw [lo]; exact trs_in _ _ (w64 (p.beat + err)) rd (.sl rfl)
      · have h1 : k = l.length := by have := df h1; simp at this; omega
        exact ⟨(rd, o :: os), ⟨by rw [h1, List.take_length] at hok; exact hok, by rw [hz, h1, lx, List.take_of_length_le (by omega)], hrd (by omega)⟩, tells [0, 1, 2, 3] (by decide) ⟨⟨_, rfl, rfl, rfl, trs_P _ _ p⟩, ⟨_, rfl, rfl, rfl, trs_S _ _ s⟩, ⟨_, rfl, rfl, rfl, trs_in _ _ (w64 (p.beat + err)) rd (.sl rfl)⟩, ⟨_, rfl, rfl, rfl, trs_p _ _ _⟩, trivial⟩ (old3 (Nat.le_refl 3) rfl rfl rfl) ⟨⟨_, rfl, .p _⟩, ⟨_, rfl, .p _⟩, ⟨_, rfl, .p _⟩, ⟨_, rfl, .ptr rfl⟩, ⟨_, rfl, .ptr rfl⟩, ⟨_, rfl, .ptr rfl⟩, trivial⟩⟩
  · rintro ⟨rd, z⟩ ⟨hok, hz, hrd⟩
    have hok : ∀ x ∈ l, OkT p x := hok
    have hz : z = toldsH p now 1 xs := hz
    have hrd : rd = w64 (w64 (now + p.beat) + x0.err) := hrd
    have hlz : z.length = xs.length := by rw [hz, toldsH_length]
    have lx : l.length = xs.length + 1 := by rw [hcons]; rfl
    refine Wy_sound 100000 _ _ _ _ _ _ ?_
    refine holds_b1 p s now (w64 (p.beat + err)) rd z l t t' lies hs (by omega) ?_ ⟨rfl, rfl, rfl, rfl, rfl, rfl, rfl, rfl, trivial⟩
    have := holds_pure (p := p) (s := s) (now := now) (err := err) (x0 := x0) (xs := xs) (lies := lies) hc hn1 hn2 (by rw [← hcons]; exact hl) hlies he1 he2 (by rw [← hcons]; exact hok) rfl
    rw [← hz, ← hrd, ← hcons] at this
    rw [List.length_map]
    exact this
theorem holds_0 (p : Params) (s : State) (now : Int) (t : Bool) (l : List TRow) (t' : Bool) (lies : List Heard) (err : Int) (hr : -9223372036854775808 ≤ p.rho ∧ p.rho ≤ 9223372036854775807) (hf : -9223372036854775808 ≤ p.f ∧ p.f ≤ 9223372036854775807) (hn : -9223372036854775808 ≤ p.n ∧ p.n ≤ 9223372036854775807) :
    ACall Try.prog 3 [.agg (eP p), .agg (eState s), i now, .p (.list 3 t (l.map rTold)), .p (.list 15 t' (lies.map rHeard)), i err] [] (bools true) [] := by
  have yes : ∀ {L : Env} {mm : Mem}, aress L mm R_law22_GateHolds.res = some [bools true] → Ends R_law22_GateHolds [] (bools true) [] .ret L mm := fun h => endP (.inr rfl) h rfl trivial
  have ln : (lies.map rHeard).length = lies.length := List.length_map _
  have lt : (l.map rTold).length = l.length := List.length_map _
  refine acall_run R_law22_GateHolds_ok ?_
  refine WCall.any _ (acall_pure alive_0 trivial) ⟨fun _ => ?_, fun h => absurd h (by decide)⟩
  refine WCall.any _ (check_ok p) ⟨fun _ => yes rfl, fun h1 => ?_⟩
  refine WCall.any _ (great_1 s lies t') ⟨fun _ => yes rfl, fun h2 => ?_⟩
  refine ⟨fun _ => yes rfl, fun h3 => ⟨fun _ => yes rfl, fun h4 => ⟨fun _ => yes rfl, fun h5 => ⟨fun _ => yes rfl, fun h6 => ⟨fun _ => yes rfl, fun h7 => ⟨fun _ => yes rfl, fun h8 => ?_⟩⟩⟩⟩⟩⟩
  have hc : Check p = 0 := ndf h1
  obtain ⟨g1, g2⟩ := great_h rfl h2
  obtain ⟨n1, n2, f1, f2, _, _, b1, b2, r1, r2, _⟩ := check_fit hc
  have h3 := df h3; have h4 := df h4; have h5 := ndf h5; have h6 := df h6; have h7 := df h7; have h8 := df h8
  rw [lt, wrap_id (by omega) (by omega)] at h5
  rw [ln] at h6
  rw [wrap_id (by omega) (by omega)] at h8
  obtain ⟨x0, xs, hcons⟩ : ∃ x0 xs, l = x0 :: xs := by
    cases l with
    | nil => simp only [List.length_nil] at h5; omega
    | cons x0 xs => exact ⟨x0, xs, rfl⟩
  exact holds_b0 p s now err l x0 xs hcons t t' lies hc (by omega) (by omega) h5 (by omega) (by omega) (by omega) (by omega) ⟨rfl, rfl, rfl, rfl, rfl, rfl, rfl, rfl, rfl, trivial⟩
abbrev cTold : List CTy := [ci, ci, ci]
theorem fit_told {xs : List PV} (h : FitAll xs cTold) : ∃ l, xs = rTold l ∧ True := by
  obtain ⟨y0, _, rfl, h0, h⟩ := fit_cons h
  obtain ⟨y1, _, rfl, h1, h⟩ := fit_cons h
  obtain ⟨y2, _, rfl, h2, h⟩ := fit_cons h
  obtain rfl := fit_nil h
  obtain ⟨a0, rfl, g0⟩ := fit_i h0
  obtain ⟨a1, rfl, g1⟩ := fit_i h1
  obtain ⟨a2, rfl, g2⟩ := fit_i h2
  exact ⟨⟨a0, a1, a2⟩, rfl, trivial⟩
theorem fit_tolds {x : PV} (h : Fits x (.slice cTold)) : ∃ l : List TRow, x = .list 3 false (l.map rTold) := by
  obtain ⟨xs, rfl, g⟩ := fit_s h
  obtain ⟨t, rfl, ht⟩ := fit_rows (fun _ => fit_told) g
  exact ⟨t, rfl⟩
theorem holds_con {x0 x1 : List PV} {x2 x5 : Int} {x3 x4 : PV} (e0 : FitAll x0 cP) (e1 : FitAll x1 cState) (e2 : (Lit.int .i64 x2).wf = true) (e3 : Fits x3 (.slice cTold)) (e4 : Fits x4 (.slice cHeard)) (e5 : (Lit.int .i64 x5).wf = true) :
    ACall Try.prog 3 [.agg (x0.map .p), .agg (x1.map .p), i x2, .p x3, .p x4, i x5] [] (bools true) [] := by
  obtain ⟨p, hp, okp⟩ := fit_P e0
  obtain ⟨s, hs, oks⟩ := fit_state e1
  obtain ⟨l, rfl⟩ := fit_tolds e3
  obtain ⟨lies, rfl, okl⟩ := fit_heards e4
  rw [hp, hs]
  exact holds_0 p s x2 false l false lies x5 okp.2.2.2.2.1 okp.2.1 okp.1
end Go.Proofs.Ytlkphnhlibpngaa.Abs
