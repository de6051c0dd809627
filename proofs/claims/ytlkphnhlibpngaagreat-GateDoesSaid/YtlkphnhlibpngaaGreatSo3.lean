/- The library's sort of numbers: a copy, sorted. -/
import Derived.Test.YtlkphnhlibpngaaGreatSo
import Derived.Test.YtlkphnhlibpngaaGreatSo2
set_option linter.unusedVariables false
set_option linter.unusedSimpArgs false
set_option maxRecDepth 100000
namespace Go.Proofs.YtlkphnhlibpngaaGreat.Abs
open Go

theorem ib_flat (xs : List Int) : (xs.map fun n => [iv n]).flatten = xs.map iv := by
  induction xs with
  | nil => rfl
  | cons x xs ih => rw [List.map_cons, List.flatten_cons, ih]; rfl
theorem one_ib (xs : List Int) : ∀ c ∈ (ib xs 0).cells, c.one = true := by
  intro c hc
  obtain ⟨q, hq, rfl⟩ := List.mem_map.1 hc
  obtain ⟨n, _, rfl⟩ := List.mem_map.1 hq
  rfl
theorem values_0 (t : Bool) (xs : List Int) : ACall Tryz.prog 104 [il t xs] [] (.fn 114 [.ptr 0 0 0]) [.box [il t xs]] := by
  refine acall_run R_slices_Values_int_int_ok ?_
  exact ⟨.inr rfl, _, rfl, Gives.refl _ _ _⟩
/-- A function that makes a row. -/
theorem acall_made {P : Program} {f : FuncId} {args : List AV} {m : Mem} {T : TypeId} {xs : List Int} (h0 : xs ≠ []) (hl : xs.length ≤ 1048576)
    (h : ∀ S vs, S.m = m → S.WF → VRs S args vs → Calls P f vs.toArray S.w fun e w' => ∃ v, e = .returned v ∧ w'.ownsRow S.w.heap.size T 1 v xs.length (xs.map (Value.int .i64)) ∧ Go.RowKit.Below S.w.heap.size S.w w') :
    ACall P f args m (.sl m.length 0 0 xs.length 1) (m ++ [ib xs 0]) := by
  intro S vs hm hS hv
  refine Calls.mono (h S vs hm hS hv) ?_
  rintro e w' ⟨v, rfl, ⟨hrl, hr⟩, hB⟩
  rcases hr with ⟨_, hz⟩ | ⟨g, cap, cur, rfl, hg, hcell, hn, hcap, hsz, htake⟩
  · exact absurd (List.eq_nil_of_length_eq_zero hz) h0
  subst hm
  simp only [Nat.mul_one] at hsz htake
  have hold : ∀ k, k < S.w.heap.size → w'.heap[k]? = S.w.heap[k]? := hB.block
  let n := S.m.length
  let S' : Setup := { m := S.m ++ [ib xs 0], w := w', β := fun b => if b = n then g else S.β b, cap := fun b => if b = n then cap else S.cap b, fz := S.fz }
  have hget : ∀ {b : Nat} {bl : Blk}, S'.m[b]? = some bl → (b = n ∧ bl = ib xs 0) ∨ (b < n ∧ S.m[b]? = some bl) := by
    intro b bl hb
    rcases getElem?_snoc hb with ⟨h1, h2⟩ | ⟨h1, h2⟩
    · exact .inr ⟨h1, h2⟩
    · exact .inl ⟨h1, h2⟩
  have hlast : S'.m[n]? = some (ib xs 0) := by show (S.m ++ [ib xs 0])[S.m.length]? = _; simp
  have hE : Ext S S' := by
    refine ⟨hB.os, hB.tape, hB.output, hB.size, fun b bl hb => ?_, fun k hk => ⟨hk, hold k (hS.fzlt k hk)⟩, fun k hk _ => hold k hk, ?_, fun k hk => .inl hk⟩
    · have hlt : b < n := (List.getElem?_eq_some_iff.1 hb).1
      refine ⟨bl, by show (S.m ++ [ib xs 0])[b]? = _; rw [List.getElem?_append_left hlt]; exact hb, Nat.le_refl _, fun h1 _ => ⟨h1, ?_, ?_⟩⟩
      · show (if b = n then g else S.β b) = _; rw [if_neg (by omega)]
      · show (if b = n then cap else S.cap b) = _; rw [if_neg (by omega)]
    · rintro k ⟨b, bl, h1, h2, h3⟩
      rcases hget h1 with ⟨rfl, rfl⟩ | ⟨hlt, h4⟩
      · have h3' : g = k := by simpa [S'] using h3
        exact .inr (by omega)
      · have h3' : S.β b = k := by have h5 : (if b = n then g else S.β b) = k := h3; rwa [if_neg (by omega)] at h5
        exact .inl ⟨b, bl, h4, h2, h3'⟩
  have hβn : S'.β n = g := by show (if n = n then g else S.β n) = g; rw [if_pos rfl]
  have hcn : S'.cap n = cap := by show (if n = n then cap else S.cap n) = cap; rw [if_pos rfl]
  refine ⟨S', _, rfl, rfl, hE, ⟨fun b bl hb ha => ?_, fun b c bl bl' hb hc ha ha' he => ?_, fun k hk => Nat.lt_of_lt_of_le (hS.fzlt k hk) hB.size⟩, rfl, ?_⟩
  · rcases hget hb with ⟨rfl, rfl⟩ | ⟨hlt, hb'⟩
    · refine ⟨⟨xs.map (Value.int .i64), cur.toList.drop xs.length, T, ?_, ib_VRs xs, ?_⟩, ?_⟩
      · rw [hβn, ← htake, List.take_append_drop]; exact hcell
      · rw [hcn, ← htake, List.take_append_drop]; simpa using hsz
      · rw [hβn]; intro hf; have := hS.fzlt g hf; omega
    · have hli := hS.lies b bl hb' ha
      refine hli.of_ext hE ?_ ?_ (hold _ (hS.owned_lt ⟨b, bl, hb', ha, rfl⟩)) hli.nofz
      · show (if b = n then g else S.β b) = _; rw [if_neg (by omega)]
      · show (if b = n then cap else S.cap b) = _; rw [if_neg (by omega)]
  · have key : ∀ {d : Nat} {bl' : Blk}, d < n → S.m[d]? = some bl' → bl'.alive = true → g ≠ S.β d := by
      intro d bl' hd h1 h2 h3
      have := hS.owned_lt ⟨d, bl', h1, h2, rfl⟩
      omega
    have hβ' : ∀ {d : Nat}, d < n → S'.β d = S.β d := by intro d hd; show (if d = n then g else S.β d) = _; rw [if_neg (by omega)]
    rcases hget hb with ⟨rfl, rfl⟩ | ⟨hlt, hb'⟩ <;> rcases hget hc with ⟨rfl, rfl⟩ | ⟨hlt', hc'⟩
    · rfl
    · rw [hβn, hβ' hlt'] at he; exact absurd he (key hlt' hc' ha')
    · rw [hβn, hβ' hlt] at he; exact absurd he.symm (key hlt hb' ha)
    · rw [hβ' hlt, hβ' hlt'] at he; exact hS.inj b c bl bl' hb' hc' ha ha' he
  · refine ⟨⟨g, 0, none⟩, cap, rfl, rfl, hn, by omega, ib xs 0, hlast, Nat.le_refl _, fun _ _ => ⟨?_, ?_, ?_⟩⟩
    · rw [hβn]
    · rw [hcn]; omega
    · unfold maxLen at hcap; omega
theorem collect_1 (t : Bool) (xs : List Int) (h0 : xs ≠ []) (hl : xs.length ≤ 1048576) : ACall Tryz.prog 112 [.fn 114 [.ptr 0 0 0]] [.box [il t xs]] (.sl 1 0 0 xs.length 1) [.box [il t xs], ib xs 0] := by
  refine acall_made (m := [.box [il t xs]]) (T := 3) h0 hl ?_
  intro S vs hm hS hv
  obtain ⟨z, zs, rfl, ⟨ys, rfl, p, ps, rfl, ⟨⟨ad0, rfl, hs0⟩, blk, e5, e6, e7⟩, rfl⟩, rfl⟩ := hv
  have hb0 : S.m[0]? = some (.box [il t xs]) := by rw [hm]; rfl
  rw [hb0] at e5; obtain rfl := Option.some.inj e5
  have had : ad0 = ⟨S.β 0, 0, none⟩ := by have := e7 rfl rfl; simpa using this
  subst had
  obtain ⟨⟨ys, rest, ty, g1, g2, g3⟩, g4⟩ := hS.lies 0 _ hb0 rfl
  obtain ⟨y, ys', rfl, ⟨a, len, cap, rfl, hlen, hcap, h48, htight, hrr⟩, rfl⟩ := g2
  have hlt : S.β 0 < S.w.heap.size := hS.owned_lt ⟨0, _, hb0, rfl, rfl⟩
  have hlen' : len = xs.length := by rw [hlen]; simp
  subst hlen'
  obtain ⟨x0, xs', rfl⟩ := List.exists_cons_of_ne_nil h0
  obtain ⟨ad, rfl, hsp, hfz, _, _, _⟩ := id hrr
  have hcs : ∀ j, j < (x0 :: xs').length → S.w.cell? ⟨ad.block, ad.off + j, none⟩ = some (.int .i64 ((x0 :: xs')[j]?.getD 0)) := by
    intro j hj
    have hx := List.getElem?_eq_getElem hj
    obtain ⟨ad', k1, k2, k3, k4, k5, k6⟩ := PRR.get hrr (i := j) (x := [iv (x0 :: xs')[j]]) (by rw [List.getElem?_map, hx]; rfl)
    obtain rfl := Option.some.inj k1
    obtain ⟨u, q1, q2, q3⟩ := k5
    rw [Nat.mul_one, add_eq _ hsp] at q1
    rw [q1, show u = Value.int .i64 _ from q2, hx]; rfl
  have had : ad = ⟨ad.block, ad.off, none⟩ := by cases ad; simp_all
  have := Seq.collect (S.β 0) ad.block ad.off cap (x0 :: xs') (by unfold maxLen; omega) (by omega) S.w hlt (by
    rw [← had]; simp [World.cell?, g1]) (hS.fzlt _ hfz) hcs
  refine Calls.mono this ?_
  rintro e w' ⟨v, h1, h2, h3, h4⟩
  exact ⟨v, h1, h2, h4⟩
/-- A row of one's own is handed out; older blocks stay. -/
theorem endLk {R : RFn} {L : Env} {m0 mm : Mem} {b ver n sz : Nat} {blk : Blk} {xs : List (List PV)} {vs : List AV} {e : Exit} {mr : Mem} (he : e = .normal ∨ e = .ret) (hv : aress L mm R.res = some vs) (hx : tupled vs = .sl b ver 0 n sz)
    (hb : mm[b]? = some blk) (ha : blk.alive = true) (hve : ver = blk.cur) (hc : blk.cells = (xs.flatten).map .p) (hn : xs.length = n) (hl : ∀ r ∈ xs, r.length = sz) (h1 : ∀ c ∈ blk.cells, c.one = true)
    (hk : m0.length ≤ b) (hmr : mm.take m0.length = mr) (hu : ∀ (b : Nat) (bl : Blk), mr[b]? = some bl → AV.unders m0.length bl.cells) : Ends R m0 (.p (.list sz false xs)) mr e L mm := by
  refine ⟨he, vs, hv, ?_⟩
  rw [hx]
  have hst : (mm.set b (.dead (blk.cur + 1))).take m0.length = mr := by
    rw [← hmr, List.take_set, List.set_eq_of_length_le (by rw [List.length_take]; omega)]
  have := Gives.cut (n := m0.length) (m := mm.set b (.dead (blk.cur + 1))) (v := .p (.list sz false xs)) m0.length (Nat.le_refl _) trivial (fun b bl hb _ => by rw [hst] at hb; exact hu b bl hb)
  rw [hst] at this
  exact (Gives.list hb ha hve hc hn hl h1).trans this
theorem sorted_1 (t : Bool) (xs : List Int) (h0 : xs ≠ []) (hl : xs.length ≤ 1048576) : ACall Tryz.prog 103 [.fn 114 [.ptr 0 0 0]] [.box [il t xs]] (il false (sorted xs)) [.box [il t xs]] := by
  refine acall_run R_slices_Sorted_int_ok ?_
  refine WCall.here rfl _ _ (collect_1 t xs h0 hl) trivial ?_
  refine WCall.here rfl _ _ (acall_frame (sort_1 xs 0 h0) ⟨Nat.one_pos, trivial⟩ (under_p _ _) (under_p _ _) 1 _ rfl) trivial ?_
  refine endLk (.inr rfl) rfl rfl rfl rfl rfl (by rw [ib_flat]; rfl) (by simp [sorted_length]) (by intro r hr; obtain ⟨l, _, rfl⟩ := List.mem_map.1 hr; rfl) (fun c hc => one_ib _ c hc) (Nat.le_refl _) rfl ?_
  intro b bl hb
  cases b with
  | zero => simp at hb; subst hb; exact ⟨trivial, trivial⟩
  | succ b => simp at hb
end Go.Proofs.YtlkphnhlibpngaaGreat.Abs
