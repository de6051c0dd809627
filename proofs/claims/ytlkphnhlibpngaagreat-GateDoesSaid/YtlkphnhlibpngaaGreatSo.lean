/- The library's sort of numbers, by the shelf's contract: a row of one's own is sorted. -/
import Derived.Shelf.Sort.Plain
import Derived.Test.YtlkphnhlibpngaaGreatC6
set_option linter.unusedVariables false
set_option linter.unusedSimpArgs false
set_option maxRecDepth 100000
namespace Go.Proofs.YtlkphnhlibpngaaGreat.Abs
open Go

def lay189_ren : Go.Shelf.Ren := ⟨fun | 189 => 113 | 125 => 120 | 257 => 119 | 128 => 130 | 129 => 131 | 294 => 121 | 295 => 122 | 296 => 123 | 297 => 124 | 298 => 125 | 299 => 126 | 216 => 127 | 300 => 128 | 301 => 129 | 328 => 132 | 329 => 133 | 330 => 134 | 331 => 135 | 332 => 136 | 215 => 137 | 343 => 138 | n => n, fun | 28 => 69 | 3 => 3 | 46 => 121 | 0 => 0 | 51 => 146 | 53 => 148 | 4 => 4 | 183 => 140 | 182 => 139 | 131 => 110 | 5 => 5 | 9 => 9 | 218 => 149 | 222 => 153 | 228 => 155 | 229 => 124 | n => n, fun n => n⟩
theorem lay189 : Go.Proofs.Lays.n189 Tryz.prog lay189_ren := {
  mixed := by kernel_rfl,
  f125 := Tryz.func120.trans (congrArg some (by kernel_rfl)),
  f128 := Tryz.func130.trans (congrArg some (by kernel_rfl)),
  f129 := Tryz.func131.trans (congrArg some (by kernel_rfl)),
  f189 := Tryz.func113.trans (congrArg some (by kernel_rfl)),
  f215 := Tryz.func137.trans (congrArg some (by kernel_rfl)),
  f216 := Tryz.func127.trans (congrArg some (by kernel_rfl)),
  f257 := Tryz.func119.trans (congrArg some (by kernel_rfl)),
  f294 := Tryz.func121.trans (congrArg some (by kernel_rfl)),
  f295 := Tryz.func122.trans (congrArg some (by kernel_rfl)),
  f296 := Tryz.func123.trans (congrArg some (by kernel_rfl)),
  f297 := Tryz.func124.trans (congrArg some (by kernel_rfl)),
  f298 := Tryz.func125.trans (congrArg some (by kernel_rfl)),
  f299 := Tryz.func126.trans (congrArg some (by kernel_rfl)),
  f300 := Tryz.func128.trans (congrArg some (by kernel_rfl)),
  f301 := Tryz.func129.trans (congrArg some (by kernel_rfl)),
  f328 := Tryz.func132.trans (congrArg some (by kernel_rfl)),
  f329 := Tryz.func133.trans (congrArg some (by kernel_rfl)),
  f330 := Tryz.func134.trans (congrArg some (by kernel_rfl)),
  f331 := Tryz.func135.trans (congrArg some (by kernel_rfl)),
  f332 := Tryz.func136.trans (congrArg some (by kernel_rfl)),
  f343 := Tryz.func138.trans (congrArg some (by kernel_rfl)),
  t0 := Tryz.underlying0,
  a0 := Tryz.isAgg0,
  z0 := Tryz.sizeOf0,
  v0 := Tryz.zeroValue0,
  t3 := Tryz.underlying3,
  a3 := Tryz.isAgg3,
  z3 := Tryz.sizeOf3,
  v3 := Tryz.zeroValue3,
  t4 := Tryz.underlying4,
  a4 := Tryz.isAgg4,
  z4 := Tryz.sizeOf4,
  v4 := Tryz.zeroValue4,
  t5 := Tryz.underlying5,
  a5 := Tryz.isAgg5,
  z5 := Tryz.sizeOf5,
  v5 := Tryz.zeroValue5,
  t9 := Tryz.underlying9,
  a9 := Tryz.isAgg9,
  z9 := Tryz.sizeOf9,
  v9 := Tryz.zeroValue9,
  t28 := Tryz.underlying69,
  a28 := Tryz.isAgg69,
  z28 := Tryz.sizeOf69,
  v28 := Tryz.zeroValue69,
  t46 := Tryz.underlying121,
  a46 := Tryz.isAgg121,
  z46 := Tryz.sizeOf121,
  v46 := Tryz.zeroValue121,
  t51 := Tryz.underlying146,
  a51 := Tryz.isAgg146,
  z51 := Tryz.sizeOf146,
  v51 := Tryz.zeroValue146,
  t53 := Tryz.underlying148,
  a53 := Tryz.isAgg148,
  z53 := Tryz.sizeOf148,
  v53 := Tryz.zeroValue148,
  t131 := Tryz.underlying110,
  a131 := Tryz.isAgg110,
  z131 := Tryz.sizeOf110,
  v131 := Tryz.zeroValue110,
  t182 := Tryz.underlying139,
  a182 := Tryz.isAgg139,
  z182 := Tryz.sizeOf139,
  v182 := Tryz.zeroValue139,
  t183 := Tryz.underlying140,
  a183 := Tryz.isAgg140,
  z183 := Tryz.sizeOf140,
  v183 := Tryz.zeroValue140,
  t218 := Tryz.underlying149,
  a218 := Tryz.isAgg149,
  z218 := Tryz.sizeOf149,
  v218 := Tryz.zeroValue149,
  t222 := Tryz.underlying153,
  a222 := Tryz.isAgg153,
  z222 := Tryz.sizeOf153,
  v222 := Tryz.zeroValue153,
  t228 := Tryz.underlying155,
  a228 := Tryz.isAgg155,
  z228 := Tryz.sizeOf155,
  v228 := Tryz.zeroValue155,
  t229 := Tryz.underlying124,
  a229 := Tryz.isAgg124,
  z229 := Tryz.sizeOf124,
  v229 := Tryz.zeroValue124 }

/-! rows of numbers of one's own -/
def ib (xs : List Int) (ver : Nat) : Blk := ⟨(xs.map iv).map .p, ver, true⟩
theorem ib_vals {S : Setup} : ∀ {xs : List Int} {ys : List Value}, VRs S ((xs.map iv).map .p) ys → ys = xs.map (Value.int .i64)
  | [], ys, h => h
  | x :: xs, ys, h => by
    obtain ⟨z, zs, rfl, h1, h2⟩ := h
    rw [ib_vals h2, show z = Value.int .i64 x from h1]; rfl
theorem ib_VRs {S : Setup} : ∀ (xs : List Int), VRs S ((xs.map iv).map .p) (xs.map (Value.int .i64))
  | [] => rfl
  | x :: xs => ⟨_, _, rfl, rfl, ib_VRs xs⟩
theorem sort_1 (xs : List Int) (ver : Nat) (h0 : xs ≠ []) : ACall Tryz.prog 113 [.sl 0 ver 0 xs.length 1] [ib xs ver] (.tup []) [ib (sorted xs) ver] := by
  intro S vs hm hS hv
  obtain ⟨z, zs, rfl, ⟨ad, cap, rfl, e2, e3, e4, blk, e5, e6, e7⟩, rfl⟩ := hv
  have hb0 : S.m[0]? = some (ib xs ver) := by rw [hm]; rfl
  rw [hb0] at e5; obtain rfl := Option.some.inj e5
  obtain ⟨rfl, e8, e9⟩ := e7 rfl rfl
  obtain ⟨⟨ys, rest, ty, g1, g2, g3⟩, g4⟩ := hS.lies 0 _ hb0 rfl
  have hys := ib_vals g2
  subst hys
  have hlt : S.β 0 < S.w.heap.size := hS.owned_lt ⟨0, _, hb0, rfl, rfl⟩
  have hlen : (xs.map (Value.int .i64)).length = xs.length := List.length_map _
  have hH : Go.Sort.Holds (Value.int .i64) S.w (S.β 0) 0 xs.toArray := by
    intro j hj
    have hj : j < xs.length := by simpa using hj
    have hx : (xs.map (Value.int .i64) ++ rest)[j]? = some (.int .i64 xs[j]) := by
      rw [List.getElem?_append_left (by simpa using hj), List.getElem?_map, List.getElem?_eq_getElem hj]; rfl
    refine ⟨?_, ?_⟩
    · simp only [World.cell?, g1, Option.isSome_none, Bool.false_eq_true, if_false, List.getElem?_toArray, Nat.zero_add]
      rw [hx]
      simp [hj]
    · simp [World.frozen?, g1]
  have := Go.Proofs.Any.slices_Sort_int lay189 (S.β 0) 0 cap xs S.w hH hlt (by omega)
  refine Calls.mono this ?_
  rintro e w' ⟨rfl, n, os, rfl⟩
  have hold : ∀ k, k < S.w.heap.size → k ≠ S.β 0 → (Go.Sort.grow (Go.Sort.putRow (Value.int .i64) (Go.Sort.ahead S.w n) (S.β 0) 0 (xs.mergeSort fun x y => decide (x ≤ y)).toArray) os).heap[k]? = S.w.heap[k]? := by
    intro k hk hne
    rw [Go.Sort.heap_grow_old _ _ (by simp; exact hk)]
    simp [Go.Sort.putRow, Go.Sort.mapBlock, Array.getElem?_modify, hne.symm]
  have hnew : (Go.Sort.grow (Go.Sort.putRow (Value.int .i64) (Go.Sort.ahead S.w n) (S.β 0) 0 (xs.mergeSort fun x y => decide (x ≤ y)).toArray) os).heap[S.β 0]? = some (.cells ((sorted xs).map (Value.int .i64) ++ rest).toArray ty (0, 0)) := by
    rw [Go.Sort.heap_grow_old _ _ (by simp; exact hlt)]
    simp only [Go.Sort.putRow, Go.Sort.mapBlock, Array.getElem?_modify, if_true, Go.Sort.heap_ahead, g1, Option.map_some, Go.Sort.onCells, Option.some.injEq, Obj.cells.injEq, and_self, and_true]
    apply Array.ext_getElem?
    intro j
    have hsl := sorted_length xs
    simp only [Go.Sort.putCells, Array.getElem?_mapIdx, List.getElem?_toArray]
    by_cases hj : j < xs.length
    · have hjs : j < (sorted xs).length := by omega
      rw [List.getElem?_append_left (by simp; omega), List.getElem?_append_left (by simp; omega), List.getElem?_map, List.getElem?_map, List.getElem?_eq_getElem hj, List.getElem?_eq_getElem hjs]
      have hjm : j < (xs.mergeSort fun x y => decide (x ≤ y)).length := hjs
      simp only [Option.map_some, Nat.zero_le, Nat.zero_add, Nat.sub_zero, List.size_toArray, true_and, if_pos hjm, Option.some.injEq]
      congr 1
      simp
      rw [List.getElem?_eq_getElem hjm]; rfl
    · have hjm : ¬ j < (xs.mergeSort fun x y => decide (x ≤ y)).length := by have : (xs.mergeSort fun x y => decide (x ≤ y)).length = xs.length := hsl; omega
      rw [List.getElem?_append_right (by simp; omega), List.getElem?_append_right (by simp; omega)]
      simp only [List.length_map, hsl]
      cases rest[j - xs.length]? with
      | none => rfl
      | some v => simp only [Option.map_some, Nat.zero_le, Nat.zero_add, List.size_toArray, true_and, if_neg hjm]
  generalize hw : Go.Sort.grow (Go.Sort.putRow (Value.int .i64) (Go.Sort.ahead S.w n) (S.β 0) 0 (xs.mergeSort fun x y => decide (x ≤ y)).toArray) os = w' at hold hnew
  have hos : w'.os = S.w.os := by rw [← hw]; rfl
  have htape : w'.tape = S.w.tape := by rw [← hw]; rfl
  have hout : w'.output = S.w.output := by rw [← hw]; rfl
  have hsz : S.w.heap.size ≤ w'.heap.size := by rw [← hw]; simp
  have hz : ∀ {b : Nat} {bl : Blk}, S.m[b]? = some bl → b = 0 ∧ bl = ib xs ver := by
    intro b bl h
    rw [hm] at h
    cases b with
    | zero => exact ⟨rfl, by simpa using h.symm⟩
    | succ b => simp at h
  let S' : Setup := { S with m := [ib (sorted xs) ver], w := w' }
  have hz' : ∀ {b : Nat} {bl : Blk}, S'.m[b]? = some bl → b = 0 ∧ bl = ib (sorted xs) ver := by
    intro b bl h
    cases b with
    | zero => exact ⟨rfl, by simpa [S'] using h.symm⟩
    | succ b => simp [S'] at h
  have hE : Ext S S' := by
    refine ⟨hos, htape, hout, hsz, fun b bl hb => ?_, fun k hk => ⟨hk, hold k (hS.fzlt k hk) fun e => g4 (e ▸ hk)⟩, fun k hk hn => hold k hk fun e => hn ⟨0, _, hb0, rfl, e.symm⟩, ?_, fun k hk => .inl hk⟩
    · obtain ⟨rfl, rfl⟩ := hz hb
      exact ⟨ib (sorted xs) ver, rfl, Nat.le_refl _, fun _ _ => ⟨rfl, rfl, rfl⟩⟩
    · rintro k ⟨b, bl, h1, h2, h3⟩
      obtain ⟨rfl, rfl⟩ := hz' h1
      exact .inl ⟨0, _, hb0, rfl, h3⟩
  refine ⟨S', .tuple #[], rfl, rfl, hE, ⟨fun b bl hb ha => ?_, fun b c bl bl' hb hc _ _ _ => ?_, fun k hk => Nat.lt_of_lt_of_le (hS.fzlt k hk) hsz⟩, rfl, [], rfl, rfl⟩
  · obtain ⟨rfl, rfl⟩ := hz' hb
    refine ⟨⟨(sorted xs).map (Value.int .i64), rest, ty, hnew, ib_VRs _, ?_⟩, g4⟩
    rw [← g3]; simp [sorted_length]
  · rw [(hz' hb).1, (hz' hc).1]
end Go.Proofs.YtlkphnhlibpngaaGreat.Abs
