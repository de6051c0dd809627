/- The library's sort of numbers, by the shelf's contract: a row of one's own is sorted. -/
import Derived.Shelf.Sort.Plain
import Derived.Test.YtlkphnhlibpngaaC6
set_option linter.unusedVariables false
set_option linter.unusedSimpArgs false
set_option maxRecDepth 100000
namespace Go.Proofs.Ytlkphnhlibpngaa.Abs
open Go

def lay189_ren : Go.Shelf.Ren := ⟨fun | 189 => 75 | 125 => 80 | 257 => 79 | 128 => 90 | 129 => 91 | 294 => 81 | 295 => 82 | 296 => 83 | 297 => 84 | 298 => 85 | 299 => 86 | 216 => 87 | 300 => 88 | 301 => 89 | 328 => 92 | 329 => 93 | 330 => 94 | 331 => 95 | 332 => 96 | 215 => 97 | 343 => 98 | n => n, fun | 28 => 104 | 3 => 3 | 46 => 111 | 0 => 0 | 51 => 138 | 53 => 140 | 4 => 4 | 183 => 131 | 182 => 130 | 131 => 109 | 5 => 5 | 9 => 9 | 218 => 141 | 222 => 145 | 228 => 147 | 229 => 122 | n => n, fun n => n⟩
theorem lay189 : Go.Proofs.Lays.n189 Try.prog lay189_ren := {
  mixed := by kernel_rfl,
  f125 := Try.func80.trans (congrArg some (by kernel_rfl)),
  f128 := Try.func90.trans (congrArg some (by kernel_rfl)),
  f129 := Try.func91.trans (congrArg some (by kernel_rfl)),
  f189 := Try.func75.trans (congrArg some (by kernel_rfl)),
  f215 := Try.func97.trans (congrArg some (by kernel_rfl)),
  f216 := Try.func87.trans (congrArg some (by kernel_rfl)),
  f257 := Try.func79.trans (congrArg some (by kernel_rfl)),
  f294 := Try.func81.trans (congrArg some (by kernel_rfl)),
  f295 := Try.func82.trans (congrArg some (by kernel_rfl)),
  f296 := Try.func83.trans (congrArg some (by kernel_rfl)),
  f297 := Try.func84.trans (congrArg some (by kernel_rfl)),
  f298 := Try.func85.trans (congrArg some (by kernel_rfl)),
  f299 := Try.func86.trans (congrArg some (by kernel_rfl)),
  f300 := Try.func88.trans (congrArg some (by kernel_rfl)),
  f301 := Try.func89.trans (congrArg some (by kernel_rfl)),
  f328 := Try.func92.trans (congrArg some (by kernel_rfl)),
  f329 := Try.func93.trans (congrArg some (by kernel_rfl)),
  f330 := Try.func94.trans (congrArg some (by kernel_rfl)),
  f331 := Try.func95.trans (congrArg some (by kernel_rfl)),
  f332 := Try.func96.trans (congrArg some (by kernel_rfl)),
  f343 := Try.func98.trans (congrArg some (by kernel_rfl)),
  t0 := Try.underlying0,
  a0 := Try.isAgg0,
  z0 := Try.sizeOf0,
  v0 := Try.zeroValue0,
  t3 := Try.underlying3,
  a3 := Try.isAgg3,
  z3 := Try.sizeOf3,
  v3 := Try.zeroValue3,
  t4 := Try.underlying4,
  a4 := Try.isAgg4,
  z4 := Try.sizeOf4,
  v4 := Try.zeroValue4,
  t5 := Try.underlying5,
  a5 := Try.isAgg5,
  z5 := Try.sizeOf5,
  v5 := Try.zeroValue5,
  t9 := Try.underlying9,
  a9 := Try.isAgg9,
  z9 := Try.sizeOf9,
  v9 := Try.zeroValue9,
  t28 := Try.underlying104,
  a28 := Try.isAgg104,
  z28 := Try.sizeOf104,
  v28 := Try.zeroValue104,
  t46 := Try.underlying111,
  a46 := Try.isAgg111,
  z46 := Try.sizeOf111,
  v46 := Try.zeroValue111,
  t51 := Try.underlying138,
  a51 := Try.isAgg138,
  z51 := Try.sizeOf138,
  v51 := Try.zeroValue138,
  t53 := Try.underlying140,
  a53 := Try.isAgg140,
  z53 := Try.sizeOf140,
  v53 := Try.zeroValue140,
  t131 := Try.underlying109,
  a131 := Try.isAgg109,
  z131 := Try.sizeOf109,
  v131 := Try.zeroValue109,
  t182 := Try.underlying130,
  a182 := Try.isAgg130,
  z182 := Try.sizeOf130,
  v182 := Try.zeroValue130,
  t183 := Try.underlying131,
  a183 := Try.isAgg131,
  z183 := Try.sizeOf131,
  v183 := Try.zeroValue131,
  t218 := Try.underlying141,
  a218 := Try.isAgg141,
  z218 := Try.sizeOf141,
  v218 := Try.zeroValue141,
  t222 := Try.underlying145,
  a222 := Try.isAgg145,
  z222 := Try.sizeOf145,
  v222 := Try.zeroValue145,
  t228 := Try.underlying147,
  a228 := Try.isAgg147,
  z228 := Try.sizeOf147,
  v228 := Try.zeroValue147,
  t229 := Try.underlying122,
  a229 := Try.isAgg122,
  z229 := Try.sizeOf122,
  v229 := Try.zeroValue122 }

/-! rows of numbers of one's own -/
def ib (xs : List Int) (ver : Nat) : Blk := ⟨(xs.map iv).map .p, ver, true⟩
theorem ib_vals {S : Setup} : ∀ {xs : List Int} {ys : List Value}, VRs S ((xs.map iv).map .p) ys → ys = xs.map (Value.int .i64)
  | [], ys, h => h
  | x :: xs, ys, h => by
    obtain ⟨z, zs, rfl, h1, h2⟩ := h
    rw [ib_vals h2, show z = Value.int .i64 x from h1]; rfl
theorem ib_VRs {S : Setup} : ∀ (xs : List Int), VRs S ((xs.map iv).map .p) (xs.map (Value.int .i64))
  | [] => rfl
  | x :: xs => ⟨_, _, rfl, rfl, ib_VRs xs⟩
theorem sort_1 (xs : List Int) (ver : Nat) (h0 : xs ≠ []) : ACall Try.prog 75 [.sl 0 ver 0 xs.length 1] [ib xs ver] (.tup []) [ib (sorted xs) ver] := by
  intro S vs hm hS hv
  obtain ⟨z, zs, rfl, ⟨ad, cap, rfl, e2, e3, e4, blk, e5, e6, e7⟩, rfl⟩ := hv
  have hb0 : S.m[0]? = some (ib xs ver) := by rw [hm]; rfl
  rw [hb0] at e5; obtain rfl := Option.some.inj e5
  obtain ⟨rfl, e8, e9⟩ := e7 rfl rfl
  obtain ⟨⟨ys, rest, ty, g1, g2, g3⟩, g4⟩ := hS.lies 0 _ hb0 rfl
  have hys := ib_vals g2
  subst hys
  have hlt : S.β 0 < S.w.heap.size := hS.owned_lt ⟨0, _, hb0, rfl, rfl⟩
  have hlen : (xs.map (Value.int .i64)).length = xs.length := List.length_map _
  have hH : Go.Sort.Holds (Value.int .i64) S.w (S.β 0) 0 xs.toArray := by
    intro j hj
    have hj : j < xs.length := by simpa using hj
    have hx : (xs.map (Value.int .i64) ++ rest)[j]? = some (.int .i64 xs[j]) := by
      rw [List.getElem?_append_left (by simpa using hj), List.getElem?_map, List.getElem?_eq_getElem hj]; rfl
    refine ⟨?_, ?_⟩
    · simp only [World.cell?, g1, Option.isSome_none, Bool.false_eq_true, if_false, List.getElem?_toArray, Nat.zero_add]
      rw [hx]
      simp [hj]
    · simp [World.frozen?, g1]
  have := Go.Proofs.Any.slices_Sort_int lay189 (S.β 0) 0 cap xs S.w hH hlt (by omega)
  refine Calls.mono this ?_
  rintro e w' ⟨rfl, n, os, rfl⟩
  have hold : ∀ k, k < S.w.heap.size → k ≠ S.β 0 → (Go.Sort.grow (Go.Sort.putRow (Value.int .i64) (Go.Sort.ahead S.w n) (S.β 0) 0 (xs.mergeSort fun x y => decide (x ≤ y)).toArray) os).heap[k]? = S.w.heap[k]? := by
    intro k hk hne
    rw [Go.Sort.heap_grow_old _ _ (by simp; exact hk)]
    simp [Go.Sort.putRow, Go.Sort.mapBlock, Array.getElem?_modify, hne.symm]
  have hnew : (Go.Sort.grow (Go.Sort.putRow (Value.int .i64) (Go.Sort.ahead S.w n) (S.β 0) 0 (xs.mergeSort fun x y => decide (x ≤ y)).toArray) os).heap[S.β 0]? = some (.cells ((sorted xs).map (Value.int .i64) ++ rest).toArray ty (0, 0)) := by
    rw [Go.Sort.heap_grow_old _ _ (by simp; exact hlt)]
    simp only [Go.Sort.putRow, Go.Sort.mapBlock, Array.getElem?_modify, if_true, Go.Sort.heap_ahead, g1, Option.map_some, Go.Sort.onCells, Option.some.injEq, Obj.cells.injEq, and_self, and_true]
    apply Array.ext_getElem?
    intro j
    have hsl := sorted_length xs
    simp only [Go.Sort.putCells, Array.getElem?_mapIdx, List.getElem?_toArray]
    by_cases hj : j < xs.length
    · have hjs : j < (sorted xs).length := by omega
      rw [List.getElem?_append_left (by simp; omega), List.getElem?_append_left (by simp; omega), List.getElem?_map, List.getElem?_map, List.getElem?_eq_getElem hj, List.getElem?_eq_getElem hjs]
      have hjm : j < (xs.mergeSort fun x y => decide (x ≤ y)).length := hjs
      simp only [Option.map_some, Nat.zero_le, Nat.zero_add, Nat.sub_zero, List.size_toArray, true_and, if_pos hjm, Option.some.injEq]
      congr 1
      simp
      rw [List.getElem?_eq_getElem hjm]; rfl
    · have hjm : ¬ j < (xs.mergeSort fun x y => decide (x ≤ y)).length := by have : (xs.mergeSort fun x y => decide (x ≤ y)).length = xs.length := hsl; omega
      rw [List.getElem?_append_right (by simp; omega), List.getElem?_append_right (by simp; omega)]
      simp only [List.length_map, hsl]
      cases rest[j - xs.length]? with
      | none => rfl
      | some v => simp only [Option.map_some, Nat.zero_le, Nat.zero_add, List.size_toArray, true_and, if_neg hjm]
  generalize hw : Go.Sort.grow (Go.Sort.putRow (Value.int .i64) (Go.Sort.ahead S.w n) (S.β 0) 0 (xs.mergeSort fun x y => decide (x ≤ y)).toArray) os = w' at hold hnew
  have hos : w'.os = S.w.os := by rw [← hw]; rfl
  have htape : w'.tape = S.w.tape := by rw [← hw]; rfl
  have hout : w'.output = S.w.output := by rw [← hw]; rfl
  have hsz : S.w.heap.size ≤ w'.heap.size := by rw [← hw]; simp
  have hz : ∀ {b : Nat} {bl : Blk}, S.m[b]? = some bl → b = 0 ∧ bl = ib xs ver := by
    intro b bl h
    rw [hm] at h
    cases b with
    | zero => exact ⟨rfl, by simpa using h.symm⟩
    | succ b => simp at h
  let S' : Setup := { S with m := [ib (sorted xs) ver], w := w' }
  have hz' : ∀ {b : Nat} {bl : Blk}, S'.m[b]? = some bl → b = 0 ∧ bl = ib (sorted xs) ver := by
    intro b bl h
    cases b with
    | zero => exact ⟨rfl, by simpa [S'] using h.symm⟩
    | succ b => simp [S'] at h
  have hE : Ext S S' := by
    refine ⟨hos, htape, hout, hsz, fun b bl hb => ?_, fun k hk => ⟨hk, hold k (hS.fzlt k hk) fun e => g4 (e ▸ hk)⟩, fun k hk hn => hold k hk fun e => hn ⟨0, _, hb0, rfl, e.symm⟩, ?_, fun k hk => .inl hk⟩
    · obtain ⟨rfl, rfl⟩ := hz hb
      exact ⟨ib (sorted xs) ver, rfl, Nat.le_refl _, fun _ _ => ⟨rfl, rfl, rfl⟩⟩
    · rintro k ⟨b, bl, h1, h2, h3⟩
      obtain ⟨rfl, rfl⟩ := hz' h1
      exact .inl ⟨0, _, hb0, rfl, h3⟩
  refine ⟨S', .tuple #[], rfl, rfl, hE, ⟨fun b bl hb ha => ?_, fun b c bl bl' hb hc _ _ _ => ?_, fun k hk => Nat.lt_of_lt_of_le (hS.fzlt k hk) hsz⟩, rfl, [], rfl, rfl⟩
  · obtain ⟨rfl, rfl⟩ := hz' hb
    refine ⟨⟨(sorted xs).map (Value.int .i64), rest, ty, hnew, ib_VRs _, ?_⟩, g4⟩
    rw [← g3]; simp [sorted_length]
  · rw [(hz' hb).1, (hz' hc).1]
end Go.Proofs.Ytlkphnhlibpngaa.Abs
