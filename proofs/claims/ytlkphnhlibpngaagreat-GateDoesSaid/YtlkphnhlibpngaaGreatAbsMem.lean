/- Abs, part 2: what new blocks, writes and draws do to the relation between the abstract memory and the model's world. -/
import Derived.Test.YtlkphnhlibpngaaGreatAbsCore
set_option linter.unusedVariables false
set_option linter.unusedSimpArgs false
namespace Go.Proofs.YtlkphnhlibpngaaGreat.Abs
open Go

theorem getElem?_snoc {α : Type} {l : List α} {x y : α} {i : Nat} (h : (l ++ [x])[i]? = some y) : (i < l.length ∧ l[i]? = some y) ∨ (i = l.length ∧ y = x) := by
  by_cases hi : i < l.length
  · rw [List.getElem?_append_left hi] at h; exact .inl ⟨hi, h⟩
  · rw [List.getElem?_append_right (by omega)] at h
    have : i - l.length = 0 := by
      by_cases h0 : i - l.length = 0
      · exact h0
      · rw [List.getElem?_eq_none (by simp; omega)] at h; simp at h
    rw [this] at h
    simp at h
    exact .inr ⟨by omega, h.symm⟩

theorem Setup.WF.owned_lt {S : Setup} (h : S.WF) {k : Nat} (ho : S.Owned k) : k < S.w.heap.size := by
  obtain ⟨b, blk, h1, h2, rfl⟩ := ho
  obtain ⟨ys, rest, ty, h3, _⟩ := (h.lies b blk h1 h2).lies
  by_cases hk : S.β b < S.w.heap.size
  · exact hk
  · rw [Array.getElem?_eq_none (by omega)] at h3; simp at h3

/-- A draw turns no block. -/
def Setup.drew (S : Setup) : Setup := { S with w := S.w.drew }
theorem Ext.drew (S : Setup) : Ext S S.drew :=
  ⟨rfl, rfl, rfl, Nat.le_refl _, fun b blk h => ⟨blk, h, Nat.le_refl _, fun h1 _ => ⟨h1, rfl, rfl⟩⟩, fun k h => ⟨h, rfl⟩, fun _ _ _ => rfl, fun _ h => .inl h, fun _ h => .inl h⟩
theorem Lies.of_ext {S S' : Setup} {b : Nat} {blk : Blk} (h : Lies S b blk) (he : Ext S S') (hb : S'.β b = S.β b) (hc : S'.cap b = S.cap b)
    (hh : S'.w.heap[S.β b]? = S.w.heap[S.β b]?) (hn : ¬ S'.fz (S.β b)) : Lies S' b blk := by
  obtain ⟨ys, rest, ty, h1, h2, h3⟩ := h.lies
  exact ⟨⟨ys, rest, ty, by rw [hb, hh]; exact h1, VRs.mono he _ _ h2, by rw [hc]; exact h3⟩, by rw [hb]; exact hn⟩
theorem Setup.WF.drew {S : Setup} (h : S.WF) : S.drew.WF :=
  ⟨fun b blk hb ha => (h.lies b blk hb ha).of_ext (Ext.drew S) rfl rfl rfl (h.lies b blk hb ha).nofz, h.inj, h.fzlt⟩

/-- A new block that is only read from now on. -/
def Setup.lay (S : Setup) (o : Obj) : Setup := { S with w := S.w.alloc o, fz := fun k => S.fz k ∨ k = S.w.heap.size }
theorem Ext.lay {S : Setup} (hS : S.WF) (o : Obj) : Ext S (S.lay o) :=
  ⟨rfl, rfl, rfl, by simp [Setup.lay], fun b blk h => ⟨blk, h, Nat.le_refl _, fun h1 _ => ⟨h1, rfl, rfl⟩⟩, fun k h => ⟨.inl h, heap_alloc_old _ _ _ (hS.fzlt k h)⟩,
    fun k hk _ => heap_alloc_old _ _ _ hk, fun _ h => .inl h, fun k h => h.elim .inl (fun e => .inr (.inr (Nat.le_of_eq e.symm)))⟩
theorem Setup.WF.lay {S : Setup} (h : S.WF) (o : Obj) : (S.lay o).WF := by
  refine ⟨fun b blk hb ha => ?_, h.inj, fun k hk => ?_⟩
  · have hl := h.lies b blk hb ha
    have hlt : S.β b < S.w.heap.size := h.owned_lt ⟨b, blk, hb, ha, rfl⟩
    exact hl.of_ext (Ext.lay h o) rfl rfl (heap_alloc_old _ _ _ hlt) (fun hf => hf.elim hl.nofz (fun e => by omega))
  · rcases hk with hk | rfl
    · have := h.fzlt k hk; simp [Setup.lay]; omega
    · simp [Setup.lay]

/-- A new block of one's own. -/
def Setup.own (S : Setup) (cs : List AV) (o : Obj) (n : Nat) : Setup :=
  { S with m := S.m ++ [.box cs], w := S.w.alloc o, β := fun b => if b = S.m.length then S.w.heap.size else S.β b, cap := fun b => if b = S.m.length then n else S.cap b }
theorem Ext.own {S : Setup} (hS : S.WF) (cs : List AV) (o : Obj) (n : Nat) : Ext S (S.own cs o n) := by
  refine ⟨rfl, rfl, rfl, by simp [Setup.own], fun b blk h => ?_, fun k h => ⟨h, heap_alloc_old _ _ _ (hS.fzlt k h)⟩, fun k hk _ => heap_alloc_old _ _ _ hk, ?_, fun _ h => .inl h⟩
  · have hlt : b < S.m.length := (List.getElem?_eq_some_iff.1 h).1
    refine ⟨blk, by simp only [Setup.own]; rw [List.getElem?_append_left hlt]; exact h, Nat.le_refl _, fun h1 _ => ⟨h1, ?_, ?_⟩⟩
    · simp only [Setup.own]; rw [if_neg (by omega)]
    · simp only [Setup.own]; rw [if_neg (by omega)]
  · rintro k ⟨b, blk, h1, h2, h3⟩
    rcases getElem?_snoc h1 with ⟨hb, h1⟩ | ⟨hb, _⟩
    · simp only [Setup.own] at h3
      rw [if_neg (by omega)] at h3
      exact .inl ⟨b, blk, h1, h2, h3⟩
    · simp only [Setup.own] at h3
      rw [if_pos hb] at h3
      exact .inr (by omega)
theorem Setup.WF.own {S : Setup} (h : S.WF) {cs : List AV} {ys rest : List Value} {ty : TypeId} {n : Nat} (hv : VRs S cs ys) (hn : (ys ++ rest).length = n) :
    (S.own cs (.cells (ys ++ rest).toArray ty) n).WF := by
  have he := Ext.own h cs (.cells (ys ++ rest).toArray ty) n
  refine ⟨fun b blk hb ha => ?_, ?_, fun k hk => ?_⟩
  · rcases getElem?_snoc hb with ⟨hlt, hb⟩ | ⟨hlt, rfl⟩
    · have hl := h.lies b blk hb ha
      have hlt' : S.β b < S.w.heap.size := h.owned_lt ⟨b, blk, hb, ha, rfl⟩
      exact hl.of_ext he (by simp only [Setup.own]; rw [if_neg (by omega)]) (by simp only [Setup.own]; rw [if_neg (by omega)]) (heap_alloc_old _ _ _ hlt') hl.nofz
    · have hβ : (S.own cs (.cells (ys ++ rest).toArray ty) n).β b = S.w.heap.size := by simp only [Setup.own]; rw [if_pos hlt]
      have hc : (S.own cs (.cells (ys ++ rest).toArray ty) n).cap b = n := by simp only [Setup.own]; rw [if_pos hlt]
      refine ⟨⟨ys, rest, ty, ?_, VRs.mono he _ _ hv, ?_⟩, ?_⟩
      · rw [hβ]; exact heap_alloc_new _ _
      · rw [hc]; exact hn
      · rw [hβ]; exact fun hf => Nat.lt_irrefl _ (h.fzlt _ hf)
  · intro b c blk blk' hb hc ha ha' hβ
    rcases getElem?_snoc hb with ⟨hlt, hb⟩ | ⟨hlt, _⟩ <;> rcases getElem?_snoc hc with ⟨hlt', hc⟩ | ⟨hlt', _⟩
    · simp only [Setup.own] at hβ
      rw [if_neg (by omega), if_neg (by omega)] at hβ
      exact h.inj b c blk blk' hb hc ha ha' hβ
    · simp only [Setup.own] at hβ
      rw [if_neg (by omega), if_pos hlt'] at hβ
      have := h.owned_lt ⟨b, blk, hb, ha, rfl⟩
      omega
    · simp only [Setup.own] at hβ
      rw [if_pos hlt, if_neg (by omega)] at hβ
      have := h.owned_lt ⟨c, blk', hc, ha', rfl⟩
      omega
    · omega
  · have := h.fzlt k hk
    simp [Setup.own]; omega

/-- The cells of a living block are written, and may grow within its place. -/
def Setup.put (S : Setup) (b : Nat) (blk : Blk) (cs : Array Value) : Setup := { S with m := S.m.set b blk, w := S.w.setRow (S.β b) cs }
theorem Ext.put {S : Setup} (hS : S.WF) {b : Nat} {blk blk' : Blk} (hb : S.m[b]? = some blk) (ha : blk.alive = true) (hc : blk.cur ≤ blk'.cur) (cs : Array Value) : Ext S (S.put b blk' cs) := by
  have hlt : b < S.m.length := (List.getElem?_eq_some_iff.1 hb).1
  refine ⟨rfl, rfl, rfl, by simp [Setup.put], ?_, ?_, ?_, ?_, fun _ h => .inl h⟩
  · intro c bl hbl
    by_cases h : c = b
    · subst h
      rw [hb] at hbl; obtain rfl := Option.some.inj hbl
      exact ⟨blk', by simp only [Setup.put]; rw [List.getElem?_set_self hlt], hc, fun _ _ => ⟨ha, rfl, rfl⟩⟩
    · exact ⟨bl, by simp only [Setup.put]; rw [List.getElem?_set_ne (Ne.symm h)]; exact hbl, Nat.le_refl _, fun h1 _ => ⟨h1, rfl, rfl⟩⟩
  · intro k hk
    refine ⟨hk, setRow_other _ _ _ _ fun e => ?_⟩
    exact (hS.lies b blk hb ha).nofz (e ▸ hk)
  · intro k _ hn
    exact setRow_other _ _ _ _ fun e => hn (e ▸ ⟨b, blk, hb, ha, rfl⟩)
  · rintro k ⟨c, bl, h1, h2, h3⟩
    by_cases h : c = b
    · subst h; exact .inl ⟨c, blk, hb, ha, h3⟩
    · simp only [Setup.put] at h1; rw [List.getElem?_set_ne (Ne.symm h)] at h1
      exact .inl ⟨c, bl, h1, h2, h3⟩
theorem Setup.WF.put {S : Setup} (h : S.WF) {b : Nat} {blk blk' : Blk} (hb : S.m[b]? = some blk) (ha : blk.alive = true) (hc : blk.cur ≤ blk'.cur) {ys rest : List Value}
    (hv : VRs S blk'.cells ys) (hl : (ys ++ rest).length = S.cap b) : (S.put b blk' (ys ++ rest).toArray).WF := by
  have he := Ext.put h hb ha hc (ys ++ rest).toArray
  have hlt : b < S.m.length := (List.getElem?_eq_some_iff.1 hb).1
  refine ⟨fun c bl hbl hal => ?_, ?_, fun k hk => ?_⟩
  · by_cases h' : c = b
    · subst h'
      simp only [Setup.put] at hbl; rw [List.getElem?_set_self hlt] at hbl
      obtain rfl := Option.some.inj hbl
      obtain ⟨ys0, rest0, ty, h1, h2, h3⟩ := (h.lies c blk hb ha).lies
      exact ⟨⟨ys, rest, ty, setRow_heap _ _ _ _ _ _ h1, VRs.mono he _ _ hv, hl⟩, (h.lies c blk hb ha).nofz⟩
    · simp only [Setup.put] at hbl; rw [List.getElem?_set_ne (Ne.symm h')] at hbl
      have hli := h.lies c bl hbl hal
      refine hli.of_ext he rfl rfl (setRow_other _ _ _ _ fun e => h' ?_) hli.nofz
      exact h.inj c b bl blk hbl hb hal ha e
  · intro c d bl bl' hc' hd ha1 ha2 hβ
    have key : ∀ (e : Nat) (bl : Blk), (S.put b blk' (ys ++ rest).toArray).m[e]? = some bl → bl.alive = true → ∃ bl0 : Blk, S.m[e]? = some bl0 ∧ bl0.alive = true := by
      intro e bl he' hal
      by_cases h' : e = b
      · subst h'; exact ⟨blk, hb, ha⟩
      · simp only [Setup.put] at he'; rw [List.getElem?_set_ne (Ne.symm h')] at he'; exact ⟨bl, he', hal⟩
    obtain ⟨x, hx1, hx2⟩ := key c bl hc' ha1
    obtain ⟨y, hy1, hy2⟩ := key d bl' hd ha2
    exact h.inj c d x y hx1 hy1 hx2 hy2 hβ
  · have := h.fzlt k hk
    simp [Setup.put]; exact this

/-- A living block goes on elsewhere (an append that made a new row). -/
def Setup.move (S : Setup) (b : Nat) (blk : Blk) (o : Obj) (n : Nat) : Setup :=
  { S with m := S.m.set b blk, w := S.w.alloc o, β := fun c => if c = b then S.w.heap.size else S.β c, cap := fun c => if c = b then n else S.cap c }
theorem Ext.move {S : Setup} (hS : S.WF) {b : Nat} {blk blk' : Blk} (hb : S.m[b]? = some blk) (hc : blk.cur < blk'.cur) (o : Obj) (n : Nat) : Ext S (S.move b blk' o n) := by
  have hlt : b < S.m.length := (List.getElem?_eq_some_iff.1 hb).1
  refine ⟨rfl, rfl, rfl, by simp [Setup.move], ?_, fun k h => ⟨h, heap_alloc_old _ _ _ (hS.fzlt k h)⟩, fun k hk _ => heap_alloc_old _ _ _ hk, ?_, fun _ h => .inl h⟩
  · intro c bl hbl
    by_cases h : c = b
    · subst h
      rw [hb] at hbl; obtain rfl := Option.some.inj hbl
      exact ⟨blk', by simp only [Setup.move]; rw [List.getElem?_set_self hlt], Nat.le_of_lt hc, fun _ h2 => by omega⟩
    · refine ⟨bl, by simp only [Setup.move]; rw [List.getElem?_set_ne (Ne.symm h)]; exact hbl, Nat.le_refl _, fun h1 _ => ⟨h1, ?_, ?_⟩⟩
      · simp only [Setup.move]; rw [if_neg h]
      · simp only [Setup.move]; rw [if_neg h]
  · rintro k ⟨c, bl, h1, h2, h3⟩
    by_cases h : c = b
    · subst h; simp only [Setup.move, if_true] at h3; exact .inr (by omega)
    · simp only [Setup.move] at h1 h3; rw [List.getElem?_set_ne (Ne.symm h)] at h1; rw [if_neg h] at h3
      exact .inl ⟨c, bl, h1, h2, h3⟩
theorem Setup.WF.move {S : Setup} (h : S.WF) {b : Nat} {blk blk' : Blk} (hb : S.m[b]? = some blk) (hc : blk.cur < blk'.cur) {ys rest : List Value} {ty : TypeId} {n : Nat}
    (hv : VRs S blk'.cells ys) (hn : (ys ++ rest).length = n) : (S.move b blk' (.cells (ys ++ rest).toArray ty) n).WF := by
  have he := Ext.move h hb hc (.cells (ys ++ rest).toArray ty) n
  have hlt : b < S.m.length := (List.getElem?_eq_some_iff.1 hb).1
  refine ⟨fun c bl hbl hal => ?_, ?_, fun k hk => ?_⟩
  · by_cases h' : c = b
    · subst h'
      simp only [Setup.move] at hbl; rw [List.getElem?_set_self hlt] at hbl
      obtain rfl := Option.some.inj hbl
      have hβ : (S.move c blk' (.cells (ys ++ rest).toArray ty) n).β c = S.w.heap.size := by simp only [Setup.move, if_true]
      have hcap : (S.move c blk' (.cells (ys ++ rest).toArray ty) n).cap c = n := by simp only [Setup.move, if_true]
      refine ⟨⟨ys, rest, ty, ?_, VRs.mono he _ _ hv, ?_⟩, ?_⟩
      · rw [hβ]; exact heap_alloc_new _ _
      · rw [hcap]; exact hn
      · rw [hβ]; exact fun hf => Nat.lt_irrefl _ (h.fzlt _ hf)
    · simp only [Setup.move] at hbl; rw [List.getElem?_set_ne (Ne.symm h')] at hbl
      have hli := h.lies c bl hbl hal
      have hlt' : S.β c < S.w.heap.size := h.owned_lt ⟨c, bl, hbl, hal, rfl⟩
      exact hli.of_ext he (by simp only [Setup.move]; rw [if_neg h']) (by simp only [Setup.move]; rw [if_neg h']) (heap_alloc_old _ _ _ hlt') hli.nofz
  · intro c d bl bl' hc' hd ha1 ha2 hβ
    simp only [Setup.move] at hc' hd hβ
    by_cases h1 : c = b <;> by_cases h2 : d = b
    · omega
    · rw [List.getElem?_set_ne (Ne.symm h2)] at hd
      rw [if_pos h1, if_neg h2] at hβ
      have := h.owned_lt ⟨d, bl', hd, ha2, rfl⟩
      omega
    · rw [List.getElem?_set_ne (Ne.symm h1)] at hc'
      rw [if_neg h1, if_pos h2] at hβ
      have := h.owned_lt ⟨c, bl, hc', ha1, rfl⟩
      omega
    · rw [List.getElem?_set_ne (Ne.symm h1)] at hc'
      rw [List.getElem?_set_ne (Ne.symm h2)] at hd
      rw [if_neg h1, if_neg h2] at hβ
      exact h.inj c d bl bl' hc' hd ha1 ha2 hβ
  · have := h.fzlt k hk
    simp [Setup.move]; omega

/-! ### cells -/
def oneV : Value → Bool
  | .agg _ | .tuple _ => false
  | _ => true
theorem oneV_eq (v : Value) : oneV v = v.oneCell' := by cases v <;> rfl
/-- A value of one cell. -/
def AV.one : AV → Bool
  | .agg _ | .tup _ => false
  | .p (.v x) => oneV x
  | _ => true
theorem VR.one {S : Setup} : ∀ {x : AV} {y : Value}, x.one = true → VR S x y → y.oneCell' = true := by
  intro x y h hv
  cases x with
  | p x =>
    cases x with
    | v u => rw [show y = u from hv, ← oneV_eq]; exact h
    | list sz t xs => obtain ⟨a, len, cap, rfl, _⟩ := hv; rfl
  | agg cs => simp [AV.one] at h
  | tup cs => simp [AV.one] at h
  | ptr b ver off => obtain ⟨⟨a, rfl, _⟩, _⟩ := hv; rfl
  | fp cs => obtain ⟨ad, rfl, _⟩ := hv; rfl
  | sl b ver off len sz => obtain ⟨ad, cap, rfl, _⟩ := hv; rfl
  | fn f caps => obtain ⟨ys, rfl, _⟩ := hv; rfl
  | iface t x => obtain ⟨z, rfl, _⟩ := hv; rfl
end Go.Proofs.YtlkphnhlibpngaaGreat.Abs
