/- Abs, part 1: the abstract memory. Slices that are only read are Lean lists; blocks that are written have names of their own. What it means that an abstract value stands for one of the model's. -/
import Derived.Orders
import Derived.Below
import Derived.Laws.Cells
import Derived.Laws.Rows
import Derived.Laws.CopyRow
import Derived.Laws.Pointers
import Derived.Laws.Small
import Derived.Laws.Unary
import Derived.Laws.Slices
import Derived.Laws.AppendOwn
import Derived.Laws.MakeOwn
set_option linter.unusedVariables false
set_option linter.unusedSimpArgs false
namespace Go.Proofs.YtlkphnhlibpngaaGreat.Abs
open Go

/-- A value that leads to nothing that is written. -/
inductive PV where
  | v (x : Value)
  | list (sz : Nat) (tight : Bool) (xs : List (List PV))

inductive AV where
  | p (x : PV)
  | agg (cs : List AV)
  | tup (cs : List AV)
  | ptr (b ver off : Nat)
  | fp (cs : List PV)
  | sl (b ver off len sz : Nat)
  | fn (f : FuncId) (caps : List AV)
  | iface (t : TypeId) (x : AV)

instance : Inhabited PV := ⟨.v undef⟩
instance : Inhabited AV := ⟨.p (.v undef)⟩

structure Blk where
  cells : List AV
  cur : Nat
  alive : Bool

abbrev Mem := List Blk

def Blk.dead (n : Nat) : Blk := ⟨[], n, false⟩
def Blk.box (cs : List AV) : Blk := ⟨cs, 0, true⟩

structure Setup where
  m : Mem
  w : World
  β : Nat → Nat
  cap : Nat → Nat
  fz : Nat → Prop

/-! ### values that are only read -/
mutual
def PR (w : World) (fz : Nat → Prop) : PV → Value → Prop
  | .v x, y => y = x
  | .list sz tight xs, y => ∃ a len cap, y = .slice a len cap ∧ len = xs.length ∧ len ≤ cap ∧ len ≤ 281474976710656 ∧ (tight = true → cap = len) ∧ PRR w fz sz xs a
def PRR (w : World) (fz : Nat → Prop) (sz : Nat) : List (List PV) → Option Addr → Prop
  | [], _ => True
  | x :: xs, a => ∃ ad, a = some ad ∧ ad.spot = none ∧ fz ad.block ∧ x.length = sz ∧ PRC w fz x ad ∧ PRR w fz sz xs (some (ad.add sz))
def PRC (w : World) (fz : Nat → Prop) : List PV → Addr → Prop
  | [], _ => True
  | c :: cs, ad => (∃ y, w.cell? ad = some y ∧ PR w fz c y ∧ y.oneCell' = true) ∧ PRC w fz cs (ad.add 1)
end

theorem add_spot {a : Addr} (n : Nat) (h : a.spot = none) : (a.add n).spot = none := by
  unfold Addr.add; split <;> simp_all
theorem add_block (a : Addr) (n : Nat) : (a.add n).block = a.block := by
  unfold Addr.add; split <;> rfl
theorem add_off {a : Addr} (n : Nat) : (a.add n).off = a.off + n := by
  unfold Addr.add; split <;> simp_all
theorem add_eq {a : Addr} (n : Nat) (h : a.spot = none) : a.add n = ⟨a.block, a.off + n, none⟩ := by
  unfold Addr.add; split
  · obtain ⟨b, o, s⟩ := a; simp_all
  · rfl
theorem add_add {a : Addr} (n k : Nat) (h : a.spot = none) : (a.add n).add k = a.add (n + k) := by
  rw [add_eq n h, add_eq _ h, add_eq _ rfl]; simp [Nat.add_assoc]
theorem add_zero' (a : Addr) : a.add 0 = a := rfl

mutual
theorem PR.mono {w w' : World} {fz fz' : Nat → Prop} (h : ∀ k, fz k → fz' k ∧ w'.heap[k]? = w.heap[k]?) :
    ∀ (x : PV) (y : Value), PR w fz x y → PR w' fz' x y
  | .v x, y, hx => hx
  | .list sz tight xs, y, hx => by
    obtain ⟨a, len, cap, h1, h2, h3, h4, h5, h6⟩ := hx
    exact ⟨a, len, cap, h1, h2, h3, h4, h5, PRR.mono h sz xs a h6⟩
theorem PRR.mono {w w' : World} {fz fz' : Nat → Prop} (h : ∀ k, fz k → fz' k ∧ w'.heap[k]? = w.heap[k]?) (sz : Nat) :
    ∀ (xs : List (List PV)) (a : Option Addr), PRR w fz sz xs a → PRR w' fz' sz xs a
  | [], _, _ => trivial
  | x :: xs, a, hx => by
    obtain ⟨ad, h1, h2, h3, h4, h5, h6⟩ := hx
    exact ⟨ad, h1, h2, (h _ h3).1, h4, PRC.mono h x ad h3 h5, PRR.mono h sz xs _ h6⟩
theorem PRC.mono {w w' : World} {fz fz' : Nat → Prop} (h : ∀ k, fz k → fz' k ∧ w'.heap[k]? = w.heap[k]?) :
    ∀ (cs : List PV) (ad : Addr), fz ad.block → PRC w fz cs ad → PRC w' fz' cs ad
  | [], _, _, _ => trivial
  | c :: cs, ad, hf, hx => by
    obtain ⟨⟨y, h1, h2, h4⟩, h3⟩ := hx
    exact ⟨⟨y, by rw [World.cell?_of_block (h _ hf).2]; exact h1, PR.mono h c y h2, h4⟩, PRC.mono h cs _ (by rw [add_block]; exact hf) h3⟩
end

/-- The cells from an address on, as a list. -/
theorem PRC.get {w : World} {fz : Nat → Prop} : ∀ {cs : List PV} {ad : Addr}, ad.spot = none → PRC w fz cs ad → ∀ {i : Nat} {c : PV}, cs[i]? = some c →
    ∃ y, w.cell? (ad.add i) = some y ∧ PR w fz c y ∧ y.oneCell' = true
  | [], _, _, _, i, c, hc => by simp at hc
  | c :: cs, ad, hs, h, 0, d, hd => by
    simp at hd; subst hd; exact h.1
  | c :: cs, ad, hs, h, i + 1, d, hd => by
    have := PRC.get (add_spot 1 hs) h.2 (i := i) (c := d) (by simpa using hd)
    rwa [add_add _ _ hs, Nat.add_comm] at this
theorem PRC.drop {w : World} {fz : Nat → Prop} : ∀ {cs : List PV} {ad : Addr} (n : Nat), ad.spot = none → PRC w fz cs ad → PRC w fz (cs.drop n) (ad.add n)
  | cs, ad, 0, _, h => h
  | [], _, n + 1, _, _ => trivial
  | c :: cs, ad, n + 1, hs, h => by
    have := PRC.drop n (add_spot 1 hs) h.2
    rwa [add_add _ _ hs, Nat.add_comm] at this
theorem PRC.take {w : World} {fz : Nat → Prop} : ∀ {cs : List PV} {ad : Addr} (n : Nat), PRC w fz cs ad → PRC w fz (cs.take n) ad
  | _, _, 0, _ => by simp only [List.take_zero]; trivial
  | [], _, n + 1, _ => trivial
  | c :: cs, ad, n + 1, h => ⟨h.1, PRC.take n h.2⟩
/-- All of n cells, the values themselves. -/
theorem PRC.vals {w : World} {fz : Nat → Prop} : ∀ {cs : List PV} {ad : Addr}, ad.spot = none → PRC w fz cs ad →
    ∃ ys : List Value, ys.length = cs.length ∧ (∀ (j : Nat) v, ys[j]? = some v → w.cell? (ad.add j) = some v) ∧ (∀ (j : Nat) c v, cs[j]? = some c → ys[j]? = some v → PR w fz c v) ∧ (∀ v ∈ ys, v.oneCell' = true)
  | [], _, _, _ => ⟨[], rfl, by simp, by simp, by simp⟩
  | c :: cs, ad, hs, h => by
    obtain ⟨⟨y, hy, hc, ho⟩, ht⟩ := h
    obtain ⟨ys, h1, h2, h3, h4⟩ := PRC.vals (add_spot 1 hs) ht
    refine ⟨y :: ys, by simp [h1], ?_, ?_, ?_⟩
    · intro j v hj
      cases j with
      | zero => simp at hj; subst hj; exact hy
      | succ j => simp at hj; have := h2 j v hj; rwa [add_add _ _ hs, Nat.add_comm] at this
    · intro j d v hd hj
      cases j with
      | zero => simp at hj hd; subst hj; subst hd; exact hc
      | succ j => simp at hj hd; exact h3 j d v hd hj
    · intro v hv
      rcases List.mem_cons.1 hv with rfl | hv
      · exact ho
      · exact h4 v hv
theorem PRC.mk {w : World} {fz : Nat → Prop} : ∀ {cs : List PV} {ys : List Value} {ad : Addr}, ad.spot = none → ys.length = cs.length → (∀ (j : Nat) v, ys[j]? = some v → w.cell? (ad.add j) = some v) →
    (∀ (j : Nat) c v, cs[j]? = some c → ys[j]? = some v → PR w fz c v) → (∀ v ∈ ys, v.oneCell' = true) → PRC w fz cs ad
  | [], _, _, _, _, _, _, _ => trivial
  | c :: cs, [], _, _, hl, _, _, _ => by simp at hl
  | c :: cs, y :: ys, ad, hs, hl, h1, h2, h3 => ⟨⟨y, h1 0 y rfl, h2 0 c y rfl rfl, h3 y (by simp)⟩, PRC.mk (add_spot 1 hs) (by simpa using hl)
      (fun j v hj => by rw [add_add _ _ hs, Nat.add_comm]; exact h1 (j + 1) v (by simpa using hj)) (fun j d v hd hj => h2 (j + 1) d v (by simpa using hd) (by simpa using hj)) (fun v hv => h3 v (by simp [hv]))⟩
theorem PRR.get {w : World} {fz : Nat → Prop} {sz : Nat} : ∀ {xs : List (List PV)} {a : Option Addr}, PRR w fz sz xs a → ∀ {i : Nat} {x : List PV}, xs[i]? = some x →
    ∃ ad, a = some ad ∧ ad.spot = none ∧ fz ad.block ∧ x.length = sz ∧ PRC w fz x (ad.add (i * sz))
  | [], _, _, i, x, hx => by simp at hx
  | x :: xs, a, h, 0, y, hy => by
    obtain ⟨ad, h1, h2, h3, h4, h5, h6⟩ := h
    simp at hy; subst hy
    exact ⟨ad, h1, h2, h3, h4, by simpa [Addr.add] using h5⟩
  | x :: xs, a, h, i + 1, y, hy => by
    obtain ⟨ad, h1, h2, h3, h4, h5, h6⟩ := h
    obtain ⟨ad', g1, g2, g3, g4, g5⟩ := PRR.get h6 (i := i) (x := y) (by simpa using hy)
    obtain rfl := Option.some.inj g1
    refine ⟨ad, h1, h2, h3, g4, ?_⟩
    rw [add_add _ _ h2] at g5
    rwa [show (i + 1) * sz = sz + i * sz by rw [Nat.succ_mul, Nat.add_comm]]
theorem PRR.drop {w : World} {fz : Nat → Prop} {sz : Nat} : ∀ {xs : List (List PV)} {ad : Addr} (n : Nat), ad.spot = none → PRR w fz sz xs (some ad) → PRR w fz sz (xs.drop n) (some (ad.add (n * sz)))
  | xs, ad, 0, _, h => by simpa [Addr.add] using h
  | [], _, n + 1, _, _ => trivial
  | x :: xs, ad, n + 1, hs, h => by
    obtain ⟨ad', h1, h2, h3, h4, h5, h6⟩ := h
    obtain rfl := Option.some.inj h1
    have := PRR.drop n (add_spot sz hs) h6
    rw [add_add _ _ hs] at this
    rwa [show (n + 1) * sz = sz + n * sz by rw [Nat.succ_mul, Nat.add_comm]]
theorem PRR.take {w : World} {fz : Nat → Prop} {sz : Nat} : ∀ {xs : List (List PV)} {a : Option Addr} (n : Nat), PRR w fz sz xs a → PRR w fz sz (xs.take n) a
  | _, _, 0, _ => by simp only [List.take_zero]; trivial
  | [], _, n + 1, _ => trivial
  | x :: xs, a, n + 1, h => by
    obtain ⟨ad, h1, h2, h3, h4, h5, h6⟩ := h
    exact ⟨ad, h1, h2, h3, h4, h5, PRR.take n h6⟩

/-! ### all values -/
mutual
def VR (S : Setup) : AV → Value → Prop
  | .p x, y => PR S.w S.fz x y
  | .agg cs, y => ∃ ys : List Value, y = .agg ys.toArray ∧ VRs S cs ys
  | .tup cs, y => ∃ ys : List Value, y = .tuple ys.toArray ∧ VRs S cs ys
  | .ptr b ver off, y => (∃ ad : Addr, y = .pointer (some ad) ∧ ad.spot = none) ∧ ∃ blk, S.m[b]? = some blk ∧ ver ≤ blk.cur ∧ (blk.alive = true → ver = blk.cur → y = .pointer (some ⟨S.β b, off, none⟩))
  | .fp cs, y => ∃ ad, y = .pointer (some ad) ∧ ad.spot = none ∧ S.fz ad.block ∧ PRC S.w S.fz cs ad
  | .sl b ver off len sz, y => ∃ ad cap, y = .slice (some ad) len cap ∧ ad.spot = none ∧ len ≤ cap ∧ len ≤ 281474976710656 ∧ ∃ blk, S.m[b]? = some blk ∧ ver ≤ blk.cur ∧
      (blk.alive = true → ver = blk.cur → ad = ⟨S.β b, off, none⟩ ∧ off + cap * sz ≤ S.cap b ∧ cap ≤ 9223372036854775807)
  | .fn f caps, y => ∃ ys : List Value, y = .func (.func f) #[] ys.toArray ∧ VRs S caps ys
  | .iface t x, y => ∃ z, y = .iface t z ∧ VR S x z
def VRs (S : Setup) : List AV → List Value → Prop
  | [], ys => ys = []
  | c :: cs, ys => ∃ z zs, ys = z :: zs ∧ VR S c z ∧ VRs S cs zs
end

def Setup.Owned (S : Setup) (k : Nat) : Prop := ∃ b blk, S.m[b]? = some blk ∧ blk.alive = true ∧ S.β b = k

/-- What a living block's cells are. -/
structure Lies (S : Setup) (b : Nat) (blk : Blk) : Prop where
  mk' ::
  lies : ∃ ys rest ty, S.w.heap[S.β b]? = some (.cells (ys ++ rest).toArray ty (0, 0)) ∧ VRs S blk.cells ys ∧ (ys ++ rest).length = S.cap b
  nofz : ¬ S.fz (S.β b)

structure Setup.WF (S : Setup) : Prop where
  lies : ∀ b blk, S.m[b]? = some blk → blk.alive = true → Lies S b blk
  inj : ∀ b c blk blk', S.m[b]? = some blk → S.m[c]? = some blk' → blk.alive = true → blk'.alive = true → S.β b = S.β c → b = c
  fzlt : ∀ k, S.fz k → k < S.w.heap.size

structure Ext (S S' : Setup) : Prop where
  os : S'.w.os = S.w.os
  tape : S'.w.tape = S.w.tape
  output : S'.w.output = S.w.output
  size : S.w.heap.size ≤ S'.w.heap.size
  blk : ∀ b blk, S.m[b]? = some blk → ∃ blk', S'.m[b]? = some blk' ∧ blk.cur ≤ blk'.cur ∧ (blk'.alive = true → blk'.cur = blk.cur → blk.alive = true ∧ S'.β b = S.β b ∧ S'.cap b = S.cap b)
  fz : ∀ k, S.fz k → S'.fz k ∧ S'.w.heap[k]? = S.w.heap[k]?
  kept : ∀ k, k < S.w.heap.size → ¬ S.Owned k → S'.w.heap[k]? = S.w.heap[k]?
  fresh : ∀ k, S'.Owned k → S.Owned k ∨ S.w.heap.size ≤ k
  thaw : ∀ k, S'.fz k → S.fz k ∨ S.Owned k ∨ S.w.heap.size ≤ k

theorem Ext.refl (S : Setup) : Ext S S :=
  ⟨rfl, rfl, rfl, Nat.le_refl _, fun b blk h => ⟨blk, h, Nat.le_refl _, fun h1 _ => ⟨h1, rfl, rfl⟩⟩, fun k h => ⟨h, rfl⟩, fun _ _ _ => rfl, fun _ h => .inl h, fun _ h => .inl h⟩

theorem Ext.trans {S S' S'' : Setup} (h : Ext S S') (g : Ext S' S'') : Ext S S'' := by
  refine ⟨g.os.trans h.os, g.tape.trans h.tape, g.output.trans h.output, Nat.le_trans h.size g.size, ?_, ?_, ?_, ?_, ?_⟩
  · intro b blk hb
    obtain ⟨blk', h1, h2, h3⟩ := h.blk b blk hb
    obtain ⟨blk'', g1, g2, g3⟩ := g.blk b blk' h1
    refine ⟨blk'', g1, Nat.le_trans h2 g2, fun ha hc => ?_⟩
    obtain ⟨i1, i2, i3⟩ := g3 ha (by omega)
    obtain ⟨j1, j2, j3⟩ := h3 i1 (by omega)
    exact ⟨j1, i2.trans j2, i3.trans j3⟩
  · intro k hk
    obtain ⟨h1, h2⟩ := h.fz k hk
    obtain ⟨g1, g2⟩ := g.fz k h1
    exact ⟨g1, g2.trans h2⟩
  · intro k hk hn
    rw [g.kept k (Nat.lt_of_lt_of_le hk h.size) (fun ho => (h.fresh k ho).elim hn (fun h' => by omega)), h.kept k hk hn]
  · intro k ho
    rcases g.fresh k ho with h1 | h1
    · exact h.fresh k h1
    · exact .inr (Nat.le_trans h.size h1)
  · intro k hk
    rcases g.thaw k hk with h1 | h1 | h1
    · exact h.thaw k h1
    · exact .inr (h.fresh k h1)
    · exact .inr (.inr (Nat.le_trans h.size h1))

mutual
theorem VR.mono {S S' : Setup} (h : Ext S S') : ∀ (x : AV) (y : Value), VR S x y → VR S' x y
  | .p x, y, hx => PR.mono h.fz x y hx
  | .agg cs, y, hx => by
    obtain ⟨ys, h1, h2⟩ := hx
    exact ⟨ys, h1, VRs.mono h cs ys h2⟩
  | .tup cs, y, hx => by
    obtain ⟨ys, h1, h2⟩ := hx
    exact ⟨ys, h1, VRs.mono h cs ys h2⟩
  | .ptr b ver off, y, hx => by
    obtain ⟨h0, blk, h1, h2, h3⟩ := hx
    obtain ⟨blk', g1, g2, g3⟩ := h.blk b blk h1
    refine ⟨h0, blk', g1, Nat.le_trans h2 g2, fun ha hv => ?_⟩
    obtain ⟨i1, i2, i3⟩ := g3 ha (by omega)
    rw [i2]; exact h3 i1 (by omega)
  | .fp cs, y, hx => by
    obtain ⟨ad, h1, h2, h3, h4⟩ := hx
    exact ⟨ad, h1, h2, (h.fz _ h3).1, PRC.mono h.fz cs ad h3 h4⟩
  | .sl b ver off len sz, y, hx => by
    obtain ⟨ad, cap, e1, e2, e3, e4, blk, h1, h2, h3⟩ := hx
    obtain ⟨blk', g1, g2, g3⟩ := h.blk b blk h1
    refine ⟨ad, cap, e1, e2, e3, e4, blk', g1, Nat.le_trans h2 g2, fun ha hv => ?_⟩
    obtain ⟨i1, i2, i3⟩ := g3 ha (by omega)
    rw [i2, i3]; exact h3 i1 (by omega)
  | .fn f caps, y, hx => by
    obtain ⟨ys, h1, h2⟩ := hx
    exact ⟨ys, h1, VRs.mono h caps ys h2⟩
  | .iface t x, y, hx => by
    obtain ⟨z, h1, h2⟩ := hx
    exact ⟨z, h1, VR.mono h x z h2⟩
theorem VRs.mono {S S' : Setup} (h : Ext S S') : ∀ (cs : List AV) (ys : List Value), VRs S cs ys → VRs S' cs ys
  | [], ys, hx => hx
  | c :: cs, ys, hx => by
    obtain ⟨z, zs, h1, h2, h3⟩ := hx
    exact ⟨z, zs, h1, VR.mono h c z h2, VRs.mono h cs zs h3⟩
end

theorem VRs.length {S : Setup} : ∀ {cs : List AV} {ys : List Value}, VRs S cs ys → ys.length = cs.length
  | [], ys, h => by simp [VRs] at h; simp [h]
  | c :: cs, ys, h => by
    obtain ⟨z, zs, rfl, h2, h3⟩ := h
    simp [VRs.length h3]
theorem VRs.get {S : Setup} : ∀ {cs : List AV} {ys : List Value}, VRs S cs ys → ∀ {i : Nat} {c : AV}, cs[i]? = some c → ∃ y, ys[i]? = some y ∧ VR S c y
  | [], ys, h, i, c, hc => by simp at hc
  | c :: cs, ys, h, 0, d, hd => by
    obtain ⟨z, zs, rfl, h2, h3⟩ := h
    simp at hd; subst hd; exact ⟨z, by simp, h2⟩
  | c :: cs, ys, h, i + 1, d, hd => by
    obtain ⟨z, zs, rfl, h2, h3⟩ := h
    obtain ⟨y, h4, h5⟩ := VRs.get h3 (i := i) (c := d) (by simpa using hd)
    exact ⟨y, by simpa using h4, h5⟩
theorem VRs.mk {S : Setup} : ∀ {cs : List AV} {ys : List Value}, ys.length = cs.length → (∀ (i : Nat) c y, cs[i]? = some c → ys[i]? = some y → VR S c y) → VRs S cs ys
  | [], ys, hl, _ => by simpa [VRs] using hl
  | c :: cs, [], hl, _ => by simp at hl
  | c :: cs, y :: ys, hl, h => ⟨y, ys, rfl, h 0 c y rfl rfl, VRs.mk (by simpa using hl) (fun i d z hd hz => h (i + 1) d z (by simpa using hd) (by simpa using hz))⟩
theorem VRs.append {S : Setup} {cs ds : List AV} {ys zs : List Value} (h : VRs S cs ys) (g : VRs S ds zs) : VRs S (cs ++ ds) (ys ++ zs) := by
  refine VRs.mk (by simp [h.length, g.length]) fun i c y hc hy => ?_
  by_cases hi : i < cs.length
  · rw [List.getElem?_append_left hi] at hc
    rw [List.getElem?_append_left (by rw [h.length]; exact hi)] at hy
    obtain ⟨y', h1, h2⟩ := h.get hc
    rw [h1] at hy; obtain rfl := Option.some.inj hy; exact h2
  · rw [List.getElem?_append_right (by omega)] at hc
    rw [List.getElem?_append_right (by rw [h.length]; omega), h.length] at hy
    obtain ⟨y', h1, h2⟩ := g.get hc
    rw [h1] at hy; obtain rfl := Option.some.inj hy; exact h2
theorem VRs.drop {S : Setup} {cs : List AV} {ys : List Value} (n : Nat) (h : VRs S cs ys) : VRs S (cs.drop n) (ys.drop n) := by
  refine VRs.mk (by simp [h.length]) fun i c y hc hy => ?_
  rw [List.getElem?_drop] at hc hy
  obtain ⟨y', h1, h2⟩ := h.get hc
  rw [h1] at hy; obtain rfl := Option.some.inj hy; exact h2
theorem VRs.take {S : Setup} {cs : List AV} {ys : List Value} (n : Nat) (h : VRs S cs ys) : VRs S (cs.take n) (ys.take n) := by
  refine VRs.mk (by simp [h.length]) fun i c y hc hy => ?_
  rw [List.getElem?_take] at hc hy
  split at hc
  · rename_i hi
    rw [if_pos hi] at hy
    obtain ⟨y', h1, h2⟩ := h.get hc
    rw [h1] at hy; obtain rfl := Option.some.inj hy; exact h2
  · simp at hc
theorem VRs.of_append {S : Setup} {cs ds : List AV} {ys : List Value} (h : VRs S (cs ++ ds) ys) : ∃ us vs, ys = us ++ vs ∧ VRs S cs us ∧ VRs S ds vs := by
  refine ⟨ys.take cs.length, ys.drop cs.length, (List.take_append_drop _ _).symm, ?_, ?_⟩
  · have := h.take cs.length
    simpa using this
  · have := h.drop cs.length
    simpa using this
theorem VRs.pure {S : Setup} {cs : List PV} {ys : List Value} (hl : ys.length = cs.length) (h : ∀ (i : Nat) c y, cs[i]? = some c → ys[i]? = some y → PR S.w S.fz c y) : VRs S (cs.map .p) ys := by
  refine VRs.mk (by simp [hl]) fun i c y hc hy => ?_
  simp only [List.getElem?_map, Option.map_eq_some_iff] at hc
  obtain ⟨d, hd, rfl⟩ := hc
  exact h i d y hd hy

end Go.Proofs.YtlkphnhlibpngaaGreat.Abs
