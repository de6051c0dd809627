/- Abs, part 20: arguments that read as data, as lists; a statement's row out of a contract. -/
import Derived.Test.YtlkphnhlibpngaaGreatAbsRows
import Derived.WalkKit
import Derived.ProofKit
import Derived.OpenShut
import Derived.SizedLaws
import Derived.ChangeArms
set_option linter.unusedVariables false
set_option linter.unusedSimpArgs false
namespace Go.Proofs.YtlkphnhlibpngaaGreat.Abs
open Go

/-- What a cell is, by its type. -/
inductive CTy where
  | int (k : IntKind)
  | bool
  | str
  | slice (e : List CTy)

def flds (P : Program) (g : TypeId → Option (List CTy)) : Nat → List Field → Option (List CTy)
  | _, [] => some []
  | off, f :: fs => if f.offset = off then (match g f.type with
    | some c => if c.length = P.cellsOf f.type then (flds P g (off + c.length) fs).map (c ++ ·) else none
    | none => none) else none
def shp (P : Program) : Nat → TypeId → Option (List CTy)
  | 0, _ => none
  | n + 1, t => match P.underlying t with
    | some .bool => some [.bool]
    | some (.int k) => some [.int k]
    | some .string => some [.str]
    | some (.slice e) => match shp P n e with
      | some c => if c.length = P.cellsOf e ∧ 0 < c.length ∧ 0 < P.bytesOf e then some [.slice c] else none
      | none => none
    | some (.struct fs) => match flds P (shp P n) 0 fs.toList with
      | some c => if c.length = P.cellsOf t then some c else none
      | none => none
    | _ => none

mutual
def Fits : PV → CTy → Prop
  | .v (.int k' n), .int k => k' = k ∧ (Lit.int k n).wf = true
  | .v (.bool _), .bool => True
  | .v (.string s), .str => s.size ≤ 140737488351232
  | .list sz t xs, .slice e => sz = e.length ∧ t = false ∧ FitRows xs e
  | _, _ => False
def FitAll : List PV → List CTy → Prop
  | [], [] => True
  | x :: xs, c :: cs => Fits x c ∧ FitAll xs cs
  | _, _ => False
def FitRows : List (List PV) → List CTy → Prop
  | [], _ => True
  | x :: xs, e => FitAll x e ∧ FitRows xs e
end
theorem FitAll.append : ∀ {xs : List PV} {cs : List CTy} {ys : List PV} {ds : List CTy}, FitAll xs cs → FitAll ys ds → FitAll (xs ++ ys) (cs ++ ds)
  | [], [], _, _, _, h => h
  | x :: xs, c :: cs, _, _, h, g => ⟨h.1, FitAll.append h.2 g⟩
  | [], _ :: _, _, _, h, _ => h.elim
  | _ :: _, [], _, _, h, _ => h.elim
theorem FitAll.length : ∀ {xs : List PV} {cs : List CTy}, FitAll xs cs → xs.length = cs.length
  | [], [], _ => rfl
  | x :: xs, c :: cs, h => by simp [FitAll.length h.2]
  | [], _ :: _, h => h.elim
  | _ :: _, [], h => h.elim

/-- The values vs stand for the list xs. -/
def RD (w : World) : List Value → List PV → Prop
  | [], [] => True
  | v :: vs, x :: xs => PR w (fun k => k < w.heap.size) x v ∧ v.oneCell' = true ∧ RD w vs xs
  | _, _ => False
theorem RD.append {w : World} : ∀ {vs : List Value} {xs : List PV} {us : List Value} {ys : List PV}, RD w vs xs → RD w us ys → RD w (vs ++ us) (xs ++ ys)
  | [], [], _, _, _, h => h
  | v :: vs, x :: xs, _, _, h, g => ⟨h.1, h.2.1, RD.append h.2.2 g⟩
  | [], _ :: _, _, _, h, _ => h.elim
  | _ :: _, [], _, _, h, _ => h.elim
theorem RD.PRC {w : World} : ∀ {vs : List Value} {xs : List PV} {ad : Addr}, ad.spot = none → RD w vs xs → (∀ j v, vs[j]? = some v → w.cell? (ad.add j) = some v) → PRC w (fun k => k < w.heap.size) xs ad
  | [], [], _, _, _, _ => trivial
  | v :: vs, x :: xs, ad, hs, h, hc => ⟨⟨v, hc 0 v rfl, h.1, h.2.1⟩, RD.PRC (add_spot 1 hs) h.2.2 fun j u hu => by rw [add_add _ _ hs, Nat.add_comm]; exact hc (j + 1) u (by simpa using hu)⟩
  | [], _ :: _, _, _, h, _ => h.elim
  | _ :: _, [], _, _, h, _ => h.elim
theorem RD.VRs {S : Setup} (hf : S.fz = fun k => k < S.w.heap.size) : ∀ {vs : List Value} {xs : List PV}, RD S.w vs xs → VRs S (xs.map .p) vs
  | [], [], _ => rfl
  | v :: vs, x :: xs, h => ⟨v, vs, rfl, by show PR S.w S.fz x v; rw [hf]; exact h.1, RD.VRs hf h.2.2⟩
  | [], _ :: _, h => h.elim
  | _ :: _, [], h => h.elim

theorem cells_get {w : World} {a : Addr} {n : Nat} {cs : List Value} (h : w.cells? 0 a n = some cs) : cs.length = n ∧ ∀ j v, cs[j]? = some v → w.cell? (a.add j) = some v := by
  unfold World.cells? at h
  rw [if_pos (Nat.zero_le _)] at h
  have key : ∀ (l : List Nat) (cs : List Value), (l.mapM fun i => w.cell? (a.add i)) = some cs → cs.length = l.length ∧ ∀ (j i : Nat) v, l[j]? = some i → cs[j]? = some v → w.cell? (a.add i) = some v := by
    intro l
    induction l with
    | nil => intro cs h; simp at h; subst h; simp
    | cons i l ih =>
      intro cs h
      rw [List.mapM_cons] at h
      cases hi : w.cell? (a.add i) with
      | none => rw [hi] at h; simp at h
      | some u =>
        rw [hi] at h
        cases hm : (l.mapM fun i => w.cell? (a.add i)) with
        | none => simp [hm] at h
        | some us =>
          simp [hm] at h
          subst h
          obtain ⟨h1, h2⟩ := ih us hm
          refine ⟨by simp [h1], fun j i' v hj hv => ?_⟩
          cases j with
          | zero => simp at hj hv; subst hj; subst hv; exact hi
          | succ j => simp at hj hv; exact h2 j i' v hj hv
  obtain ⟨h1, h2⟩ := key _ _ h
  rw [List.length_range] at h1
  refine ⟨h1, fun j v hv => h2 j j v ?_ hv⟩
  have := (List.getElem?_eq_some_iff.1 hv).1
  rw [List.getElem?_range (by omega)]

section
variable {H : Type} {enc : TypeId × Value → H} {P : Program} {w : World}

theorem weights_all {e : TypeId} : ∀ {ds : List (DataW H)}, (DataW.weightsAll P e ds).all (· ≤ reachBytes) = true → ∀ d ∈ ds, (d.weights P e).all (· ≤ reachBytes) = true
  | [], _, d, hd => by simp at hd
  | x :: ds, h, d, hd => by
    simp only [DataW.weightsAll, List.all_append, Bool.and_eq_true] at h
    rcases List.mem_cons.1 hd with rfl | hd
    · exact h.1
    · exact weights_all h.2 d hd

theorem trod_flds {n : Nat} (ih : ∀ (t : TypeId) (c : List CTy), shp P n t = some c → ∀ (fuel : Nat) (cs : List Value) (d : DataW H) (ps : List MemPlace), DataW.trod enc P w 0 (fun _ => true) true fuel t cs = some (d, ps) → (d.weights P t).all (· ≤ reachBytes) = true → ∃ xs, RD w cs xs ∧ FitAll xs c) (m : Nat) (cs : List Value) :
    ∀ (fs : List Field) (off : Nat) (c : List CTy) (ys : List (DataW H × List MemPlace)), flds P (shp P n) off fs = some c →
      ys.length = fs.length → (∀ (i : Nat) (f : Field), fs[i]? = some f → DataW.trod enc P w 0 (fun _ => true) true m f.type ((cs.drop f.offset).take (P.cellsOf f.type)) = ys[i]?) →
      (DataW.weightsEach P (fs.map (·.type)) (ys.map (·.1))).all (· ≤ reachBytes) = true → off + c.length ≤ cs.length → ∃ xs, RD w ((cs.drop off).take c.length) xs ∧ FitAll xs c
  | [], off, c, ys, h, _, _, _, _ => by
    simp only [flds, Option.some.injEq] at h
    subst h
    exact ⟨[], by simp [RD], trivial⟩
  | f :: fs, off, c, [], _, hl, _, _, _ => by simp at hl
  | f :: fs, off, c, y :: ys, h, hl, hg, hw, hlen => by
    simp only [flds] at h
    split at h
    case isFalse => simp at h
    rename_i hoff
    split at h
    case h_2 => simp at h
    rename_i c1 hc1
    split at h
    case isFalse => simp at h
    rename_i hcl
    obtain ⟨c2, hc2, rfl⟩ := Option.map_eq_some_iff.1 h
    simp only [List.map_cons, DataW.weightsEach, List.all_append, Bool.and_eq_true] at hw
    have h0 := hg 0 f rfl
    simp only [List.getElem?_cons_zero] at h0
    rw [List.length_append] at hlen
    obtain ⟨x1, r1, f1⟩ := ih _ _ hc1 _ _ _ _ h0 hw.1
    obtain ⟨x2, r2, f2⟩ := trod_flds ih m cs fs (off + c1.length) c2 ys hc2 (by simpa using hl) (fun i g hi => by simpa using hg (i + 1) g (by simpa using hi)) hw.2 (by omega)
    refine ⟨x1 ++ x2, ?_, f1.append f2⟩
    have : (cs.drop off).take (c1 ++ c2).length = (cs.drop f.offset).take (P.cellsOf f.type) ++ (cs.drop (off + c1.length)).take c2.length := by
      rw [hoff, ← hcl, List.length_append, List.take_add, List.drop_drop]
    rw [this]
    exact r1.append r2

theorem trod_reads : ∀ (n : Nat) (t : TypeId) (c : List CTy), shp P n t = some c → ∀ (fuel : Nat) (cs : List Value) (d : DataW H) (ps : List MemPlace), DataW.trod enc P w 0 (fun _ => true) true fuel t cs = some (d, ps) →
    (d.weights P t).all (· ≤ reachBytes) = true → ∃ xs, RD w cs xs ∧ FitAll xs c
  | 0, t, c, h, _, _, _, _, _, _ => by simp [shp] at h
  | n + 1, t, c, h, fuel, cs, d, ps, ht, hw => by
    simp only [shp] at h
    split at h
    · rename_i hu
      obtain ⟨b, rfl, e⟩ := DataW.trod_bool hu ht
      obtain rfl := Option.some.inj h
      exact ⟨[.v (.bool b)], ⟨rfl, rfl, trivial⟩, trivial, trivial⟩
    · rename_i k hu
      obtain ⟨m, rfl, e, hwf⟩ := DataW.trod_int hu ht
      obtain rfl := Option.some.inj h
      exact ⟨[.v (.int k m)], ⟨rfl, rfl, trivial⟩, ⟨rfl, hwf⟩, trivial⟩
    · rename_i hu
      obtain ⟨s, rfl, e, _⟩ := DataW.trod_string hu ht
      obtain rfl := Option.some.inj h
      obtain ⟨rfl, _⟩ := Prod.mk.inj e
      simp only [DataW.weights, List.all_cons, List.all_nil, Bool.and_true, decide_eq_true_eq] at hw
      refine ⟨[.v (.string s)], ⟨rfl, rfl, trivial⟩, ?_, trivial⟩
      show s.size ≤ _
      rw [Array.length_toList] at hw
      exact hw
    · rename_i e hu
      split at h
      case h_2 => simp at h
      rename_i c1 hc1
      split at h
      case isFalse => simp at h
      rename_i hcc
      obtain ⟨hcl, hc0, hb0⟩ := hcc
      obtain rfl := Option.some.inj h
      rcases DataW.trod_slice hu ht with ⟨rfl, e1⟩ | ⟨a, len, cap, elems, rest, m, rfl, rfl, e1, _, hlc, hcap, hlen, hel, _, _⟩
      · exact ⟨[.list c1.length false []], ⟨⟨none, 0, 0, rfl, rfl, Nat.le_refl _, by omega, fun h => by simp at h, trivial⟩, rfl, trivial⟩, ⟨rfl, rfl, trivial⟩, trivial⟩
      · obtain ⟨rfl, _⟩ := Prod.mk.inj e1
        simp only [DataW.weights, hu, List.all_cons, List.all_append, Bool.and_eq_true, decide_eq_true_eq, List.length_map] at hw
        have h48 : len ≤ 281474976710656 := by
          have h1 : elems.length * 1 ≤ (elems.length + rest.length) * P.bytesOf e := Nat.mul_le_mul (by omega) hb0
          have h2 := hw.1
          unfold reachBytes at h2
          omega
        have hrow : ∀ i, i < len → ∃ csi xi, w.cells? 0 (a.add (i * c1.length)) c1.length = some csi ∧ RD w csi xi ∧ FitAll xi c1 := by
          intro i hi
          have h1 := hel i hi
          rw [List.getElem?_eq_getElem (by omega), ← hcl] at h1
          cases hcs : w.cells? 0 (a.add (i * c1.length)) c1.length with
          | none => rw [hcs] at h1; simp at h1
          | some csi =>
            rw [hcs, Option.bind_some] at h1
            have hwi := weights_all hw.2.1 (elems[i]).1 (List.mem_map.2 ⟨_, List.getElem_mem (by omega), rfl⟩)
            obtain ⟨xi, r1, r2⟩ := trod_reads n e c1 hc1 m csi elems[i].1 elems[i].2 h1 hwi
            exact ⟨csi, xi, rfl, r1, r2⟩
        have hspot : 0 < len → a.spot = none := by
          intro h0
          obtain ⟨csi, xi, hcs, _, _⟩ := hrow 0 h0
          obtain ⟨g1, g2⟩ := cells_get hcs
          have h1 := g2 0 (csi[0]'(by omega)) (List.getElem?_eq_getElem (by omega))
          rw [Nat.zero_mul] at h1
          have h2 : w.cell? a = some (csi[0]'(by omega)) := h1
          unfold World.cell? at h2
          split at h2
          · split at h2
            · simp at h2
            · rename_i hs; cases hsp : a.spot with
              | none => rfl
              | some q => rw [hsp] at hs; simp at hs
          · simp at h2
        have build : ∀ (k i : Nat), i + k = len → ∃ xs : List (List PV), xs.length = k ∧ PRR w (fun b => b < w.heap.size) c1.length xs (some (a.add (i * c1.length))) ∧ FitRows xs c1 := by
          intro k
          induction k with
          | zero => intro i _; exact ⟨[], rfl, trivial, trivial⟩
          | succ k ihk =>
            intro i hik
            obtain ⟨xs, l1, l2, l3⟩ := ihk (i + 1) (by omega)
            obtain ⟨csi, xi, hcs, r1, r2⟩ := hrow i (by omega)
            obtain ⟨g1, g2⟩ := cells_get hcs
            have hs := hspot (by omega)
            have hs' := add_spot (i * c1.length) hs
            refine ⟨xi :: xs, by simp [l1], ⟨_, rfl, hs', ?_, r2.length, r1.PRC hs' g2, ?_⟩, r2, l3⟩
            · show (a.add (i * c1.length)).block < w.heap.size
              have h1 := g2 0 (csi[0]'(by omega)) (List.getElem?_eq_getElem (by omega))
              rw [add_zero'] at h1
              unfold World.cell? at h1
              split at h1
              · rename_i hh; exact (Array.getElem?_eq_some_iff.1 hh).1
              · simp at h1
            · rw [add_add _ _ hs, ← Nat.succ_mul]; exact l2
        obtain ⟨xs, l1, l2, l3⟩ := build len 0 (by omega)
        rw [Nat.zero_mul, add_zero'] at l2
        exact ⟨[.list c1.length false xs], ⟨⟨some a, len, cap, rfl, l1.symm, hlc, h48, fun h => by simp at h, l2⟩, rfl, trivial⟩, ⟨rfl, rfl, l3⟩, trivial⟩
    · rename_i fs hu
      split at h
      case h_2 => simp at h
      rename_i c1 hc1
      split at h
      case isFalse => simp at h
      rename_i hcl
      obtain rfl := Option.some.inj h
      obtain ⟨ys, m, rfl, e1, hl, hyl, hg⟩ := DataW.trod_struct hu ht
      obtain ⟨rfl, _⟩ := Prod.mk.inj e1
      simp only [DataW.weights, hu] at hw
      obtain ⟨xs, r1, r2⟩ := trod_flds (fun t c hc fuel cs d ps h1 h2 => trod_reads n t c hc fuel cs d ps h1 h2) m cs fs.toList 0 c1 ys hc1 (by rw [hyl]; simp) (fun i f hf => hg i f (by simpa using hf)) hw (by omega)
      refine ⟨xs, ?_, r2⟩
      rwa [List.drop_zero, List.take_of_length_le (by omega)] at r1
    · simp at h
end
end Go.Proofs.YtlkphnhlibpngaaGreat.Abs
