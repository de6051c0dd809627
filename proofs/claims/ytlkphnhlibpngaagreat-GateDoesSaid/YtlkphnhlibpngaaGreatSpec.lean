/- The functions as plain ones, part 1: numbers, spans, what numbers a fabric may have. -/
import Derived.IntWalk
set_option linter.unusedVariables false
namespace Go.Proofs.YtlkphnhlibpngaaGreat.Abs
open Go

def Bound (x lo hi : Int) : Int := if x < lo ∨ hi < lo then lo else if hi < x then hi else x
def Most : Int := 2305843009213693952
def Clip (x : Int) : Int := Bound x (-Most) Most
def Add (xs : List Int) : Int := xs.foldl (fun n x => Clip (n + Clip x)) 0
def Sub (a b : Int) : Int := Clip (Clip a - Clip b)
def Neg (a : Int) : Int := -Clip a
def Abs (a : Int) : Int := if a < 0 then Neg a else Clip a
def Mul (a b : Int) : Int :=
  let x := Abs a
  let y := Abs b
  let p := if x = 0 ∨ y ≤ Most.tdiv x then x * y else Most
  if (decide (a < 0) != decide (b < 0)) = true then -p else p
def mx (a b : Int) : Int := if a < b then b else a
def mn (a b : Int) : Int := if b < a then b else a
def Max (xs : List Int) : Int := xs.foldl (fun n x => mx n (Clip x)) (-Most)

theorem clip_range (x : Int) : -Most ≤ Clip x ∧ Clip x ≤ Most := by
  unfold Clip Bound Most
  split
  · omega
  · split <;> omega
theorem clip_id {x : Int} (h1 : -Most ≤ x) (h2 : x ≤ Most) : Clip x = x := by
  unfold Clip Bound
  unfold Most at *
  rw [if_neg (by omega), if_neg (by omega)]
theorem bound_range {x lo hi : Int} (h : lo ≤ hi) : lo ≤ Bound x lo hi ∧ Bound x lo hi ≤ hi := by
  unfold Bound
  split
  · omega
  · split <;> omega
theorem bound_id {x lo hi : Int} (h1 : lo ≤ x) (h2 : x ≤ hi) : Bound x lo hi = x := by
  unfold Bound
  rw [if_neg (by omega), if_neg (by omega)]
theorem foldl_range {f : Int → Int → Int} (hf : ∀ n x, -Most ≤ n → n ≤ Most → -Most ≤ f n x ∧ f n x ≤ Most) : ∀ (xs : List Int) (n : Int), -Most ≤ n → n ≤ Most → -Most ≤ xs.foldl f n ∧ xs.foldl f n ≤ Most
  | [], n, h1, h2 => ⟨h1, h2⟩
  | x :: xs, n, h1, h2 => foldl_range hf xs _ (hf n x h1 h2).1 (hf n x h1 h2).2
theorem add_range (xs : List Int) : -Most ≤ Add xs ∧ Add xs ≤ Most :=
  foldl_range (fun n x _ _ => clip_range _) xs 0 (by unfold Most; omega) (by unfold Most; omega)
theorem sub_range (a b : Int) : -Most ≤ Sub a b ∧ Sub a b ≤ Most := clip_range _
theorem neg_range (a : Int) : -Most ≤ Neg a ∧ Neg a ≤ Most := by have := clip_range a; unfold Neg; omega
theorem abs_range (a : Int) : 0 ≤ Abs a ∧ Abs a ≤ Most := by
  have := clip_range a
  unfold Abs Neg
  split
  · rename_i h
    refine ⟨?_, by omega⟩
    unfold Clip Bound; unfold Most at *
    split
    · omega
    · split <;> omega
  · rename_i h
    refine ⟨?_, by omega⟩
    unfold Clip Bound; unfold Most at *
    split
    · omega
    · split <;> omega
theorem mul_in {x y : Int} (hx : 0 ≤ x) (hy : 0 ≤ y) (h : x = 0 ∨ y ≤ Most.tdiv x) : 0 ≤ x * y ∧ x * y ≤ Most := by
  refine ⟨Int.mul_nonneg hx hy, ?_⟩
  rcases h with rfl | h
  · unfold Most; omega
  · by_cases h0 : x = 0
    · subst h0; unfold Most; omega
    · have : 0 < x := by omega
      rw [Int.tdiv_eq_ediv_of_nonneg (by unfold Most; omega)] at h
      calc x * y ≤ x * (Most / x) := Int.mul_le_mul_of_nonneg_left h hx
        _ ≤ Most := Int.mul_ediv_self_le h0
theorem mul_range (a b : Int) : -Most ≤ Mul a b ∧ Mul a b ≤ Most := by
  have ha := abs_range a
  have hb := abs_range b
  have hp : 0 ≤ (if Abs a = 0 ∨ Abs b ≤ Most.tdiv (Abs a) then Abs a * Abs b else Most) ∧ (if Abs a = 0 ∨ Abs b ≤ Most.tdiv (Abs a) then Abs a * Abs b else Most) ≤ Most := by
    split
    · rename_i h; exact mul_in ha.1 hb.1 h
    · unfold Most; omega
  unfold Mul
  simp only
  split <;> omega
theorem max_range (xs : List Int) : -Most ≤ Max xs ∧ Max xs ≤ Most :=
  foldl_range (fun n x h1 h2 => by have := clip_range x; unfold mx; split <;> omega) xs _ (by unfold Most; omega) (by unfold Most; omega)
/-- 64 bits hold it. -/
theorem wrap_id {n : Int} (h1 : -9223372036854775808 ≤ n) (h2 : n ≤ 9223372036854775807) : IntKind.i64.wrap n = n := IntWalk.i64_in n ⟨h1, h2⟩

structure Span where
  lo : Int
  hi : Int
structure Params where
  n : Int
  f : Int
  d : Int
  beat : Int
  rho : Int
  delay : Int
  jitter : Int
  eps : Int
  mu : Int
  hold : Int
  pulse : Int
  second : Int
structure Stamp where
  time : Int
  num : Int
structure Leap where
  sec : Int
  off : Int
structure Msg where
  kind : Int
  frm : Int
  span : Span
  held : Int
  hops : Int
  good : Bool
  ref : Bool
  seen : Span
  pulse : Int
  stamp : Stamp
  table : List Leap
structure Heard where
  msg : Msg
  age : Int
structure State where
  span : Span
  time : Int
  set : Bool
  held : Int
  hops : Int
  good : Bool
  table : List Leap
  stamp : Stamp
  life : Int
structure Input where
  ticks : Int
  heard : List Heard
  ref : Bool
  reading : Int
  given : Bool
  table : List Leap

def w64 (n : Int) : Int := IntKind.i64.wrap n
def SpanOf (a b : Int) : Span := ⟨Clip a, Clip b⟩
def SpanAll : Span := ⟨-Most, Most⟩
def Empty (s : Span) : Bool := decide (s.hi < s.lo)
def Shift (s : Span) (a b : Int) : Span := ⟨Add [s.lo, a], Add [s.hi, b]⟩
def Mid (s : Span) : Int := (Clip s.lo + Clip s.hi).fdiv 2
def Way (p : Params) (s : Span) (age : Int) : Span := Shift s (Add [Sub p.delay p.jitter, age, Neg p.rho]) (Add [p.delay, age, p.rho])
def Hold (p : Params) (s : Span) (ticks : Int) : Span := Shift s (Sub ticks p.rho) (Add [ticks, p.rho])
def In (x lo hi : Int) : Bool := decide (lo ≤ x) && decide (x ≤ hi)
def Nodes (p : Params) : Bool := In p.n 1 16 && (In p.f 0 (w64 ((w64 (p.n - 1)).tdiv 3)) && In p.d 0 16)
def Ways (p : Params) : Bool := In p.beat 1 1099511627776 && (In p.rho 0 (w64 (p.beat.tdiv 8)) && (In p.delay 0 (w64 (p.beat.tdiv 2)) && In p.jitter 0 p.delay))
def Check (p : Params) : Int :=
  if (Nodes p && (Ways p && (In p.eps 0 1099511627776 && (In p.mu (w64 (p.rho + 1)) (w64 (p.beat.tdiv 4)) && (In p.hold (w64 (p.d + 2)) 1048576 && (In p.pulse 1 1099511627776 && In p.second 1 1099511627776)))))) = true then 0 else 1
def Hop (p : Params) : Int := Add [p.jitter, Mul 2 p.rho]
def LGate (p : Params) : Int := Mul 2 (Add [Mul 2 p.eps, Hop p])
def Width (p : Params) (held hops : Int) : Int := Add [LGate p, Mul (Mul 2 p.rho) held, Mul (Add [hops, 1]) (Hop p)]
def Far (p : Params) (held : Int) : Int := Mul 2 (Width p (Max [held, p.hold]) p.d)
def Seen (p : Params) (r : Int) : Span × Bool :=
  if (decide (1152921504606846976 < r) || (decide (r < -1152921504606846976) || decide (p.eps < 0))) = true then (⟨0, 0⟩, false) else (⟨Sub r p.eps, Add [r, p.eps]⟩, true)
def More (h : Int) : Int := Bound (Add [h, 1]) 0 1073741824

def Div (a c : Int) : Int × Int :=
  let x := Clip a
  let y := mx (Clip c) 1
  if x.tmod y < 0 then (x.tdiv y - 1, x.tmod y + y) else (x.tdiv y, x.tmod y)
def Number (p : Params) (t : Int) : Int := (Div t p.pulse).1
def Right (s : Stamp) : Bool := decide (-Most ≤ s.time) && (decide (s.time ≤ Most) && (decide (0 ≤ s.num) && decide (s.num ≤ 1073741824)))
def Next (s : Stamp) : Stamp := if 1073741824 ≤ s.num then ⟨Add [s.time, 1], 0⟩ else ⟨Clip s.time, mx s.num 0 + 1⟩
def Tick (c : Stamp) (now : Int) : Stamp := if c.time < Clip now then ⟨Clip now, 0⟩ else Next c
def Mend (c : Stamp) (now most : Int) : Stamp × Bool := if (Right c && decide (c.time ≤ most)) = true then (c, false) else (⟨Clip now, 0⟩, true)
def Slew (time : Int) (set : Bool) (p : Params) (ticks to : Int) (jump : Bool) : Int :=
  if (jump || !set) = true then Clip to else Add [Add [time, ticks], Bound (Sub to (Add [time, ticks])) (Neg p.mu) p.mu]
def WIn (lo hi : Int) (xs : List Int) : Bool := xs.all fun x => !(decide (x < lo) || decide (hi < x))
def TabBad (k : Nat) (off : Int) (prev l : Leap) : Bool :=
  decide (32 ≤ (k : Int)) || (!WIn 0 1099511627776 [l.sec] || (!WIn (-32) 32 [l.off] || ((decide (0 < (k : Int)) && decide (w64 (l.sec - prev.sec) < 86400)) || (!decide (w64 (l.off - off) = 1) && !decide (w64 (l.off - off) = -1)))))
def TabGo : Nat → Int → Leap → List Leap → Bool
  | _, _, _, [] => true
  | k, off, prev, l :: ls => if TabBad k off prev l = true then false else TabGo (k + 1) l.off l ls
def Table (t : List Leap) : Bool := TabGo 0 0 ⟨0, 0⟩ t
def Idx {α : Type} (p : α → Bool) : Nat → List α → Int
  | _, [] => -1
  | k, x :: xs => if p x = true then k else Idx p (k + 1) xs
theorem Idx_any {α : Type} (p : α → Bool) : ∀ (xs : List α) (k : Nat), decide (0 ≤ Idx p k xs) = xs.any p
  | [], k => by simp [Idx]
  | x :: xs, k => by
    simp only [Idx, List.any_cons]
    split
    · rename_i h; rw [h]; simp
    · rename_i h
      rw [Idx_any p xs (k + 1)]
      simp [h]
def DayBad (l : Leap) : Bool := !decide ((w64 (l.sec - l.off)).tmod 86400 = 0)
def LeapGood (t : List Leap) : Bool := Table t && !t.any DayBad
def Sane (p : Params) (s : State) : State :=
  { span := if Empty (SpanOf s.span.lo s.span.hi) = true then SpanAll else SpanOf s.span.lo s.span.hi
    time := Clip s.time
    set := s.set
    held := Bound s.held 0 1073741824
    hops := Bound s.hops 0 (Add [p.d, 1])
    good := if Empty (SpanOf s.span.lo s.span.hi) = true then false else s.good
    table := if LeapGood s.table = true then s.table else []
    stamp := if Right s.stamp = true then s.stamp else ⟨Clip s.time, 0⟩
    life := Bound s.life 0 Most }
def Of (p : Params) (s : State) : Int :=
  if (!s.good || (!s.set || decide (p.d < s.hops))) = true then 0 else if p.hold < s.held then 2 else 1
def Synced (p : Params) (s : State) : Int := if Of p s = 0 then 20 else 0
def PulseF (p : Params) (s : State) : Int × Int := if Of p s = 0 then (0, 20) else (Number p s.time, 0)
def NowF (p : Params) (s : State) : Int × Int := if Of p s = 0 then (0, 20) else (s.time, 0)
def MostT (p : Params) (s : State) : Int := Add [s.span.hi, Far p s.held]
def StampF (s : State) : State := { s with stamp := Tick s.stamp s.time }
def Jump (p : Params) (s : State) (ticks : Int) (next : State) : Bool :=
  decide (Of p s = 0) || decide (Far p next.held < Abs (Sub (Mid next.span) (Add [s.time, ticks])))
def Ct (p : Params) (s : State) (ticks : Int) (next : State) : Int := Slew s.time s.set p ticks (Mid next.span) (Jump p s ticks next)
def StepA (p : Params) (s : State) (ct : Int) (next : State) : State := { Sane p next with time := ct, set := true, stamp := s.stamp, life := Bound s.life 0 Most }
def StepB (p : Params) (s : State) (ct : Int) (next : State) : State := { StepA p s ct next with stamp := Tick (Mend s.stamp ct (MostT p (StepA p s ct next))).1 ct }
def StepC (p : Params) (s : State) (ct : Int) (next : State) : State :=
  if ((Mend s.stamp ct (MostT p (StepA p s ct next))).2 || decide (ct < s.time)) = true then { StepB p s ct next with life := Bound (Add [Bound s.life 0 Most, 1]) 0 Most } else StepB p s ct next
def StepF (p : Params) (s : State) (ticks : Int) (next : State) : State := StepC p s (Ct p s ticks next) next
def SayF (p : Params) (s : State) (kind me : Int) (read : Bool) (seen : Span) : Msg :=
  { kind := kind, frm := me, span := s.span, held := s.held, hops := s.hops, good := s.good, ref := read, seen := seen, pulse := (PulseF p s).1, stamp := Tick s.stamp s.time, table := s.table }

/-! sorting, as the library does it: an element goes down while it is less than the one ahead -/
def swapAt {α : Type} (xs : List α) (j : Nat) : List α := match xs[j]?, xs[j - 1]? with
  | some x, some y => (xs.set j y).set (j - 1) x
  | _, _ => xs
def goesDown {α : Type} (lt : α → α → Bool) (xs : List α) (j : Nat) : Bool := match xs[j]?, xs[j - 1]? with
  | some x, some y => lt x y
  | _, _ => false
def down {α : Type} (lt : α → α → Bool) : Nat → List α → List α
  | 0, xs => xs
  | j + 1, xs => if goesDown lt xs (j + 1) = true then down lt j (swapAt xs (j + 1)) else xs
/-- From place k on, n places. -/
def sortFrom {α : Type} (lt : α → α → Bool) : Nat → Nat → List α → List α
  | _, 0, xs => xs
  | k, n + 1, xs => sortFrom lt (k + 1) n (down lt k xs)
def sortBy {α : Type} (lt : α → α → Bool) (xs : List α) : List α := sortFrom lt 1 (xs.length - 1) xs
def hlt (a b : Heard) : Bool := decide (w64 (a.msg.frm - b.msg.frm) < 0)
theorem swapAt_length {α : Type} (xs : List α) (j : Nat) : (swapAt xs j).length = xs.length := by
  unfold swapAt; split <;> simp
theorem down_length {α : Type} (lt : α → α → Bool) : ∀ (j : Nat) (xs : List α), (down lt j xs).length = xs.length
  | 0, _ => rfl
  | j + 1, xs => by
    unfold down
    split
    · rw [down_length lt j, swapAt_length]
    · rfl
theorem sortFrom_length {α : Type} (lt : α → α → Bool) : ∀ (n k : Nat) (xs : List α), (sortFrom lt k n xs).length = xs.length
  | 0, _, _ => rfl
  | n + 1, k, xs => by unfold sortFrom; rw [sortFrom_length lt n, down_length]
theorem swapAt_perm {α : Type} (xs : List α) (j : Nat) : (swapAt xs j).Perm xs := by
  unfold swapAt
  split
  · rename_i x y hx hy
    obtain ⟨hj, rfl⟩ := List.getElem?_eq_some_iff.1 hx
    obtain ⟨hj', rfl⟩ := List.getElem?_eq_some_iff.1 hy
    by_cases h : j = j - 1
    · have : j = 0 := by omega
      subst this
      simp
    · exact List.set_set_perm (by omega) (by omega)
  · exact List.Perm.refl _
theorem down_perm {α : Type} (lt : α → α → Bool) : ∀ (j : Nat) (xs : List α), (down lt j xs).Perm xs
  | 0, _ => List.Perm.refl _
  | j + 1, xs => by
    unfold down
    split
    · exact (down_perm lt j _).trans (swapAt_perm _ _)
    · exact List.Perm.refl _
theorem sortFrom_perm {α : Type} (lt : α → α → Bool) : ∀ (n k : Nat) (xs : List α), (sortFrom lt k n xs).Perm xs
  | 0, _, _ => List.Perm.refl _
  | n + 1, k, xs => by unfold sortFrom; exact (sortFrom_perm lt n _ _).trans (down_perm _ _ _)
theorem sortBy_perm {α : Type} (lt : α → α → Bool) (xs : List α) : (sortBy lt xs).Perm xs := sortFrom_perm _ _ _ _

/-! what is told -/
def Takes (p : Params) (me : Int) (out : List Heard) (h : Heard) : Bool :=
  decide (h.msg.kind = 1) && (decide (0 ≤ h.msg.frm) && (decide (h.msg.frm < mn p.n 16) && (!decide (h.msg.frm = me) && !out.any fun x => decide (x.msg.frm = h.msg.frm))))
def Firsts (p : Params) (me : Int) : List Heard → List Heard → List Heard
  | out, [] => out
  | out, h :: hs => Firsts p me (if Takes p me out h = true then out ++ [h] else out) hs
def Told (p : Params) (me : Int) (l : List Heard) : List Heard := sortBy hlt (Firsts p me [] l)
/-- Numbers below n, none twice: at most n of them. -/
theorem nodup_bound : ∀ (n : Nat) (l : List Nat), l.Nodup → (∀ x ∈ l, x < n) → l.length ≤ n
  | 0, l, _, h => by
    cases l with
    | nil => simp
    | cons x l => exact absurd (h x (by simp)) (Nat.not_lt_zero x)
  | n + 1, l, hn, h => by
    by_cases hm : n ∈ l
    · have h1 := List.length_erase_of_mem hm
      have h2 := nodup_bound n (l.erase n) (hn.erase n) (fun x hx => by
        have h3 := (hn.mem_erase_iff).1 hx
        have h4 := h x h3.2
        have h5 := h3.1
        omega)
      have : 0 < l.length := List.length_pos_of_mem hm
      omega
    · have := nodup_bound n l hn (fun x hx => by
        have h4 := h x hx
        have : x ≠ n := fun e => hm (e ▸ hx)
        omega)
      omega
/-- Few, all of other numbers. -/
def Few (out : List Heard) : Prop := (out.map fun x => x.msg.frm.toNat).Nodup ∧ ∀ x ∈ out, 0 ≤ x.msg.frm ∧ x.msg.frm < 16
theorem Few.length {out : List Heard} (h : Few out) : out.length ≤ 16 := by
  have := nodup_bound 16 _ h.1 (fun n hn => by
    obtain ⟨x, hx, rfl⟩ := List.mem_map.1 hn
    have := h.2 x hx
    omega)
  simpa using this
theorem Few.take {p : Params} {me : Int} {out : List Heard} {h : Heard} (hf : Few out) (ht : Takes p me out h = true) : Few (out ++ [h]) := by
  simp only [Takes, Bool.and_eq_true, decide_eq_true_eq, Bool.not_eq_true', List.any_eq_false] at ht
  obtain ⟨_, h1, h2, _, h3⟩ := ht
  have h16 : h.msg.frm < 16 := by unfold mn at h2; split at h2 <;> omega
  refine ⟨?_, fun x hx => ?_⟩
  · rw [List.map_append, List.nodup_append]
    refine ⟨hf.1, by simp, fun a ha b hb => ?_⟩
    obtain ⟨x, hx, rfl⟩ := List.mem_map.1 ha
    simp only [List.map_cons, List.map_nil, List.mem_singleton] at hb
    subst hb
    have h4 := hf.2 x hx
    have h5 := h3 x hx

    omega
  · rcases List.mem_append.1 hx with hx | hx
    · exact hf.2 x hx
    · simp only [List.mem_singleton] at hx; subst hx; exact ⟨h1, h16⟩
theorem firsts_few {p : Params} {me : Int} : ∀ (l out : List Heard), Few out → Few (Firsts p me out l)
  | [], _, h => h
  | x :: l, out, h => by
    unfold Firsts
    refine firsts_few l _ ?_
    split
    · rename_i ht; exact h.take ht
    · exact h

/-! what many say -/
def sorted (xs : List Int) : List Int := xs.mergeSort fun x y => decide (x ≤ y)
theorem sorted_length (xs : List Int) : (sorted xs).length = xs.length := List.length_mergeSort xs
def LeastF (k : Int) (xs : List Int) : Int × Bool := if (decide (k < 0) || decide ((xs.length : Int) ≤ k)) = true then (0, false) else ((sorted xs)[k.toNat]?.getD 0, true)
def MostF (k : Int) (xs : List Int) : Int × Bool := if (decide (k < 0) || decide ((xs.length : Int) ≤ k)) = true then (0, false) else LeastF ((xs.length : Int) - 1 - k) xs
def FewF (f : Int) (n : Nat) : Bool := decide (f < 0) || (decide ((n : Int) ≤ f) || decide ((n : Int) - f ≤ f))
def FuseF (f : Int) (l : List Span) : Span × Bool :=
  if FewF f l.length = true then (⟨0, 0⟩, false) else
  if (LeastF f (l.map (·.hi))).1 < (MostF f (l.map (·.lo))).1 then (⟨0, 0⟩, false) else (SpanOf (MostF f (l.map (·.lo))).1 (LeastF f (l.map (·.hi))).1, true)

/-! a gate's beat -/
def ReadB (p : Params) (x : Input) : Bool := (Seen p x.reading).2 && x.ref
def SeenB (p : Params) (x : Input) : Span := if ReadB p x = true then (Seen p x.reading).1 else ⟨0, 0⟩
def spansOf (p : Params) (l : List Heard) : List Span := (l.filter (·.msg.ref)).map fun h => Way p h.msg.seen h.age
def SpansB (p : Params) (me : Int) (x : Input) : List Span := (if ReadB p x = true then [(Seen p x.reading).1] else []) ++ spansOf p (Told p me x.heard)
def NextA (p : Params) (s : State) (x : Input) : State := { s with span := Hold p s.span x.ticks, held := More s.held, hops := 0 }
def NextB (p : Params) (s : State) (x : Input) (l : List Span) : State := if (FuseF p.f l).2 = true then { NextA p s x with span := (FuseF p.f l).1, held := 0, good := true } else NextA p s x
def NextC (p : Params) (s : State) (x : Input) (l : List Span) : State := if x.given = true then { NextB p s x l with table := x.table } else NextB p s x l
def StepG (p : Params) (me : Int) (s : State) (x : Input) : State := StepF p s x.ticks (NextC p s x (SpansB p me x))
def BeatS (p : Params) (me : Int) (s : State) (x : Input) : State := StampF (StepG p me s x)
def BeatM (p : Params) (me : Int) (s : State) (x : Input) : Msg := SayF p (StepG p me s x) 1 me (ReadB p x) (SeenB p x)

/-! the laws' own words -/
def someG : Params := ⟨1, 0, 0, 1000, 1, 100, 10, 50, 20, 5, 5000, 1000⟩
def zState : State := ⟨⟨0, 0⟩, 0, false, 0, 0, false, [], ⟨0, 0⟩, 0⟩
def GreatH (l : List Heard) : Bool := l.any fun h => decide (128 < (h.msg.table.length : Int))
def GreatX (x : Input) : Bool := decide (40 < (x.heard.length : Int)) || (decide (128 < (x.table.length : Int)) || GreatH x.heard)
def GreatF (s : State) (l : List Input) : Bool := decide (128 < (s.table.length : Int)) || (decide (12 < (l.length : Int)) || l.any GreatX)

/-! what gateways see, and how it is carried -/
structure TRow where
  err : Int
  way : Int
  off : Int
def zMsg : Msg := ⟨0, 0, ⟨0, 0⟩, 0, 0, false, false, ⟨0, 0⟩, 0, ⟨0, 0⟩, []⟩
def tH (p : Params) (now : Int) (j : Nat) (x : TRow) : Heard := ⟨{ zMsg with kind := 1, frm := j, ref := true, seen := ⟨w64 (w64 (now + x.err) - p.eps), w64 (w64 (now + x.err) + p.eps)⟩ }, w64 (w64 (p.beat - x.way) + x.off)⟩
def toldsH (p : Params) (now : Int) : Nat → List TRow → List Heard
  | _, [] => []
  | j, x :: xs => tH p now j x :: toldsH p now (j + 1) xs
def lieH (n j : Nat) (h : Heard) : Heard := { h with msg := { h.msg with frm := w64 ((n : Int) + j) } }
def liesH (n : Nat) : Nat → List Heard → List Heard
  | _, [] => []
  | j, h :: hs => lieH n j h :: liesH n (j + 1) hs
/-- It sees, and is carried, as it may. -/
def OkT (p : Params) (x : TRow) : Prop := x.err ≤ p.eps ∧ -p.eps ≤ x.err ∧ x.way ≤ p.delay ∧ p.delay - p.jitter ≤ x.way ∧ x.off ≤ p.rho ∧ -p.rho ≤ x.off
theorem toldsH_append (p : Params) (now : Int) : ∀ (j : Nat) (xs : List TRow) (x : TRow), toldsH p now j (xs ++ [x]) = toldsH p now j xs ++ [tH p now (j + xs.length) x]
  | j, [], x => rfl
  | j, y :: xs, x => by
    simp only [List.cons_append, toldsH, toldsH_append p now (j + 1) xs x, List.length_cons]
    rw [show j + 1 + xs.length = j + (xs.length + 1) by omega]
theorem toldsH_length (p : Params) (now : Int) : ∀ (j : Nat) (xs : List TRow), (toldsH p now j xs).length = xs.length
  | _, [] => rfl
  | j, x :: xs => by simp [toldsH, toldsH_length p now (j + 1) xs]
theorem liesH_append (n : Nat) : ∀ (j : Nat) (xs : List Heard) (x : Heard), liesH n j (xs ++ [x]) = liesH n j xs ++ [lieH n (j + xs.length) x]
  | j, [], x => rfl
  | j, y :: xs, x => by
    simp only [List.cons_append, liesH, liesH_append n (j + 1) xs x, List.length_cons]
    rw [show j + 1 + xs.length = j + (xs.length + 1) by omega]
theorem liesH_length (n : Nat) : ∀ (j : Nat) (xs : List Heard), (liesH n j xs).length = xs.length
  | _, [] => rfl
  | j, x :: xs => by simp [liesH, liesH_length n (j + 1) xs]
end Go.Proofs.YtlkphnhlibpngaaGreat.Abs
