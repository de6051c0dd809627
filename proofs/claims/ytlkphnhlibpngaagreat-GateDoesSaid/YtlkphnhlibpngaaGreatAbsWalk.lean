/- Abs, part 16: what is behind a piece of code, as a list; loops; a function's entry. -/
import Derived.Test.YtlkphnhlibpngaaGreatAbsFn
set_option linter.unusedVariables false
set_option linter.unusedSimpArgs false
namespace Go.Proofs.YtlkphnhlibpngaaGreat.Abs
open Go

abbrev o (d : Nat) (op : ROp) : RO := ⟨some d, op, none, false⟩
abbrev o' (op : ROp) : RO := ⟨none, op, none, false⟩
abbrev og (d t : Nat) (b : Bool) (op : ROp) : RO := ⟨some d, op, some (t, b), false⟩
abbrev og' (t : Nat) (b : Bool) (op : ROp) : RO := ⟨none, op, some (t, b), false⟩
abbrev oq (d : Nat) (op : ROp) : RO := ⟨some d, op, none, true⟩
abbrev oq' (op : ROp) : RO := ⟨none, op, none, true⟩
abbrev ogq (d t : Nat) (b : Bool) (op : ROp) : RO := ⟨some d, op, some (t, b), true⟩
abbrev ogq' (t : Nat) (b : Bool) (op : ROp) : RO := ⟨none, op, some (t, b), true⟩
abbrev T (n : Nat) : Operand := .tmp n
abbrev I (n : Int) : Operand := .const (.int .i64 n)
abbrev B (b : Bool) : Operand := .const (.bool b)
abbrev cn : Operand := .const (.slice none 0 0)
abbrev zi : AV := .p (.v (.int .i64 0))
abbrev zb : AV := .p (.v (.bool false))
abbrev zl : AV := .p (.list 0 true [])
abbrev zs : AV := .p (.v (.string ⟨#[]⟩))
abbrev zp : AV := .p (.v (.pointer none))

inductive Item where
  | code (c : RCode)
  | blk (id : Nat)

section
variable {P : Program} {N : Nat}

mutual
def WK (P : Program) (N : Nat) : List Item → Env → Mem → QT → Prop
  | [], L, m, Q => Q .normal L m
  | .code c :: k, L, m, Q => V P N c L m fun e L' m' => match e with | .normal => WK P N k L' m' Q | .exit i => WU P N i k L' m' Q | e => Q e L' m'
  | .blk _ :: k, L, m, Q => WK P N k L m Q
/-- Out to the block of this number. -/
def WU (P : Program) (N : Nat) (i : Nat) : List Item → Env → Mem → QT → Prop
  | [], L, m, Q => Q (.exit i) L m
  | .code _ :: k, L, m, Q => WU P N i k L m Q
  | .blk id :: k, L, m, Q => if i = id then WK P N k L m Q else WU P N i k L m Q
end

/-- The rest of a region, and what is behind it. -/
def Stop (P : Program) (N : Nat) (C : List Nat) (ops : List RO) (k : List Item) (L : Env) (m : Mem) (Q : QT) : Prop := Reg P C ops L m fun L' m' => WK P N k L' m' Q

/-- Are there loads that go by whatever memory? -/
def loose : List RO → Bool
  | [] => false
  | r :: rs => (r.quiet && !isCall r.op) || loose rs
/-- These blocks stay. -/
def keeps (C : List Nat) (m m' : Mem) : Prop :=
  match C with
  | [] => True
  | c :: C => m'[c]? = m[c]? ∧ keeps C m m'
theorem keeps_all {m m' : Mem} : ∀ {C : List Nat}, keeps C m m' → ∀ c ∈ C, m'[c]? = m[c]?
  | [], _, c, hc => by simp at hc
  | d :: C, h, c, hc => by
    rcases List.mem_cons.1 hc with rfl | hc
    · exact h.1
    · exact keeps_all h.2 c hc

/-- How many items are passed over on the way out. -/
def unw (i : Nat) : List Item → Option (List Item)
  | [] => none
  | .code _ :: k => unw i k
  | .blk id :: k => if i = id then some k else unw i k

theorem unw_some {i : Nat} : ∀ {k k' : List Item} {L : Env} {m : Mem} {Q : QT}, unw i k = some k' → WK P N k' L m Q → WU P N i k L m Q
  | [], _, _, _, _, h, _ => by simp [unw] at h
  | .code c :: k, k', L, m, Q, h, hw => by simp only [WU]; exact unw_some (k := k) h hw
  | .blk id :: k, k', L, m, Q, h, hw => by
    simp only [unw] at h
    simp only [WU]
    split at h
    · rename_i hi; rw [if_pos hi]; obtain rfl := Option.some.inj h; exact hw
    · rename_i hi; rw [if_neg hi]; exact unw_some h hw
theorem unw_none {i : Nat} : ∀ {k : List Item} {L : Env} {m : Mem} {Q : QT}, unw i k = none → Q (.exit i) L m → WU P N i k L m Q
  | [], _, _, _, _, hq => hq
  | .code c :: k, L, m, Q, h, hw => by simp only [WU]; exact unw_none (k := k) h hw
  | .blk id :: k, L, m, Q, h, hw => by
    simp only [unw] at h
    simp only [WU]
    split at h
    · simp at h
    · rename_i hi; rw [if_neg hi]; exact unw_none h hw

abbrev WT := List Nat → List RO → List Item → Env → Mem → QT → Prop

def WxC (F : WT) (C : List Nat) (t e : RCode) (k : List Item) (L : Env) (m : Mem) (Q : QT) : Option AV → Prop
  | some (.p (.v (.bool b))) => match b with
    | true => F C [] (.code t :: k) L m Q
    | false => F C [] (.code e :: k) L m Q
  | _ => False
def WxE (F : WT) (C : List Nat) (id : Nat) (L : Env) (m : Mem) (Q : QT) : Option (List Item) → Prop
  | some k' => F C [] k' L m Q
  | none => Q (.exit id) L m
theorem WK_mono_code {c : RCode} {k : List Item} {L : Env} {m : Mem} {Q : QT} {Q' : QT} (h : V P N c L m Q') (hq : ∀ e L m, Q' e L m → match e with | .normal => WK P N k L m Q | .exit i => WU P N i k L m Q | e => Q e L m) : WK P N (.code c :: k) L m Q := by
  simp only [WK]
  exact V.mono h hq

variable {L : Env} {m : Mem} {Q : QT} {ops : List RO} {k : List Item} {C C' : List Nat}

/-- A region with loads that go by whatever memory: C are the blocks that they read. -/
theorem stop_reg (C : List Nat) {rs : List RO} (h : Stop P N C rs k L m Q) : Stop P N C' [] (.code (.reg rs) :: k) L m Q := V_reg C h

/-- A call, by its contract. -/
theorem stop_call {d : Option Nat} {f : FuncId} {args : List Operand} {vs : List AV} {r : AV} {m' : Mem} (ha : opds L args = some vs) (hc : ACall P f vs m r m') (hk : keeps C m m')
    (h : Stop P N C ops k (L.put d r) m' Q) : Stop P N C (⟨d, .call f args, none, false⟩ :: ops) k L m Q := by
  unfold Stop
  simp only [Reg, stepQ, stepK, ha]
  exact ⟨r, m', hc, keeps_all hk, h⟩
/-- A call that asks nothing of the memory. -/
theorem stop_callq {d : Option Nat} {f : FuncId} {args : List Operand} {q : Bool} {vs : List AV} {r : AV} (ha : opds L args = some vs) (hc : ∀ m, ACall P f vs m r m)
    (h : Stop P N C ops k (L.put d r) m Q) : Stop P N C (⟨d, .call f args, none, q⟩ :: ops) k L m Q := by
  unfold Stop
  simp only [Reg, stepQ, stepK, ha]
  cases q with
  | true => exact ⟨r, fun m _ => hc m, h⟩
  | false => exact ⟨r, m, hc m, fun _ _ => rfl, h⟩
/-- A closure's call. -/
theorem stop_callv {d : Option Nat} {f : Operand} {g : FuncId} {caps : List AV} {args : List Operand} {vs : List AV} {r : AV} {m' : Mem} (hf : opd L f = some (.fn g caps)) (hok : callOk P g = true) (ha : opds L args = some vs)
    (hc : ACall P g (vs ++ caps) m r m') (hk : keeps C m m') (h : Stop P N C ops k (L.put d r) m' Q) : Stop P N C (⟨d, .callv f args, none, false⟩ :: ops) k L m Q := by
  unfold Stop
  simp only [Reg, stepQ, stepK, ha, hf]
  exact ⟨hok, r, m', hc, keeps_all hk, h⟩
/-- A load that goes by whatever memory. -/
theorem stop_ld {d : Option Nat} {n : Option Nat} {z : Operand} {x : AV} {m' : Mem} (hz : (∃ c ver off, opd L z = some (.ptr c ver off) ∧ c ∈ C) ∨ ∃ cs, opd L z = some (.fp cs)) (hx : aop L m (.ld n z) = some (x, m'))
    (h : Stop P N C ops k (L.put d x) m Q) : Stop P N C (⟨d, .ld n z, none, true⟩ :: ops) k L m Q := by
  have hm : m' = m := aop_noeff hx rfl
  subst hm
  unfold Stop
  simp only [Reg, stepQ]
  rcases hz with ⟨c, ver, off, h1, h2⟩ | ⟨cs, h1⟩
  · simp only [h1, stepK, hx]; exact ⟨h2, h⟩
  · simp only [h1, stepK, hx]; exact h

/-- The ways out of a piece of code, other than its end. -/
structure Outs (P : Program) (N : Nat) (k : List Item) (Q Q' : QT) : Prop where
  ret : ∀ L m, Q .ret L m → Q' .ret L m
  exit : ∀ i k' L m, unw i k = some k' → Stop P N [] [] k' L m Q → Q' (.exit i) L m
  none : ∀ i L m, unw i k = none → Q (.exit i) L m → Q' (.exit i) L m
  rest : ∀ e L m, e ≠ .normal → (∀ i, e ≠ .exit i) → Q e L m → Q' e L m

theorem stop_loop {b : RCode} (I : Nat → Env → Mem → Prop) (n : Nat) (h0 : I n L m)
    (h : ∀ n L m, I n L m → ∀ Q' : QT, (∀ j L' m', j < n → I j L' m' → Q' .normal L' m') → Outs P N k Q Q' → Stop P N [] [] [.code b] L m Q') : Stop P N C [] (.code (.loop b) :: k) L m Q := by
  show V P N (.loop b) L m _
  refine V_loop I n h0 ?_
  intro n L m hI
  have := h n L m hI (fun e L' m' => match e with | .normal => ∃ j, j < n ∧ I j L' m' | .exit i => WU P N i k L' m' Q | e => Q e L' m') (fun j L' m' h1 h2 => ⟨j, h1, h2⟩)
    ⟨fun _ _ h => h, fun i k' L m hk hs => unw_some hk hs, fun i L m hk hs => unw_none hk hs, fun e L m h1 h2 h => by cases e <;> first | exact absurd rfl h1 | exact absurd rfl (h2 _) | exact h⟩
  refine V.mono this ?_
  intro e L' m' h'
  cases e <;> exact h'

theorem stop_loopT {b : RCode} (I : Nat → Env → Mem → Prop) (n : Nat) (h0 : I n L m)
    (h : ∀ n L1 m1, I n L1 m1 → ∀ Q' : QT, (∀ j L' m' L2 m2, j < n → I j L2 m2 → m.length ≤ m2.length → Tells N L' m' L2 m2 → Q' .normal L' m') → Outs P N k Q Q' → Stop P N [] [] [.code b] L1 m1 Q') : Stop P N C [] (.code (.loop b) :: k) L m Q := by
  show V P N (.loop b) L m _
  refine V_loopT I n h0 ?_
  intro n L1 m1 hI
  have := h n L1 m1 hI (fun e L' m' => match e with | .normal => ∃ j L2 m2, j < n ∧ I j L2 m2 ∧ m.length ≤ m2.length ∧ Tells N L' m' L2 m2 | .exit i => WU P N i k L' m' Q | e => Q e L' m') (fun j L' m' L2 m2 h1 h2 h3 h4 => ⟨j, L2, m2, h1, h2, h3, h4⟩)
    ⟨fun _ _ h => h, fun i k' L m hk hs => unw_some hk hs, fun i L m hk hs => unw_none hk hs, fun e L m h1 h2 h => by cases e <;> first | exact absurd rfl h1 | exact absurd rfl (h2 _) | exact h⟩
  refine V.mono this ?_
  intro e L' m' h'
  cases e <;> exact h'

/-- What is behind a piece of code, told once for all ways through it. -/
theorem stop_mid {c : RCode} (M : Env → Mem → Prop) (h : ∀ Q' : QT, (∀ L m, M L m → Q' .normal L m) → Outs P N k Q Q' → Stop P N [] [] [.code c] L m Q') (hk : ∀ L m, M L m → Stop P N [] [] k L m Q) : Stop P N C [] (.code c :: k) L m Q := by
  have := h (fun e L m => match e with | .normal => M L m | .exit i => WU P N i k L m Q | e => Q e L m) (fun _ _ h => h) ⟨fun _ _ h => h, fun i k' L m hk hs => unw_some hk hs, fun i L m hk hs => unw_none hk hs, fun e L m h1 h2 h => by cases e <;> first | exact absurd rfl h1 | exact absurd rfl (h2 _) | exact h⟩
  show V P N c L m _
  refine V.mono this ?_
  intro e L' m' h'
  cases e with
  | normal => exact hk _ _ h'
  | _ => exact h'

theorem stop_mono {c : RCode} {Q' : QT} (h : Stop P N [] [] [.code c] L m Q) (hq : ∀ e L m, Q e L m → Q' e L m) : Stop P N [] [] [.code c] L m Q' := by
  refine V.mono h ?_
  intro e L' m' h'
  cases e <;> exact hq _ _ _ h'
theorem stop_W {c : RCode} (h : Stop P N [] [] [.code c] L m Q) : W P N [c] L m Q := by
  refine V.mono h ?_
  intro e L' m' h'
  cases e <;> exact h'

theorem V_under {S : Setup} : True := trivial
mutual
theorem VR.under {S : Setup} : ∀ {x : AV} {y : Value}, VR S x y → x.under S.m.length
  | .p _, _, _ => trivial
  | .agg cs, y, h => by obtain ⟨ys, _, h⟩ := h; exact VRs.under h
  | .tup cs, y, h => by obtain ⟨ys, _, h⟩ := h; exact VRs.under h
  | .ptr b _ _, y, h => by obtain ⟨_, blk, h, _⟩ := h; exact (List.getElem?_eq_some_iff.1 h).1
  | .fp _, _, _ => trivial
  | .sl b _ _ _ _, y, h => by obtain ⟨_, _, _, _, _, _, blk, h, _⟩ := h; exact (List.getElem?_eq_some_iff.1 h).1
  | .fn _ cs, y, h => by obtain ⟨ys, _, h⟩ := h; exact VRs.under h
  | .iface _ x, y, h => by obtain ⟨z, _, h⟩ := h; show x.under S.m.length; exact VR.under (x := x) h
theorem VRs.under {S : Setup} : ∀ {xs : List AV} {ys : List Value}, VRs S xs ys → AV.unders S.m.length xs
  | [], _, _ => trivial
  | x :: xs, _, h => by obtain ⟨z, zs, _, h1, h2⟩ := h; exact ⟨VR.under h1, VRs.under h2⟩
end
/-- No living block leads out of the memory. -/
def Shut (m : Mem) : Prop := ∀ (b : Nat) (blk : Blk), m[b]? = some blk → blk.alive = true → AV.unders m.length blk.cells
theorem Setup.WF.shut {S : Setup} (h : S.WF) : Shut S.m := by
  intro b blk hb ha
  obtain ⟨ys, rest, ty, _, h1, _⟩ := (h.lies b blk hb ha).lies
  exact VRs.under h1
theorem acall_of {f : FuncId} {args : List AV} {m m' : Mem} {r : AV} (h : Shut m → ACall P f args m r m') : ACall P f args m r m' :=
  fun S vs h1 h2 h3 => h (h1 ▸ h2.shut) S vs h1 h2 h3

/-- A function's walk. -/
theorem acall_walk {H : List FuncId} {f : FuncId} {args : List AV} {m m' : Mem} {r : AV} {R : RFn} (hR : rfn P H f args.length = some R)
    (h : Shut m → Stop P R.n [] [] [.code R.code] (enum 0 args) m (Ends R m r m')) : ACall P f args m r m' :=
  acall_of fun hs => acall hR fun Q hQ => stop_W (stop_mono (h hs) hQ)

end
end Go.Proofs.YtlkphnhlibpngaaGreat.Abs
