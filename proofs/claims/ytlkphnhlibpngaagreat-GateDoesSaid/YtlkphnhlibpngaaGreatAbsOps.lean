/- Abs, part 3: the operations, types looked up once (ROp), what they do in the abstract (aop), and that the model does the same (aop_sound). -/
import Derived.Test.YtlkphnhlibpngaaGreatAbsMem
set_option linter.unusedVariables false
set_option linter.unusedSimpArgs false
namespace Go.Proofs.YtlkphnhlibpngaaGreat.Abs
open Go

/-! ### operands -/
def pconst : Value → PV
  | .slice none 0 0 => .list 0 true []
  | x => .v x
def aconst : Value → AV
  | .agg cs => .agg (cs.toList.map fun c => .p (pconst c))
  | x => .p (pconst x)

theorem pconst_PR (w : World) (fz : Nat → Prop) (x : Value) : PR w fz (pconst x) x := by
  unfold pconst
  split
  · exact ⟨none, 0, 0, rfl, rfl, Nat.le_refl _, by omega, fun _ => rfl, trivial⟩
  · rfl
theorem pconst_VRs (S : Setup) : ∀ cs : List Value, VRs S (cs.map fun c => .p (pconst c)) cs
  | [] => rfl
  | c :: cs => ⟨c, cs, rfl, pconst_PR _ _ c, pconst_VRs S cs⟩
theorem aconst_VR (S : Setup) (x : Value) : VR S (aconst x) x := by
  unfold aconst
  split
  · rename_i cs
    exact ⟨cs.toList, by simp, pconst_VRs S _⟩
  · exact pconst_PR _ _ x

abbrev Env := List (Nat × AV)
def Env.get : Env → Nat → Option AV
  | [], _ => none
  | (s, x) :: L, t => match Nat.beq s t with
    | true => some x
    | false => Env.get L t
theorem Env.get_cons (s t : Nat) (x : AV) (L : Env) : Env.get ((s, x) :: L) t = if s = t then some x else Env.get L t := by
  simp only [Env.get]
  by_cases h : s = t
  · subst h; rw [if_pos rfl, Nat.beq_refl]
  · rw [if_neg h]
    cases hb : Nat.beq s t with
    | true => exact absurd (Nat.eq_of_beq_eq_true hb) h
    | false => rfl
def opd (L : Env) : Operand → Option AV
  | .tmp t => L.get t
  | .const v => some (aconst v)
  | .func f => some (.fn f [])
  | .global _ => none
def opds (L : Env) : List Operand → Option (List AV)
  | [] => some []
  | x :: xs => match opd L x, opds L xs with
    | some v, some vs => some (v :: vs)
    | _, _ => none

/-- What an operand's value stands for. -/
def Good (S : Setup) (L : Env) (a : Act) (x : Operand) : Prop := ∀ v, opd L x = some v → VR S v (a.eval x)

theorem good_opds {S : Setup} {L : Env} {a : Act} : ∀ {xs : List Operand} {vs : List AV}, (∀ x ∈ xs, Good S L a x) → opds L xs = some vs → VRs S vs (xs.map a.eval)
  | [], vs, _, h => by simp [opds] at h; subst h; rfl
  | x :: xs, vs, hg, h => by
    simp only [opds] at h
    split at h
    · rename_i v vs' h1 h2
      simp at h; subst h
      exact ⟨a.eval x, xs.map a.eval, rfl, hg x (by simp) v h1, good_opds (fun y hy => hg y (by simp [hy])) h2⟩
    · simp at h

/-! ### resolved operations -/
inductive EqT where
  | bool | ptr | cells (n : Nat) | no

inductive ROp where
  | mov (x : Operand)
  | pick (c a b : Operand)
  | new (zs : List AV)
  | box (x : Operand)
  | build (zs : List AV) (parts : List (Nat × Nat × Operand))
  | bsl (sz : Nat) (parts : List Operand)
  | ld (n : Option Nat) (x : Operand)
  | st (n : Nat) (a x : Operand)
  | nilc (x : Operand)
  | bin (op : BinOp) (t : EqT) (x y : Operand)
  | snil (neg : Bool) (x : Operand)
  | un (op : UnOp) (x : Operand)
  | cvt (k : IntKind) (x : Operand)
  | mkf (f : FuncId) (caps : List Operand)
  | fld (off : Nat) (n : Option Nat) (x : Operand)
  | fad (off : Nat) (x : Operand)
  | iad (sz : Nat) (x i : Operand)
  | slc (sz : Nat) (x : Operand) (lo hi : Option Operand)
  | ext (i : Nat) (x : Operand)
  | len (x : Operand)
  | slen (x : Operand)
  | mnx (mx : Bool) (x y : Operand)
  | app (sz bytes : Nat) (x y : Operand)
  | call (f : FuncId) (args : List Operand)
  | callv (f : Operand) (args : List Operand)

def ROp.operands : ROp → List Operand
  | .mov x | .box x | .ld _ x | .nilc x | .snil _ x | .un _ x | .cvt _ x | .fld _ _ x | .fad _ x | .ext _ x | .len x | .slen x => [x]
  | .pick c a b => [c, a, b]
  | .new _ => []
  | .build _ ps => ps.map (·.2.2)
  | .bsl _ ps => ps
  | .st _ a x | .bin _ _ a x | .iad _ a x | .mnx _ a x | .app _ _ a x => [a, x]
  | .mkf _ cs => cs
  | .slc _ x l h => x :: (l.toList ++ h.toList)
  | .call _ as => as
  | .callv f as => f :: as

/-- It looks at memory, or writes it, or calls. -/
def ROp.sens : ROp → Bool
  | .new _ | .box _ | .ld .. | .st .. | .app .. | .call .. | .callv .. => true
  | _ => false
/-- It writes memory, whatever is called. -/
def ROp.eff : ROp → Bool
  | .new _ | .box _ | .st .. | .app .. => true
  | _ => false

/-! ### what they do -/
def AV.cells? : AV → Option (List AV)
  | .agg cs => if cs.all AV.one then some cs else none
  | x => if x.one then some [x] else none
def AV.pure1 : AV → Option PV
  | .p (.v x) => if oneV x then some (.v x) else none
  | .p x => some x
  | _ => none
def pures : List AV → Option (List PV)
  | [] => some []
  | c :: cs => match AV.pure1 c, pures cs with
    | some x, some xs => some (x :: xs)
    | _, _ => none
def readCells (m : Mem) (n : Nat) : AV → Option (List AV)
  | .ptr b ver off => match m[b]? with
    | some blk => if blk.alive = true ∧ ver = blk.cur ∧ off + n ≤ blk.cells.length then some ((blk.cells.drop off).take n) else none
    | none => none
  | .fp cs => if n ≤ cs.length then some ((cs.take n).map .p) else none
  | _ => none
def splice {α : Type} (cs : List α) (off : Nat) (ds : List α) : List α := cs.take off ++ (ds ++ cs.drop (off + ds.length))
def writeCells (m : Mem) (ds : List AV) : AV → Option Mem
  | .ptr b ver off => match m[b]? with
    | some blk => if blk.alive = true ∧ ver = blk.cur ∧ off + ds.length ≤ blk.cells.length then some (m.set b { blk with cells := splice blk.cells off ds }) else none
    | none => none
  | _ => none
def afill (cs : List AV) : List (Nat × Nat × AV) → Option (List AV)
  | [] => some cs
  | (off, n, x) :: rest => match x.cells? with
    | some ds => if ds.length = n ∧ off + n ≤ cs.length then afill (splice cs off ds) rest else none
    | none => none
def aparts (L : Env) : List (Nat × Nat × Operand) → Option (List (Nat × Nat × AV))
  | [] => some []
  | (off, n, x) :: rest => match opd L x, aparts L rest with
    | some v, some vs => some ((off, n, v) :: vs)
    | _, _ => none
def arows (sz : Nat) : List AV → Option (List (List PV))
  | [] => some []
  | x :: xs => match x.cells? with
    | some cs => match pures cs, arows sz xs with
      | some r, some rs => if r.length = sz then some (r :: rs) else none
      | _, _ => none
    | none => none
def ints (k : IntKind) (n : Int) : AV := .p (.v (.int k n))
def bools (b : Bool) : AV := .p (.v (.bool b))
def binInt (op : BinOp) (k : IntKind) (a b : Int) : Option AV :=
  match op with
  | .add => some (ints k (k.wrap (a + b)))
  | .sub => some (ints k (k.wrap (a - b)))
  | .mul => some (ints k (k.wrap (a * b)))
  | .quo => if b = 0 then none else some (ints k (k.wrap (a.tdiv b)))
  | .rem => if b = 0 then none else some (ints k (a.tmod b))
  | .and => some (ints k (k.wrap (BitVec.ofInt k.bits a &&& BitVec.ofInt k.bits b).toNat))
  | .or => some (ints k (k.wrap (BitVec.ofInt k.bits a ||| BitVec.ofInt k.bits b).toNat))
  | .xor => some (ints k (k.wrap (BitVec.ofInt k.bits a ^^^ BitVec.ofInt k.bits b).toNat))
  | .eql => some (bools (decide (a = b)))
  | .neq => some (bools (!decide (a = b)))
  | .lss => some (bools (decide (a < b)))
  | .leq => some (bools (decide (a ≤ b)))
  | .gtr => some (bools (decide (b < a)))
  | .geq => some (bools (decide (b ≤ a)))
  | _ => none
def shiftInt (op : BinOp) (k : IntKind) (a b : Int) : Option AV :=
  if b < 0 then none else
  match op with
  | .shl => some (ints k (k.wrap (a * 2 ^ (min b.toNat k.bits))))
  | .shr => some (ints k (a.fdiv (2 ^ (min b.toNat k.bits))))
  | _ => none
/-- '==' of values that are cells of numbers. -/
def eqCells : List AV → List AV → Option Bool
  | [], [] => some true
  | .p (.v (.int k a)) :: xs, .p (.v (.int k' b)) :: ys => if k = k' then (eqCells xs ys).map fun r => decide (a = b) && r else none
  | _, _ => none
def eqB : AV → AV → Option Bool
  | .p (.v (.bool a)), .p (.v (.bool b)) => some (decide (a = b))
  | _, _ => none
def eqP : AV → AV → Option Bool
  | .ptr _ _ _, .p (.v (.pointer none)) => some false
  | .fp _, .p (.v (.pointer none)) => some false
  | .p (.v (.pointer none)), .p (.v (.pointer none)) => some true
  | _, _ => none
def eqC (n : Nat) : AV → AV → Option Bool
  | .agg xs, .agg ys => if xs.length = n then eqCells xs ys else none
  | _, _ => none
def eqAV (t : EqT) (x y : AV) : Option Bool :=
  match t with
  | .bool => eqB x y
  | .ptr => eqP x y
  | .cells n => eqC n x y
  | .no => none
def binop (op : BinOp) (t : EqT) (x y : AV) : Option AV :=
  match op, x, y with
  | .shl, .p (.v (.int k a)), .p (.v (.int _ b)) => shiftInt .shl k a b
  | .shr, .p (.v (.int k a)), .p (.v (.int _ b)) => shiftInt .shr k a b
  | op, .p (.v (.int k a)), .p (.v (.int k' b)) => if k = k' then binInt op k a b else none
  | .eql, .p (.v (.string a)), .p (.v (.string b)) => some (bools (decide (a = b)))
  | .neq, .p (.v (.string a)), .p (.v (.string b)) => some (bools (!decide (a = b)))
  | .eql, x, y => (eqAV t x y).map fun r => bools r
  | .neq, x, y => (eqAV t x y).map fun r => bools (!r)
  | _, _, _ => none
def unop : UnOp → AV → Option AV
  | .neg, .p (.v (.int k n)) => some (ints k (k.wrap (0 - n)))
  | .not, .p (.v (.bool b)) => some (bools (!b))
  | .xor, .p (.v (.int k n)) => some (ints k (k.wrap (BitVec.ofInt k.bits (if k.signed then -1 else k.max) ^^^ BitVec.ofInt k.bits n).toNat))
  | _, _ => none
def asInt? : AV → Option Int
  | .p (.v (.int _ n)) => some n
  | _ => none
def bound? (L : Env) (d : Nat) : Option Operand → Option Nat
  | none => some d
  | some x => match opd L x with
    | some (.p (.v (.int _ n))) => if 0 ≤ n then some n.toNat else none
    | _ => none
def sliceAV (sz l h : Nat) : AV → Option AV
  | .p (.list s t xs) => if l ≤ h ∧ h ≤ xs.length ∧ (xs = [] ∨ s = sz) then some (.p (.list s (t && h == xs.length) ((xs.take h).drop l))) else none
  | .sl b ver off n s => if l ≤ h ∧ h ≤ n ∧ s = sz then (if l = h then some (.p (.list sz false [])) else some (.sl b ver (off + l * sz) (h - l) s)) else none
  | _ => none
def lenAV : AV → Option Nat
  | .p (.list _ _ xs) => some xs.length
  | .sl _ _ _ n _ => some n
  | _ => none
/-- The cells that are appended: those of so many elements. -/
def srcCells (m : Mem) (sz : Nat) : AV → Option (Nat × List AV)
  | .p (.list s _ xs) => if xs = [] then some (0, []) else if s = sz then some (xs.length, (xs.flatten).map .p) else none
  | .p (.v (.slice _ 0 _)) => some (0, [])
  | .sl b ver off n s => match m[b]? with
    | some blk => if s = sz ∧ blk.alive = true ∧ ver = blk.cur ∧ off + n * sz ≤ blk.cells.length ∧ blk.cells.all AV.one = true then some (n, (blk.cells.drop off).take (n * sz)) else none
    | none => none
  | _ => none
def appendAV (sz bytes : Nat) (m : Mem) (x y : AV) : Option (AV × Mem) :=
  match srcCells m sz y with
  | none => none
  | some (k, news) =>
    match x with
    | .p (.list s true xs) =>
      if k = 0 then some (x, m) else
      if (xs.length + k) * bytes ≤ 140737488355328 ∧ 0 < bytes ∧ (xs = [] ∨ s = sz) then
        some (.sl m.length 0 0 (xs.length + k) sz, m ++ [.box ((xs.flatten).map .p ++ news)]) else none
    | .sl b ver 0 n s => match m[b]? with
      | some blk => if s = sz ∧ blk.alive = true ∧ ver = blk.cur ∧ n * sz = blk.cells.length ∧ (n + k) * bytes ≤ 140737488355328 ∧ 0 < bytes then
          some (.sl b (ver + 1) 0 (n + k) sz, m.set b ⟨blk.cells ++ news, blk.cur + 1, true⟩) else none
      | none => none
    | _ => none
def aop (L : Env) (m : Mem) : ROp → Option (AV × Mem)
  | .mov x => (opd L x).map (·, m)
  | .pick c a b => match opd L c, opd L a, opd L b with
    | some (.p (.v (.bool t))), some x, some y => some (if t then x else y, m)
    | _, _, _ => none
  | .new zs => some (.ptr m.length 0 0, m ++ [.box zs])
  | .box x => match (opd L x).bind AV.cells? with
    | some cs => some (.ptr m.length 0 0, m ++ [.box cs])
    | none => none
  | .build zs ps => match aparts L ps with
    | some vs => (afill zs vs).map fun cs => (.agg cs, m)
    | none => none
  | .bsl sz ps => match opds L ps with
    | some vs => (arows sz vs).map fun rs => (.p (.list sz true rs), m)
    | none => none
  | .ld none x => match (opd L x).bind (readCells m 1) with
    | some [c] => some (c, m)
    | _ => none
  | .ld (some n) x => ((opd L x).bind (readCells m n)).map fun cs => (.agg cs, m)
  | .st n a x => match opd L a, (opd L x).bind AV.cells? with
    | some p, some cs => if cs.length = n then (writeCells m cs p).map fun m' => (.p (.v undef), m') else none
    | _, _ => none
  | .nilc x => match opd L x with
    | some (.ptr b ver off) => some (.ptr b ver off, m)
    | some (.fp cs) => some (.fp cs, m)
    | some (.fn f cs) => some (.fn f cs, m)
    | _ => none
  | .bin op t x y => match opd L x, opd L y with
    | some u, some v => (binop op t u v).map (·, m)
    | _, _ => none
  | .snil neg x => match opd L x with
    | some (.sl _ _ _ _ _) => some (bools neg, m)
    | some (.p (.list _ _ (_ :: _))) => some (bools neg, m)
    | some (.p (.v (.slice a _ _))) => some (bools (if a.isSome then neg else !neg), m)
    | _ => none
  | .un op x => ((opd L x).bind (unop op)).map (·, m)
  | .cvt k x => match opd L x with
    | some (.p (.v (.int _ n))) => some (ints k (k.wrap n), m)
    | _ => none
  | .mkf f cs => (opds L cs).map fun vs => (.fn f vs, m)
  | .fld off none x => match opd L x with
    | some (.agg cs) => (cs[off]?).map (·, m)
    | _ => none
  | .fld off (some n) x => match opd L x with
    | some (.agg cs) => some (.agg ((cs.drop off).take n), m)
    | _ => none
  | .fad off x => match opd L x with
    | some (.ptr b ver o) => some (.ptr b ver (o + off), m)
    | some (.fp cs) => some (.fp (cs.drop off), m)
    | _ => none
  | .iad sz x i => match opd L x, (opd L i).bind asInt? with
    | some (.p (.list s _ xs)), some n => if 0 ≤ n ∧ s = sz then (xs[n.toNat]?).map fun r => (.fp r, m) else none
    | some (.sl b ver off k s), some n => if 0 ≤ n ∧ n < k ∧ s = sz then some (.ptr b ver (off + n.toNat * sz), m) else none
    | _, _ => none
  | .slc sz x lo hi => match opd L x with
    | some v => match (lenAV v).bind fun n => bound? L n hi, bound? L 0 lo with
      | some h, some l => (sliceAV sz l h v).map (·, m)
      | _, _ => none
    | none => none
  | .ext i x => match opd L x with
    | some (.tup vs) => (vs[i]?).map (·, m)
    | _ => none
  | .len x => match (opd L x).bind lenAV with
    | some n => some (ints .i64 (n : Int), m)
    | none => none
  | .slen x => match opd L x with
    | some (.p (.v (.string s))) => some (ints .i64 (s.size : Int), m)
    | _ => none
  | .mnx mx x y => match opd L x, opd L y with
    | some (.p (.v (.int k a))), some (.p (.v (.int _ b))) => some (ints k (if mx then (if a < b then b else a) else (if b < a then b else a)), m)
    | _, _ => none
  | .app sz bytes x y => match opd L x, opd L y with
    | some u, some v => appendAV sz bytes m u v
    | _, _ => none
  | .call _ _ | .callv _ _ => none

/-! ### types looked up -/
def isAggD : Option TypeDesc → Bool
  | some (.struct _) | some (.array _ _) => true
  | _ => false
def Program.cut? (P : Program) (t : TypeId) : Option (Option Nat) :=
  match P.underlying t, P.info? t with
  | some d, some i => some (if isAggD (some d) then some i.size else none)
  | _, _ => none
def flatInts (P : Program) (fs : List Field) : Nat → Bool := fun i =>
  match fs with
  | [] => true
  | f :: fs => f.name != "_" && f.offset == i && (match P.underlying f.type with | some (.int _) => true | _ => false) && flatInts P fs (i + 1)
def eqT (P : Program) (t : TypeId) : EqT :=
  match P.underlying t with
  | some .bool => .bool
  | some (.pointer _) => .ptr
  | some (.struct fs) => if flatInts P fs.toList 0 && !P.stoodInHeld t && !P.eqGuardType P.depth t then .cells fs.toList.length else .no
  | _ => .no
def callOk (P : Program) (f : FuncId) : Bool :=
  match P.funcs[f]? with
  | some fn => fn.name != "runtime.NumGoroutine" && fn.body.isSome
  | none => false
def places (P : Program) (fs : Array Field) (parts : List (Nat × Operand)) : Option (List (Nat × Nat × Operand)) :=
  match parts with
  | [] => some []
  | (i, x) :: rest => match fs[i]? with
    | some f => match P.info? f.type, places P fs rest with
      | some inf, some ps => some ((f.offset, inf.size, x) :: ps)
      | _, _ => none
    | none => none
def dense : Nat → List (Nat × Operand) → Bool
  | _, [] => true
  | i, (j, _) :: rest => i == j && dense (i + 1) rest
def rop (P : Program) : Op → Option ROp
  | .move x | .assign x => some (.mov x)
  | .pick c a b => some (.pick c a b)
  | .alloc t => match (P.info? t).bind (·.zero) with
    | some z => if z.cells.toList.all oneV then some (.new (z.cells.toList.map fun c => .p (pconst c))) else none
    | none => none
  | .box _ x => some (.box x)
  | .build t parts => match P.underlying t, (P.info? t).bind (·.zero) with
    | some (.struct fs), some z =>
      if z.cells.toList.all oneV && fs.toList.all (fun f => (P.info? f.type).isSome) then (places P fs parts.toList).map fun ps => .build (z.cells.toList.map fun c => .p (pconst c)) ps else none
    | _, _ => none
  | .buildSlice t len parts => match P.underlying t with
    | some (.slice e) => match P.info? e with
      | some i => match i.zero with
        | some z => if z.cells.size = i.size ∧ 0 < i.size ∧ len * i.size ≤ 16777216 ∧ parts.size = len ∧ dense 0 parts.toList = true then some (.bsl i.size (parts.toList.map (·.2))) else none
        | none => none
      | none => none
    | _ => none
  | .load t x => (Program.cut? P t).map fun n => .ld n x
  | .store t a x => (P.info? t).map fun i => .st i.size a x
  | .nilCheck x => some (.nilc x)
  | .binOp op t x (.const (.slice none 0 0)) _ => match op, P.underlying t with
    | .eql, some (.slice _) => some (.snil false x)
    | .neq, some (.slice _) => some (.snil true x)
    | _, _ => none
  | .binOp op t x y _ => some (.bin op (eqT P t) x y)
  | .unOp op _ x => some (.un op x)
  | .convert s t x => match P.underlying s, P.underlying t with
    | some _, some (.int k) => some (.cvt k x)
    | _, _ => none
  | .makeFunc (.func f) first caps => if first.isEmpty then some (.mkf f caps.toList) else none
  | .field t x f => match P.underlying t with
    | some (.struct fs) => match fs[f]? with
      | some f => (Program.cut? P f.type).map fun n => .fld f.offset n x
      | none => none
    | _ => none
  | .fieldAddr t x f => match P.underlying t with
    | some (.struct fs) => match fs[f]? with
      | some f => match P.info? f.type with
        | some i => if i.size = 0 then none else some (.fad f.offset x)
        | none => none
      | none => none
    | _ => none
  | .indexAddr t x i => match P.underlying t with
    | some (.slice e) => (P.info? e).map fun j => .iad j.size x i
    | _ => none
  | .slice t x lo hi none => match P.underlying t with
    | some (.slice e) => (P.info? e).map fun j => .slc j.size x lo hi
    | _ => none
  | .extract x i => some (.ext i x)
  | .call { callee := .builtin .len, args, argTypes } => match args.toList, argTypes[0]? with
    | [x], some t => match P.underlying t with
      | some (.slice _) => some (.len x)
      | some .string => some (.slen x)
      | _ => none
    | _, _ => none
  | .call { callee := .builtin .min, args, .. } => match args.toList with
    | [x, y] => some (.mnx false x y)
    | _ => none
  | .call { callee := .builtin .max, args, .. } => match args.toList with
    | [x, y] => some (.mnx true x y)
    | _ => none
  | .call { callee := .builtin .append, args, argTypes } => match args.toList, argTypes.toList with
    | [x, y], [t, u] => match P.underlying t with
      | some (.slice e) => match P.info? e with
        | some i => match i.zero with
          | some z => if t = u ∧ z.cells.size = i.size ∧ 0 < i.size then some (.app i.size i.bytes x y) else none
          | none => none
        | none => none
      | _ => none
    | _, _ => none
  | .call { callee := .value (.func f), args, .. } => if callOk P f then some (.call f args.toList) else none
  | .call { callee := .value (.tmp t), args, .. } => some (.callv (.tmp t) args.toList)
  | _ => none
end Go.Proofs.YtlkphnhlibpngaaGreat.Abs
