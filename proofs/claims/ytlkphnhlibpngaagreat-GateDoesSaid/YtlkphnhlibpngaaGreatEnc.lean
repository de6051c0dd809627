/- The plain values as cells. -/
import Derived.Test.YtlkphnhlibpngaaGreatSpec
import Derived.Test.YtlkphnhlibpngaaGreatAbsMid
set_option linter.unusedVariables false
namespace Go.Proofs.YtlkphnhlibpngaaGreat.Abs
open Go
abbrev i (n : Int) : AV := ints .i64 n
abbrev iv (n : Int) : PV := .v (.int .i64 n)
abbrev bv (b : Bool) : PV := .v (.bool b)
abbrev il (t : Bool) (xs : List Int) : AV := .p (.list 1 t (xs.map fun n => [iv n]))
def eSpan (s : Span) : List AV := [i s.lo, i s.hi]
def eP (p : Params) : List AV := [i p.n, i p.f, i p.d, i p.beat, i p.rho, i p.delay, i p.jitter, i p.eps, i p.mu, i p.hold, i p.pulse, i p.second]
def eStamp (s : Stamp) : List AV := [i s.time, i s.num]
def rLeap (l : Leap) : List PV := [iv l.sec, iv l.off]
/-- A table, as it is told. -/
abbrev tb (t : List Leap) : PV := .list 2 false (t.map rLeap)
def rMsg (m : Msg) : List PV := [iv m.kind, iv m.frm, iv m.span.lo, iv m.span.hi, iv m.held, iv m.hops, bv m.good, bv m.ref, iv m.seen.lo, iv m.seen.hi, iv m.pulse, iv m.stamp.time, iv m.stamp.num, tb m.table]
def rHeard (h : Heard) : List PV := rMsg h.msg ++ [iv h.age]
abbrev hd (l : List Heard) : PV := .list 15 false (l.map rHeard)
def eMsg (m : Msg) : List AV := [i m.kind, i m.frm, i m.span.lo, i m.span.hi, i m.held, i m.hops, bools m.good, bools m.ref, i m.seen.lo, i m.seen.hi, i m.pulse, i m.stamp.time, i m.stamp.num, .p (tb m.table)]
def eState (s : State) : List AV := [i s.span.lo, i s.span.hi, i s.time, bools s.set, i s.held, i s.hops, bools s.good, .p (tb s.table), i s.stamp.time, i s.stamp.num, i s.life]
def eInput (x : Input) : List AV := [i x.ticks, .p (hd x.heard), bools x.ref, i x.reading, bools x.given, .p (tb x.table)]
def rInput (x : Input) : List PV := [iv x.ticks, hd x.heard, bv x.ref, iv x.reading, bv x.given, tb x.table]
/-- A gate. -/
def eG (p : Params) (s : State) (me : Int) : List AV := eP p ++ (eState s ++ [i me])
def gb (p : Params) (s : State) (me : Int) : Blk := .box (eG p s me)
end Go.Proofs.YtlkphnhlibpngaaGreat.Abs
