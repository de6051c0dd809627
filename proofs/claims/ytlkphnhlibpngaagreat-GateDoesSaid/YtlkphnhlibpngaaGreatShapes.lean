/- The arguments' shapes, and the plain values that they hold. -/
import Derived.Test.YtlkphnhlibpngaaGreatAbsRow
import Derived.Test.YtlkphnhlibpngaaGreatEnc
set_option linter.unusedVariables false
set_option linter.unusedSimpArgs false
namespace Go.Proofs.YtlkphnhlibpngaaGreat.Abs
open Go

abbrev I64 (n : Int) : Prop := -9223372036854775808 ≤ n ∧ n ≤ 9223372036854775807
abbrev ci : CTy := .int .i64
abbrev cP : List CTy := [ci, ci, ci, ci, ci, ci, ci, ci, ci, ci, ci, ci]
abbrev cLeap : List CTy := [ci, ci]
abbrev cMsg : List CTy := [ci, ci, ci, ci, ci, ci, .bool, .bool, ci, ci, ci, ci, ci, .slice cLeap]
abbrev cHeard : List CTy := [ci, ci, ci, ci, ci, ci, .bool, .bool, ci, ci, ci, ci, ci, .slice cLeap, ci]
abbrev cState : List CTy := [ci, ci, ci, .bool, ci, ci, .bool, .slice cLeap, ci, ci, ci]
abbrev cInput : List CTy := [ci, .slice cHeard, .bool, ci, .bool, .slice cLeap]

def Params.ok (p : Params) : Prop := I64 p.n ∧ I64 p.f ∧ I64 p.d ∧ I64 p.beat ∧ I64 p.rho ∧ I64 p.delay ∧ I64 p.jitter ∧ I64 p.eps ∧ I64 p.mu ∧ I64 p.hold ∧ I64 p.pulse ∧ I64 p.second
def Span.ok (s : Span) : Prop := I64 s.lo ∧ I64 s.hi
def Stamp.ok (s : Stamp) : Prop := I64 s.time ∧ I64 s.num
def Leap.ok (l : Leap) : Prop := I64 l.sec ∧ I64 l.off
def Msg.ok (m : Msg) : Prop := I64 m.kind ∧ I64 m.frm ∧ m.span.ok ∧ I64 m.held ∧ I64 m.hops ∧ m.seen.ok ∧ I64 m.pulse ∧ m.stamp.ok ∧ ∀ l ∈ m.table, l.ok
def Heard.ok (h : Heard) : Prop := h.msg.ok ∧ I64 h.age
def State.ok (s : State) : Prop := s.span.ok ∧ I64 s.time ∧ I64 s.held ∧ I64 s.hops ∧ (∀ l ∈ s.table, l.ok) ∧ s.stamp.ok ∧ I64 s.life
def Input.ok (x : Input) : Prop := I64 x.ticks ∧ (∀ h ∈ x.heard, h.ok) ∧ I64 x.reading ∧ ∀ l ∈ x.table, l.ok

theorem fit_i {x : PV} (h : Fits x ci) : ∃ n, x = iv n ∧ I64 n := by
  cases x with
  | v u =>
    cases u with
    | int k n => obtain ⟨rfl, h2⟩ := h; exact ⟨n, rfl, wf_i64 h2⟩
    | _ => simp [Fits] at h
  | list sz t xs => simp [Fits] at h
theorem fit_b {x : PV} (h : Fits x .bool) : ∃ b, x = bv b := by
  cases x with
  | v u =>
    cases u with
    | bool b => exact ⟨b, rfl⟩
    | _ => simp [Fits] at h
  | list sz t xs => simp [Fits] at h
theorem fit_s {x : PV} {e : List CTy} (h : Fits x (.slice e)) : ∃ xs, x = .list e.length false xs ∧ FitRows xs e := by
  cases x with
  | v u => cases u <;> simp [Fits] at h
  | list sz t xs => obtain ⟨rfl, rfl, h⟩ := h; exact ⟨xs, rfl, h⟩
theorem fit_cons {xs : List PV} {c : CTy} {cs : List CTy} (h : FitAll xs (c :: cs)) : ∃ y ys, xs = y :: ys ∧ Fits y c ∧ FitAll ys cs := by
  match xs, h with
  | y :: ys, h => exact ⟨y, ys, rfl, h.1, h.2⟩
theorem fit_nil {xs : List PV} (h : FitAll xs []) : xs = [] := by
  match xs, h with
  | [], _ => rfl
theorem fit_rows {α : Type} {f : α → List PV} {ok : α → Prop} {e : List CTy} (hf : ∀ x, FitAll x e → ∃ a, x = f a ∧ ok a) : ∀ {xs : List (List PV)}, FitRows xs e → ∃ l : List α, xs = l.map f ∧ ∀ a ∈ l, ok a
  | [], _ => ⟨[], rfl, by simp⟩
  | x :: xs, h => by
    obtain ⟨a, rfl, h1⟩ := hf x h.1
    obtain ⟨l, rfl, h2⟩ := fit_rows hf h.2
    exact ⟨a :: l, rfl, fun b hb => (List.mem_cons.1 hb).elim (fun e => e ▸ h1) (h2 b)⟩
theorem fit_leap {xs : List PV} (h : FitAll xs cLeap) : ∃ l, xs = rLeap l ∧ l.ok := by
  obtain ⟨y0, _, rfl, h0, h⟩ := fit_cons h
  obtain ⟨y1, _, rfl, h1, h⟩ := fit_cons h
  obtain rfl := fit_nil h
  obtain ⟨a, rfl, ha⟩ := fit_i h0
  obtain ⟨b, rfl, hb⟩ := fit_i h1
  exact ⟨⟨a, b⟩, rfl, ha, hb⟩
theorem fit_tab {x : PV} (h : Fits x (.slice cLeap)) : ∃ t, x = tb t ∧ ∀ l ∈ t, l.ok := by
  obtain ⟨xs, rfl, g⟩ := fit_s h
  obtain ⟨t, rfl, ht⟩ := fit_rows (fun _ => fit_leap) g
  exact ⟨t, rfl, ht⟩
theorem fit_P {xs : List PV} (h : FitAll xs cP) : ∃ p : Params, xs.map AV.p = eP p ∧ p.ok := by
  obtain ⟨y0, _, rfl, h0, h⟩ := fit_cons h
  obtain ⟨y1, _, rfl, h1, h⟩ := fit_cons h
  obtain ⟨y2, _, rfl, h2, h⟩ := fit_cons h
  obtain ⟨y3, _, rfl, h3, h⟩ := fit_cons h
  obtain ⟨y4, _, rfl, h4, h⟩ := fit_cons h
  obtain ⟨y5, _, rfl, h5, h⟩ := fit_cons h
  obtain ⟨y6, _, rfl, h6, h⟩ := fit_cons h
  obtain ⟨y7, _, rfl, h7, h⟩ := fit_cons h
  obtain ⟨y8, _, rfl, h8, h⟩ := fit_cons h
  obtain ⟨y9, _, rfl, h9, h⟩ := fit_cons h
  obtain ⟨y10, _, rfl, h10, h⟩ := fit_cons h
  obtain ⟨y11, _, rfl, h11, h⟩ := fit_cons h
  obtain rfl := fit_nil h
  obtain ⟨a0, rfl, g0⟩ := fit_i h0
  obtain ⟨a1, rfl, g1⟩ := fit_i h1
  obtain ⟨a2, rfl, g2⟩ := fit_i h2
  obtain ⟨a3, rfl, g3⟩ := fit_i h3
  obtain ⟨a4, rfl, g4⟩ := fit_i h4
  obtain ⟨a5, rfl, g5⟩ := fit_i h5
  obtain ⟨a6, rfl, g6⟩ := fit_i h6
  obtain ⟨a7, rfl, g7⟩ := fit_i h7
  obtain ⟨a8, rfl, g8⟩ := fit_i h8
  obtain ⟨a9, rfl, g9⟩ := fit_i h9
  obtain ⟨a10, rfl, g10⟩ := fit_i h10
  obtain ⟨a11, rfl, g11⟩ := fit_i h11
  exact ⟨⟨a0, a1, a2, a3, a4, a5, a6, a7, a8, a9, a10, a11⟩, rfl, g0, g1, g2, g3, g4, g5, g6, g7, g8, g9, g10, g11⟩
theorem fit_state {xs : List PV} (h : FitAll xs cState) : ∃ s : State, xs.map AV.p = eState s ∧ s.ok := by
  obtain ⟨y0, _, rfl, h0, h⟩ := fit_cons h
  obtain ⟨y1, _, rfl, h1, h⟩ := fit_cons h
  obtain ⟨y2, _, rfl, h2, h⟩ := fit_cons h
  obtain ⟨y3, _, rfl, h3, h⟩ := fit_cons h
  obtain ⟨y4, _, rfl, h4, h⟩ := fit_cons h
  obtain ⟨y5, _, rfl, h5, h⟩ := fit_cons h
  obtain ⟨y6, _, rfl, h6, h⟩ := fit_cons h
  obtain ⟨y7, _, rfl, h7, h⟩ := fit_cons h
  obtain ⟨y8, _, rfl, h8, h⟩ := fit_cons h
  obtain ⟨y9, _, rfl, h9, h⟩ := fit_cons h
  obtain ⟨y10, _, rfl, h10, h⟩ := fit_cons h
  obtain rfl := fit_nil h
  obtain ⟨a0, rfl, g0⟩ := fit_i h0
  obtain ⟨a1, rfl, g1⟩ := fit_i h1
  obtain ⟨a2, rfl, g2⟩ := fit_i h2
  obtain ⟨a3, rfl⟩ := fit_b h3
  obtain ⟨a4, rfl, g4⟩ := fit_i h4
  obtain ⟨a5, rfl, g5⟩ := fit_i h5
  obtain ⟨a6, rfl⟩ := fit_b h6
  obtain ⟨a7, rfl, g7⟩ := fit_tab h7
  obtain ⟨a8, rfl, g8⟩ := fit_i h8
  obtain ⟨a9, rfl, g9⟩ := fit_i h9
  obtain ⟨a10, rfl, g10⟩ := fit_i h10
  exact ⟨⟨⟨a0, a1⟩, a2, a3, a4, a5, a6, a7, ⟨a8, a9⟩, a10⟩, rfl, ⟨g0, g1⟩, g2, g4, g5, g7, ⟨g8, g9⟩, g10⟩
theorem fit_heard {xs : List PV} (h : FitAll xs cHeard) : ∃ a : Heard, xs = rHeard a ∧ a.ok := by
  obtain ⟨y0, _, rfl, h0, h⟩ := fit_cons h
  obtain ⟨y1, _, rfl, h1, h⟩ := fit_cons h
  obtain ⟨y2, _, rfl, h2, h⟩ := fit_cons h
  obtain ⟨y3, _, rfl, h3, h⟩ := fit_cons h
  obtain ⟨y4, _, rfl, h4, h⟩ := fit_cons h
  obtain ⟨y5, _, rfl, h5, h⟩ := fit_cons h
  obtain ⟨y6, _, rfl, h6, h⟩ := fit_cons h
  obtain ⟨y7, _, rfl, h7, h⟩ := fit_cons h
  obtain ⟨y8, _, rfl, h8, h⟩ := fit_cons h
  obtain ⟨y9, _, rfl, h9, h⟩ := fit_cons h
  obtain ⟨y10, _, rfl, h10, h⟩ := fit_cons h
  obtain ⟨y11, _, rfl, h11, h⟩ := fit_cons h
  obtain ⟨y12, _, rfl, h12, h⟩ := fit_cons h
  obtain ⟨y13, _, rfl, h13, h⟩ := fit_cons h
  obtain ⟨y14, _, rfl, h14, h⟩ := fit_cons h
  obtain rfl := fit_nil h
  obtain ⟨a0, rfl, g0⟩ := fit_i h0
  obtain ⟨a1, rfl, g1⟩ := fit_i h1
  obtain ⟨a2, rfl, g2⟩ := fit_i h2
  obtain ⟨a3, rfl, g3⟩ := fit_i h3
  obtain ⟨a4, rfl, g4⟩ := fit_i h4
  obtain ⟨a5, rfl, g5⟩ := fit_i h5
  obtain ⟨a6, rfl⟩ := fit_b h6
  obtain ⟨a7, rfl⟩ := fit_b h7
  obtain ⟨a8, rfl, g8⟩ := fit_i h8
  obtain ⟨a9, rfl, g9⟩ := fit_i h9
  obtain ⟨a10, rfl, g10⟩ := fit_i h10
  obtain ⟨a11, rfl, g11⟩ := fit_i h11
  obtain ⟨a12, rfl, g12⟩ := fit_i h12
  obtain ⟨a13, rfl, g13⟩ := fit_tab h13
  obtain ⟨a14, rfl, g14⟩ := fit_i h14
  exact ⟨⟨⟨a0, a1, ⟨a2, a3⟩, a4, a5, a6, a7, ⟨a8, a9⟩, a10, ⟨a11, a12⟩, a13⟩, a14⟩, rfl, ⟨g0, g1, ⟨g2, g3⟩, g4, g5, ⟨g8, g9⟩, g10, ⟨g11, g12⟩, g13⟩, g14⟩
theorem fit_heards {x : PV} (h : Fits x (.slice cHeard)) : ∃ l, x = hd l ∧ ∀ a ∈ l, a.ok := by
  obtain ⟨xs, rfl, g⟩ := fit_s h
  obtain ⟨t, rfl, ht⟩ := fit_rows (fun _ => fit_heard) g
  exact ⟨t, rfl, ht⟩
theorem fit_input {xs : List PV} (h : FitAll xs cInput) : ∃ a : Input, xs = rInput a ∧ a.ok := by
  obtain ⟨y0, _, rfl, h0, h⟩ := fit_cons h
  obtain ⟨y1, _, rfl, h1, h⟩ := fit_cons h
  obtain ⟨y2, _, rfl, h2, h⟩ := fit_cons h
  obtain ⟨y3, _, rfl, h3, h⟩ := fit_cons h
  obtain ⟨y4, _, rfl, h4, h⟩ := fit_cons h
  obtain ⟨y5, _, rfl, h5, h⟩ := fit_cons h
  obtain rfl := fit_nil h
  obtain ⟨a0, rfl, g0⟩ := fit_i h0
  obtain ⟨a1, rfl, g1⟩ := fit_heards h1
  obtain ⟨a2, rfl⟩ := fit_b h2
  obtain ⟨a3, rfl, g3⟩ := fit_i h3
  obtain ⟨a4, rfl⟩ := fit_b h4
  obtain ⟨a5, rfl, g5⟩ := fit_tab h5
  exact ⟨⟨a0, a1, a2, a3, a4, a5⟩, rfl, g0, g1, g3, g5⟩
theorem fit_inputs {x : PV} (h : Fits x (.slice cInput)) : ∃ l : List Input, x = .list 6 false (l.map rInput) ∧ ∀ a ∈ l, a.ok := by
  obtain ⟨xs, rfl, g⟩ := fit_s h
  obtain ⟨t, rfl, ht⟩ := fit_rows (fun _ => fit_input) g
  exact ⟨t, rfl, ht⟩
end Go.Proofs.YtlkphnhlibpngaaGreat.Abs
