/- Abs, part 24: what an operation of a region asks for. -/
import Derived.Test.YtlkphnhlibpngaaAbsRun
set_option linter.unusedVariables false
set_option linter.unusedSimpArgs false
namespace Go.Proofs.Ytlkphnhlibpngaa.Abs
open Go

section
variable {P : Program} {L : Env} {m : Mem}
theorem tokF {e : TF} (hg : guardOn L e.r.guard = some true) (hW : ∀ b ∈ e.W.map (·.1), b ∈ e.F) (h : ∀ m2 : Mem, m2.length = m.length → (∀ b ∈ e.F, m2[b]? = m[b]?) → StepR P L m2 e.r.op e.x (wr m2 e.W)) : TOKF P e L m := .inr ⟨hg, hW, h⟩
/-- One that looks at no memory. -/
theorem tok_free {d : Option Nat} {op : ROp} {g : Option (Nat × Bool)} {q : Bool} {x : AV} (hg : guardOn L g = some true) (hs : op.sens = false) (h : aop L m op = some (x, m)) : TOKF P ⟨⟨d, op, g, q⟩, x, [], []⟩ L m := by
  refine tokF hg (fun b hb => by simp at hb) fun m2 _ _ => ?_
  have := aop_insens h hs m2
  cases op <;> first
    | (simp [ROp.sens] at hs; done)
    | (simp only [StepR, stepK, this, wr]; exact ⟨trivial, trivial⟩)
/-- A load. -/
theorem tok_ld {d : Option Nat} {n : Option Nat} {z : Operand} {g : Option (Nat × Bool)} {q : Bool} {x : AV} {c ver off : Nat} (hg : guardOn L g = some true) (hz : opd L z = some (.ptr c ver off)) (h : aop L m (.ld n z) = some (x, m)) : TOKF P ⟨⟨d, .ld n z, g, q⟩, x, [c], []⟩ L m := by
  refine tokF hg (fun b hb => by simp at hb) fun m2 _ hF => ?_
  have := aop_ld_agree (m2 := m2) h (.inl ⟨c, ver, off, hz, hF c (by simp)⟩)
  simp only [StepR, stepK, this, wr]
  exact ⟨trivial, trivial⟩
/-- A call that turns one block. -/
theorem tok_call {d : Option Nat} {f : FuncId} {zs : List Operand} {g : Option (Nat × Bool)} {q : Bool} {vs : List AV} {x : AV} {c : Nat} {blk blk' : Blk} (hg : guardOn L g = some true) (hz : opds L zs = some vs) (hb : m[c]? = some blk) (h : ∀ m2 : Mem, m2[c]? = some blk → ACall P f vs m2 x (m2.set c blk')) : TOKF P ⟨⟨d, .call f zs, g, q⟩, x, [c], [(c, blk')]⟩ L m := by
  refine tokF hg (fun b hb => by simpa using hb) fun m2 _ hF => ?_
  simp only [StepR, stepK, hz, wr]
  exact ⟨x, _, h m2 ((hF c (by simp)).trans hb), rfl, rfl⟩
/-- A new block, where room was kept. -/
theorem tok_new {d : Option Nat} {cs : List AV} {g : Option (Nat × Bool)} {q : Bool} {k c : Nat} (hg : guardOn L g = some true) (hb : m[k]? = some (.dead c)) : TOKF P ⟨⟨d, .new cs, g, q⟩, .ptr k (c + 1) 0, [k], [(k, ⟨cs, c + 1, true⟩)]⟩ L m := by
  refine tokF hg (fun b hb => by simpa using hb) fun m2 _ hF => ?_
  exact ⟨k, c, (hF k (by simp)).trans hb, rfl, rfl⟩
/-- A store of a whole block. -/
theorem tok_st {d : Option Nat} {n : Nat} {z1 z2 : Operand} {g : Option (Nat × Bool)} {q : Bool} {k ver : Nat} {olds cs : List AV} {v : AV} (hg : guardOn L g = some true) (h1 : opd L z1 = some (.ptr k ver 0)) (h2 : opd L z2 = some v) (h3 : v.cells? = some cs) (hb : m[k]? = some ⟨olds, ver, true⟩) (hn : cs.length = n) (hl : olds.length = n) : TOKF P ⟨⟨d, .st n z1 z2, g, q⟩, .p (.v undef), [k], [(k, ⟨cs, ver, true⟩)]⟩ L m := by
  refine tokF hg (fun b hb => by simpa using hb) fun m2 _ hF => ?_
  have hb2 := (hF k (by simp)).trans hb
  have e : splice olds 0 cs = cs := by
    simp only [splice, List.take_zero, List.nil_append, Nat.zero_add]
    rw [List.drop_of_length_le (by omega), List.append_nil]
  have : aop L m2 (.st n z1 z2) = some (.p (.v undef), m2.set k ⟨cs, ver, true⟩) := by
    simp only [aop, h1, h2, Option.bind_some, h3, writeCells, hb2, Nat.zero_add, true_and, hn, hl, Nat.le_refl, if_true, e, Option.map_some]
  simp only [StepR, stepK, this, wr]
  exact ⟨trivial, trivial⟩
/-- A region by blocks; what is known behind it is E and M. -/
theorem wregfs {N : Nat} {ops : List RO} {ms : List Nat} {c : RCode} {k : List Item} {Q : QT} (n : Nat) (es : List TF) (E : Env) (M : Mem) (hes : es.map (·.r) = ops) (hok : okFrom es 0 es ms = true) (ht : TraceF P es L (m ++ List.replicate n (.dead 0)))
    (hE : Says (envF (fun _ => true) 0 es L) E) (hM : memF (fun _ => true) 0 es (m ++ List.replicate n (.dead 0)) = M) (h : Wy P N 100000 [] [] (.code c :: k) E M Q) : WRegf P N ops ms (.code c :: k) L m Q :=
  wregf n es hes hok ht (by rw [hM]; exact stop_le hE.le (Wy_sound _ _ _ _ _ _ _ h))
end
end Go.Proofs.Ytlkphnhlibpngaa.Abs
