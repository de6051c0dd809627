/- Contracts, part 8: what a gate tells; its beat. -/
import Derived.Test.YtlkphnhlibpngaaGreatC7
set_option linter.unusedVariables false
set_option linter.unusedSimpArgs false
set_option maxRecDepth 100000
namespace Go.Proofs.YtlkphnhlibpngaaGreat.Abs
open Go

theorem flatM (x : Msg) : (AV.agg (eMsg x)).under 0 := ⟨trivial, trivial, trivial, trivial, trivial, trivial, trivial, trivial, trivial, trivial, trivial, trivial, trivial, trivial, trivial⟩
theorem flatM1 (x : Msg) : (AV.agg (eMsg x)).under 1 := ⟨trivial, trivial, trivial, trivial, trivial, trivial, trivial, trivial, trivial, trivial, trivial, trivial, trivial, trivial, trivial⟩
theorem say_1 (p : Params) (s : State) (g kind me : Int) (read : Bool) (seen : Span) (hlen : s.table.length ≤ 1048576) :
    ACall Tryz.prog 15 [.ptr 0 0 0, i kind, i me, bools read, .agg (eSpan seen)] [gb p s g] (.agg (eMsg (SayF p s kind me read seen))) [gb p (StampF s) g] := by
  refine acall_run R_gate_Say_ok ⟨nof, fun _ => ?_⟩
  refine WCall.here rfl _ _ (acall_look (pulse_1 p s g) ⟨Nat.one_pos, trivial⟩ (flatG0 _ _ _) 0 _ rfl) trivial ?_
  refine WCall.here rfl _ _ (acall_frame (stamp_1 p s g) ⟨Nat.one_pos, trivial⟩ (flatG0 _ _ _) (flatG0 _ _ _) 0 _ rfl) trivial ?_
  refine WB.of (WCall.any _ (clone_ok false s.table hlen) ?_)
  exact end1 rfl (.inr rfl) rfl rfl (flatM1 _) rfl (flatG1 _ _ _)
end Go.Proofs.YtlkphnhlibpngaaGreat.Abs
