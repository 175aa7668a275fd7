/- Contracts: the closures of Run and Spread. Conditions: none; plain lemmas. -/
import Derived.Test.YtncnnbjhginpfaaA3
namespace Go.Proofs.Ytncnnbjhginpfaa
set_option linter.unusedVariables false
set_option linter.unusedSimpArgs false
set_option linter.unnecessarySimpa false
open Go.Proofs
set_option maxHeartbeats 4000000
set_option cbv.maxSteps 1000000
set_option maxRecDepth 100000
set_option pp.maxSteps 700

def runB (k n i p : Int) : Bool := decide (p ≥ IntKind.i64.wrap ((IntKind.i64.wrap (i * k)).tdiv n)) && decide (p < IntKind.i64.wrap ((IntKind.i64.wrap (IntKind.i64.wrap (i + 1) * k)).tdiv n))
def spreadB (n i p : Int) : Bool := p.tmod n == i
attribute [cbv_opaque] runB spreadB

theorem run1_ok (k n i p : Int) (hn : n ≠ 0) : ACalls Try.prog 27 [.int .i64 i, .int .i64 p, .ptr 0 0, .ptr 1 0] [.var 3 [.int .i64 k], .var 3 [.int .i64 n]] (Ret (.bool (runB k n i p)) [.var 3 [.int .i64 k], .var 3 [.int .i64 n]]) := by
  refine ACalls.of_vc (fn := Try.f27) rfl rfl mixed ?_
  cbv
  refine ⟨hn, pcase.mk (fun h1 => ?_) (fun h1 => ?_)⟩
  · cbv
    refine ⟨hn, ?_⟩
    refine GS.keep [0] [0, 1] rfl (GS.done ⟨?_, rfl⟩)
    have : runB k n i p = decide (p < IntKind.i64.wrap ((IntKind.i64.wrap (IntKind.i64.wrap (i + 1) * k)).tdiv n)) := by simp only [runB, ge_iff_le, h1, decide_true, Bool.true_and]
    rw [this]; rfl
  · cbv
    refine GS.keep [0] [0, 1] rfl (GS.done ⟨?_, rfl⟩)
    have : runB k n i p = false := by simp only [runB, ge_iff_le, h1, decide_false, Bool.false_and]
    rw [this]; rfl

theorem spread1_ok (n i p : Int) (hn : n ≠ 0) : ACalls Try.prog 28 [.int .i64 i, .int .i64 p, .ptr 0 0] [.var 3 [.int .i64 n]] (Ret (.bool (spreadB n i p)) [.var 3 [.int .i64 n]]) := by
  refine ACalls.of_vc (fn := Try.f28) rfl rfl mixed ?_
  cbv
  refine ⟨hn, ?_⟩
  refine GS.keep [0] [0] rfl (GS.done ⟨?_, rfl⟩)
  rw [spreadB]; rfl

end Go.Proofs.Ytncnnbjhginpfaa
