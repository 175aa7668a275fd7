/- Contracts: a block's size and number of repairs. Conditions: none; plain lemmas. -/
import Derived.Test.YtncnnbjhginpfaaA2
namespace Go.Proofs.Ytncnnbjhginpfaa
set_option linter.unusedVariables false
set_option linter.unusedSimpArgs false
set_option linter.unnecessarySimpa false
open Go.Proofs
set_option maxHeartbeats 4000000
set_option cbv.maxSteps 1000000
set_option maxRecDepth 100000
set_option pp.maxSteps 700

def okB (k n : Int) : Bool := decide (k ≥ 1) && decide (k ≤ 48) && decide (n ≥ 1)
def minS (k n : Int) : Int := if k < n then k else n
attribute [cbv_opaque] okB minS

theorem bounds_ok (k n : Int) : ACalls Try.prog 25 [.int .i64 k, .int .i64 n] [] (Ret (.tup [.int .i64 k, .int .i64 (minS k n), .bool (okB k n)]) []) := by
  refine ACalls.of_vc (fn := Try.f25) rfl rfl mixed ?_
  cbv
  refine pcase.mk (fun h1 => ?_) (fun h1 => ?_)
  · cbv
    refine pcase.mk (fun h2 => ?_) (fun h2 => ?_)
    · cbv
      refine GS.keep [0] [] rfl (GS.done ⟨?_, rfl⟩)
      have : okB k n = decide (1 ≤ n) := by simp [okB, h1, h2]
      rw [this]; rfl
    · cbv
      refine GS.keep [0] [] rfl (GS.done ⟨?_, rfl⟩)
      have : okB k n = false := by simp [okB, h2]
      rw [this]; rfl
  · cbv
    refine GS.keep [0] [] rfl (GS.done ⟨?_, rfl⟩)
    have : okB k n = false := by simp [okB, h1]
    rw [this]; rfl

end Go.Proofs.Ytncnnbjhginpfaa
