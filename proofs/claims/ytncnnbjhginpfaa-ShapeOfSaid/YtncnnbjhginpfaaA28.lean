/- Contract: the law ShapeOf. Conditions: none. -/
import Derived.Test.YtncnnbjhginpfaaA24
import Derived.Test.YtncnnbjhginpfaaA27
namespace Go.Proofs.Ytncnnbjhginpfaa
set_option linter.unusedVariables false
set_option linter.unusedSimpArgs false
set_option linter.unnecessarySimpa false
open Go.Proofs
set_option maxHeartbeats 8000000
set_option cbv.maxSteps 1000000
set_option maxRecDepth 100000
set_option pp.maxSteps 900

theorem sameS_self (a : List (List Int)) : sameS a a = true := by simp [sameS]
theorem shapeOf_ok (kind s k n : Int) : ACalls Try.prog 3 [.int .i64 kind, .int .u64 s, .int .i64 k, .int .i64 n] [] (Ret (.bool true) []) := by
  have c1 := of_ok kind s k n
  have c2 := refOf_ok kind s k n
  have c3 := next_ok s
  have c4 := refNext_ok s
  have c5 := run_ok s k n
  have c6 := refOf_ok 0 s k n
  have c7 := spread_ok s k n
  have c8 := refOf_ok 1 s k n
  have c9 := random_ok s k n
  have c10 := refOf_ok 2 s k n
  rw [← of_eq] at c2 c6 c8 c10
  rw [show ofS 0 s k n = runS k n from rfl] at c6
  rw [show ofS 1 s k n = spreadS k n from rfl] at c8
  rw [show ofS 2 s k n = randomS s k n from rfl] at c10
  generalize ofS kind s k n = A at c1 c2
  generalize runS k n = B at c5 c6
  generalize spreadS k n = C at c7 c8
  generalize randomS s k n = D at c9 c10
  generalize nextS s = E at c3 c4
  have sA := same_ok A A
  have sB := same_ok B B
  have sC := same_ok C C
  have sD := same_ok D D
  rw [sameS_self] at sA sB sC sD
  refine ACalls.of_vc (fn := Try.f3) rfl rfl mixed ?_
  cbv
  refine callVC.pure alive_ok rfl rfl ?_
  cbv
  refine callVC.pure c1 rfl rfl ?_
  cbv
  refine callVC.pure c2 rfl rfl ?_
  cbv
  refine callVC.pure sA rfl rfl ?_
  cbv
  refine callVC.pure c3 rfl rfl ?_
  cbv
  refine callVC.pure c4 rfl rfl ?_
  cbv
  refine pcase.mk (fun _ => ?_) (fun h => (h (by trivial)).elim)
  cbv
  refine callVC.pure c5 rfl rfl ?_
  cbv
  refine callVC.pure c6 rfl rfl ?_
  cbv
  refine callVC.pure sB rfl rfl ?_
  cbv
  refine callVC.pure c7 rfl rfl ?_
  cbv
  refine callVC.pure c8 rfl rfl ?_
  cbv
  refine callVC.pure sC rfl rfl ?_
  cbv
  refine callVC.pure c9 rfl rfl ?_
  cbv
  refine callVC.pure c10 rfl rfl ?_
  cbv
  refine callVC.pure sD rfl rfl ?_
  cbv
  rw [beq_self_eq_true]
  exact GS.keep [0] [] rfl (GS.done ⟨rfl, rfl⟩)
end Go.Proofs.Ytncnnbjhginpfaa
