/- Contract: alive. Conditions: none. -/
import Derived.Test.YtncnnbjhginpfaaA23
namespace Go.Proofs.Ytncnnbjhginpfaa
set_option linter.unusedVariables false
set_option linter.unusedSimpArgs false
set_option linter.unnecessarySimpa false
open Go.Proofs
set_option maxHeartbeats 8000000
set_option cbv.maxSteps 1000000
set_option maxRecDepth 100000
set_option pp.maxSteps 900

theorem run52 : runS 5 2 = [[0, 1], [2, 3, 4]] := by decide
theorem spread52 : spreadS 5 2 = [[0, 2, 4], [1, 3]] := by decide
theorem of49 : ofS 2 7 49 2 = [] := by rfl
theorem cov52 : coversS [[0, 1], [2, 3, 4]] 5 = true := by decide
theorem cov02 : coversS [[0]] 2 = false := by decide
theorem burstA : burstS [[0, 2, 4], [1, 3]] 5 = 2 := by decide
theorem burstB : burstS [[0, 1], [2, 3, 4]] 5 = 1 := by decide
theorem next0 : nextS 0 = 1442695040888963407 := by decide
theorem randomS_len {s k n : Int} (h : okB k n = true) : (randomS s k n).length = (minS k n).toNat := by
  rw [randomS, if_pos h, bares_len, lacks_len, fillGo_len]
theorem alive_ok : ACalls Try.prog 7 [] [] (Ret (.bool true) []) := by
  have c1 := run_ok 0 5 2
  rw [run52] at c1
  have c2 := spread_ok 0 5 2
  rw [spread52] at c2
  have s1 := same_ok [[0, 1], [2, 3, 4]] [[0, 1], [2, 3, 4]]
  rw [show sameS [[0, 1], [2, 3, 4]] [[0, 1], [2, 3, 4]] = true by decide] at s1
  have s2 := same_ok [[0, 2, 4], [1, 3]] [[0, 2, 4], [1, 3]]
  rw [show sameS [[0, 2, 4], [1, 3]] [[0, 2, 4], [1, 3]] = true by decide] at s2
  have c3 := random_ok 0 5 2
  have l3 : (randomS 0 5 2).length = 2 := by rw [randomS_len (by decide)]; rfl
  generalize randomS 0 5 2 = R at c3 l3
  have c4 := of_ok 2 7 49 2
  rw [of49] at c4
  have c5 := covers_ok [[0, 1], [2, 3, 4]] 5 (by decide)
  rw [cov52] at c5
  have c6 := covers_ok [[0]] 2 (by decide)
  rw [cov02] at c6
  have c7 := burst_ok [[0, 2, 4], [1, 3]] 5 (by decide) (by decide) (by decide)
  rw [burstA] at c7
  have c8 := burst_ok [[0, 1], [2, 3, 4]] 5 (by decide) (by decide) (by decide)
  rw [burstB] at c8
  have c9 := next_ok 0
  rw [next0] at c9
  refine ACalls.of_vc (fn := Try.f7) rfl rfl mixed ?_
  cbv
  refine callVC.pure c1 rfl rfl ?_
  cbv
  refine .inl ?_
  refine callVC.borrow [lists [[0, 1], [2, 3, 4]], lists [[0, 1], [2, 3, 4]]] (.bool true) (.one (by rfl) (.one (borrow_lists (by rfl) rfl) .nil)) s1 rfl rfl ?_
  cbv
  refine callVC.pure c2 rfl rfl ?_
  cbv
  refine .inl ?_
  refine callVC.borrow [lists [[0, 2, 4], [1, 3]], lists [[0, 2, 4], [1, 3]]] (.bool true) (.one (by rfl) (.one (borrow_lists (by rfl) rfl) .nil)) s2 rfl rfl ?_
  cbv
  refine callVC.pure c3 rfl rfl ?_
  cbv
  rw [l3]
  cbv
  refine pcase.mk (fun _ => ?_) (fun h => absurd rfl h)
  cbv
  refine callVC.pure c4 rfl rfl ?_
  cbv
  refine pcase.mk (fun _ => ?_) (fun h => absurd rfl h)
  cbv
  refine callVC.pure c1 rfl rfl ?_
  cbv
  refine callVC.pure c5 rfl rfl ?_
  cbv
  refine .inl ?_
  refine callVC.borrow [lists [[0]], .int .i64 2] (.bool false) (.one (borrow_lists (by rfl) rfl) (.one (by rfl) .nil)) c6 rfl rfl ?_
  cbv
  refine callVC.pure c2 rfl rfl ?_
  cbv
  refine callVC.pure c7 rfl rfl ?_
  cbv
  refine callVC.pure c1 rfl rfl ?_
  cbv
  refine callVC.pure c8 rfl rfl ?_
  cbv
  refine callVC.pure c9 rfl rfl ?_
  cbv
  exact GS.keep [0] [] rfl (GS.done ⟨rfl, rfl⟩)
end Go.Proofs.Ytncnnbjhginpfaa
