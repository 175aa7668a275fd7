/- Contracts of small functions: what a seed becomes, numbers held within bounds. Conditions: none; plain lemmas. -/
import Derived.Test.YtncnnbjhginpfaaTy
import Derived.Test.YtncnnbjhginpfaaCxS
namespace Go.Proofs.Ytncnnbjhginpfaa
set_option linter.unusedVariables false
set_option linter.unusedSimpArgs false
set_option linter.unnecessarySimpa false
open Go.Proofs
set_option maxHeartbeats 4000000
set_option cbv.maxSteps 1000000
set_option maxRecDepth 100000
set_option pp.maxSteps 700

def nextS (s : Int) : Int := IntKind.u64.wrap (IntKind.u64.wrap (s * 6364136223846793005) + 1442695040888963407)
attribute [cbv_opaque] nextS

theorem next_ok (s : Int) : ACalls Try.prog 11 [.int .u64 s] [] (Ret (.int .u64 (nextS s)) []) := by
  refine ACalls.of_vc (fn := Try.f11) rfl rfl mixed ?_
  cbv
  exact GS.keep [0] [] rfl (GS.done ⟨rfl, rfl⟩)

theorem refNext_ok (s : Int) : ACalls Try.prog 12 [.int .u64 s] [] (Ret (.int .u64 (nextS s)) []) := by
  refine ACalls.of_vc (fn := Try.f12) rfl rfl mixed ?_
  cbv
  refine GS.keep [0] [] rfl (GS.done ⟨?_, rfl⟩)
  rw [nextS, Int.mul_comm s]; rfl

def heldS (n low high : Int) : Int := if n < low then low else if n > high then high else n
attribute [cbv_opaque] heldS

theorem held_ok (n low high : Int) : ACalls Try.prog 21 [.int .i64 n, .int .i64 low, .int .i64 high] [] (Ret (.int .i64 (heldS n low high)) []) := by
  refine ACalls.of_vc (fn := Try.f21) rfl rfl mixed ?_
  cbv
  refine pcase.mk (fun h1 => ?_) (fun h1 => ?_)
  · cbv
    refine GS.keep [0] [] rfl (GS.done ⟨?_, rfl⟩)
    rw [heldS, if_pos h1]; rfl
  · cbv
    refine pcase.mk (fun h2 => ?_) (fun h2 => ?_)
    · cbv
      refine GS.keep [0] [] rfl (GS.done ⟨?_, rfl⟩)
      rw [heldS, if_neg h1, if_pos h2]; rfl
    · cbv
      refine GS.keep [0] [] rfl (GS.done ⟨?_, rfl⟩)
      rw [heldS, if_neg h1, if_neg h2]; rfl

end Go.Proofs.Ytncnnbjhginpfaa
