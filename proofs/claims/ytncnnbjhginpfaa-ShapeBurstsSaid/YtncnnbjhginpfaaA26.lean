/- Contract: the law ShapeBursts. Conditions: none. -/
import Derived.Test.YtncnnbjhginpfaaA25
namespace Go.Proofs.Ytncnnbjhginpfaa
set_option linter.unusedVariables false
set_option linter.unusedSimpArgs false
set_option linter.unnecessarySimpa false
open Go.Proofs
set_option maxHeartbeats 8000000
set_option cbv.maxSteps 1000000
set_option maxRecDepth 100000
set_option pp.maxSteps 900

theorem bursts_ok (F : List (List Int)) (k : Int) : ACalls Try.prog 4 [lists F, .int .i64 k] [] (Ret (.bool true) []) := by
  have hfew := few_ok F
  have hb := @few_bounds F
  generalize fewS F = W at hfew hb
  have hc1 := covers_ok F k
  have hc2 := refCovers_ok F k
  rw [← covers_eq] at hc2
  generalize coversS F k = C at hc1 hc2
  have hu1 := burst_ok F k
  have hu2 := refBurst_ok F k
  generalize burstS F k = B at hu1 hu2
  refine ACalls.of_vc (fn := Try.f4) rfl rfl mixed ?_
  cbv
  refine callVC.pure alive_ok rfl rfl ?_
  cbv
  refine pcase.mk (fun h1 => ?_) (fun h1 => ?_)
  · cbv
    exact GS.keep [0] [] rfl (GS.done ⟨rfl, rfl⟩)
  cbv
  refine callVC.pure hfew rfl rfl ?_
  cases W with
  | false =>
    cbv
    exact GS.keep [0] [] rfl (GS.done ⟨rfl, rfl⟩)
  | true =>
    obtain ⟨b1, b2, b3⟩ := hb rfl
    have hm : ∀ eq ∈ F, eq.length ≤ 1000 := fun e he => Nat.le_trans (b2 e he) (by omega)
    replace hc1 := hc1 (by omega)
    replace hu1 := hu1 (by omega) (by omega) hm
    replace hu2 := hu2 (by omega) (by omega) hm
    cbv
    refine pcase.mk (fun h2 => ?_) (fun h2 => ?_)
    · cbv
      refine pcase.mk (fun h3 => ?_) (fun h3 => ?_)
      · cbv
        exact GS.keep [0] [] rfl (GS.done ⟨rfl, rfl⟩)
      · cbv
        refine ⟨fun z st => ∃ i : Nat, i ≤ F.length ∧ z = F.length - i ∧ st = ⟨mk 57 [(0, lists F), (1, .int .i64 k), (5, .int .i64 (sumTo F i)), (26, lists F), (27, .int .i64 F.length), (28, .int .i64 i)], []⟩, GS.keep [0,1,5,26,27,28] [] rfl (GS.done ⟨_, 0, by omega, rfl, ?_⟩), ?_⟩
        · cbv
        rintro z st ⟨i, h5, rfl, rfl⟩
        have hS := sumTo_le F i
        cbv
        refine pcase.mk (fun h6 => ?_) (fun h6 => ?_)
        · have hi := nlt h6
          obtain ⟨e, he⟩ := get_some hi
          have e1 := sumTo_succ he
          have hS2 := sumTo_le F (i + 1)
          have ew : IntKind.i64.wrap ((NatCast.natCast (sumTo F i) : Int) + NatCast.natCast e.length) = NatCast.natCast (sumTo F (i + 1)) := by
            show IntKind.i64.wrap ((sumTo F i : Int) + (e.length : Int)) = ((sumTo F (i + 1) : Nat) : Int)
            rw [IntWalk.i64_in _ ⟨by omega, by omega⟩]; omega
          cbv
          refine ⟨h6, atK.mk (ints e) (map_get he) ?_⟩
          cbv
          rw [ew]
          refine GS.keep [0,1,5,26,27,28] [] rfl (GS.done ⟨F.length - (i + 1), by omega, i + 1, by omega, rfl, ?_⟩)
          rw [w64n (by omega)]
          cbv
        · cbv
          refine pcase.mk (fun h7 => ?_) (fun h7 => ?_)
          · cbv
            exact GS.keep [0] [] rfl (GS.done ⟨rfl, rfl⟩)
          · cbv
            refine callVC.pure hc1 rfl rfl ?_
            cbv
            refine callVC.pure hc2 rfl rfl ?_
            cbv
            refine ⟨true, by have := eqRun_bool (P := Try.prog) (t := 4) (by rfl) C C; rwa [beq_self_eq_true] at this, ?_⟩
            cbv
            refine callVC.pure hu1 rfl rfl ?_
            cbv
            refine callVC.pure hu2 rfl rfl ?_
            cbv
            rw [beq_self_eq_true]
            exact GS.keep [0] [] rfl (GS.done ⟨rfl, rfl⟩)
    · cbv
      refine ⟨fun z st => ∃ i : Nat, i ≤ F.length ∧ z = F.length - i ∧ st = ⟨mk 57 [(0, lists F), (1, .int .i64 k), (5, .int .i64 (sumTo F i)), (26, lists F), (27, .int .i64 F.length), (28, .int .i64 i)], []⟩, GS.keep [0,1,5,26,27,28] [] rfl (GS.done ⟨_, 0, by omega, rfl, ?_⟩), ?_⟩
      · cbv
      rintro z st ⟨i, h5, rfl, rfl⟩
      have hS := sumTo_le F i
      cbv
      refine pcase.mk (fun h6 => ?_) (fun h6 => ?_)
      · have hi := nlt h6
        obtain ⟨e, he⟩ := get_some hi
        have e1 := sumTo_succ he
        have hS2 := sumTo_le F (i + 1)
        have ew : IntKind.i64.wrap ((NatCast.natCast (sumTo F i) : Int) + NatCast.natCast e.length) = NatCast.natCast (sumTo F (i + 1)) := by
          show IntKind.i64.wrap ((sumTo F i : Int) + (e.length : Int)) = ((sumTo F (i + 1) : Nat) : Int)
          rw [IntWalk.i64_in _ ⟨by omega, by omega⟩]; omega
        cbv
        refine ⟨h6, atK.mk (ints e) (map_get he) ?_⟩
        cbv
        rw [ew]
        refine GS.keep [0,1,5,26,27,28] [] rfl (GS.done ⟨F.length - (i + 1), by omega, i + 1, by omega, rfl, ?_⟩)
        rw [w64n (by omega)]
        cbv
      · cbv
        refine pcase.mk (fun h7 => ?_) (fun h7 => ?_)
        · cbv
          exact GS.keep [0] [] rfl (GS.done ⟨rfl, rfl⟩)
        · cbv
          refine callVC.pure hc1 rfl rfl ?_
          cbv
          refine callVC.pure hc2 rfl rfl ?_
          cbv
          refine ⟨true, by have := eqRun_bool (P := Try.prog) (t := 4) (by rfl) C C; rwa [beq_self_eq_true] at this, ?_⟩
          cbv
          refine callVC.pure hu1 rfl rfl ?_
          cbv
          refine callVC.pure hu2 rfl rfl ?_
          cbv
          rw [beq_self_eq_true]
          exact GS.keep [0] [] rfl (GS.done ⟨rfl, rfl⟩)
end Go.Proofs.Ytncnnbjhginpfaa
