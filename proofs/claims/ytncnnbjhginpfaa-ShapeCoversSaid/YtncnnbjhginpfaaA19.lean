/- Contract: Open by maps. Conditions: few numbers. -/
import Derived.Test.YtncnnbjhginpfaaA18
namespace Go.Proofs.Ytncnnbjhginpfaa
set_option linter.unusedVariables false
set_option linter.unusedSimpArgs false
set_option linter.unnecessarySimpa false
open Go.Proofs
set_option maxHeartbeats 8000000
set_option cbv.maxSteps 1000000
set_option maxRecDepth 100000
set_option pp.maxSteps 900

theorem inS_openTo (ys eq : List Int) (k : Nat) (x : Int) (h : inS ys x = false) : inS (openTo ys eq k) x = inS (ddTo eq k) x := by
  rw [openTo, openS_mem_iff, h, ddTo, inS_dd]; simp

theorem open_ok (ys eq : List Int) (hl : eq.length ≤ 10000) : ACalls Try.prog 75 [.mp 0, ints eq] [mpO ys] (Ret (ints (openS ys eq)) [mpO ys]) := by
  have hfin : openTo ys eq eq.length = openS ys eq := by rw [openTo, List.take_length]
  generalize openS ys eq = X at hfin
  refine ACalls.of_vc (fn := Try.f75) rfl rfl mixed ?_
  cbv
  refine ⟨fun z st => ∃ (k : Nat) (G D : List Int), openTo ys eq k = G ∧ ddTo eq k = D ∧ k ≤ eq.length ∧ z = eq.length - k ∧ st = ⟨mk 34 [(0, .mp 0), (1, ints eq), (4, .nils), (5, rowV 2 G.length), (6, .mp 1), (10, ints eq), (11, .int .i64 eq.length), (12, .int .i64 k)], [mpO ys, mpO D, rowO (.arr 3 (G.map (V.int .i64))) G.length]⟩, GS.ghost (GS.keep [0,1,4,5,6,10,11,12] [0,1,2] rfl (GS.done ⟨_, 0, [], [], rfl, rfl, by omega, rfl, rfl⟩)), ?_⟩
  rintro z st ⟨k, G, D, hG, hD, h2, rfl, rfl⟩
  have hGl : G.length ≤ k := by rw [← hG]; exact openTo_len _ _ _
  cbv
  refine pcase.mk (fun h4 => ?_) (fun h4 => ?_)
  · have hk := nlt h4
    obtain ⟨x, hx⟩ := get_some hk
    have e1 := openTo_succ (ys := ys) hx
    have e3 := ddTo_succ hx
    have e4 := inS_openTo ys eq k x
    rw [hG] at e1
    rw [hD] at e3
    rw [hG, hD] at e4
    cbv
    refine ⟨h4, atK.mk (.int .i64 x) (map_int_get hx) ?_⟩
    refine ⟨_, ?_, fun s h => h⟩
    cbv
    cases h5 : inS ys x with
    | true =>
      have e2 : openTo ys eq (k + 1) = G := by rw [e1, openStep, if_neg (by simp [h5])]
      cbv
      refine GS.done ?_
      cbv
      cases h6 : inS D x with
      | true =>
        have e6 : ddTo eq (k + 1) = D := by rw [e3, addS, h6]; rfl
        cbv
        refine GS.keep [0,1,4,5,6,10,11,12] [0,1,2] rfl (GS.done ⟨eq.length - (k + 1), by omega, k + 1, G, _, e2, e6, by omega, rfl, ?_⟩)
        rw [w64n (by omega)]
        cbv
      | false =>
        have e6 : ddTo eq (k + 1) = D ++ [x] := by rw [e3, addS, h6]; rfl
        cbv
        refine GS.keep [0,1,4,5,6,10,11,12] [0,1,2] rfl (GS.done ⟨eq.length - (k + 1), by omega, k + 1, G, _, e2, e6, by omega, rfl, ?_⟩)
        rw [w64n (by omega)]
        cbv
    | false =>
      have e5 := e4 h5
      cbv
      cases h6 : inS D x with
      | true =>
        have e2 : openTo ys eq (k + 1) = G := by rw [e1, openStep, if_neg (by simp [e5, h6])]
        have e6 : ddTo eq (k + 1) = D := by rw [e3, addS, h6]; rfl
        cbv
        refine GS.done ?_
        cbv
        rw [h6]
        cbv
        refine GS.keep [0,1,4,5,6,10,11,12] [0,1,2] rfl (GS.done ⟨eq.length - (k + 1), by omega, k + 1, G, _, e2, e6, by omega, rfl, ?_⟩)
        rw [w64n (by omega)]
        cbv
      | false =>
        have e2 : openTo ys eq (k + 1) = G ++ [x] := by rw [e1, openStep, if_pos ⟨h5, by rw [e5, h6]⟩]
        have e6 : ddTo eq (k + 1) = D ++ [x] := by rw [e3, addS, h6]; rfl
        have e7 : rowO (.arr 3 ((G ++ [x]).map (V.int .i64))) (G ++ [x]).length = .arr 3 (G.map (V.int .i64) ++ [.int .i64 x]) := by rw [rowO1 (by simp)]; simp
        by_cases hz : G = []
        · subst hz
          cbv
          refine ⟨fun hh => absurd hh (by decide), fun hh => ?_⟩
          cbv
          refine GS.done ?_
          cbv
          rw [h6]
          cbv
          refine GS.keep [0,1,4,5,6,10,11,12] [0,1,4] rfl (GS.done ⟨eq.length - (k + 1), by omega, k + 1, _, _, e2, e6, by omega, rfl, ?_⟩)
          rw [w64n (by omega), e7]
          cbv
        · have hz' : G.length ≠ 0 := fun h => hz (List.length_eq_zero_iff.1 h)
          rw [rowV1 hz', rowO1 hz']
          cbv
          refine ⟨by omega, by omega, GS.done ?_⟩
          cbv
          rw [h6]
          cbv
          refine GS.keep [0,1,4,5,6,10,11,12] [0,1,4] rfl (GS.done ⟨eq.length - (k + 1), by omega, k + 1, _, _, e2, e6, by omega, rfl, ?_⟩)
          rw [w64n (by omega), e7, List.take_of_length_le (by simp), rowV1 (by simp)]
          cbv
  · have hk : k = eq.length := by have := nge h4; omega
    subst hk
    obtain rfl : X = G := by rw [← hfin, hG]
    cbv
    by_cases hz : X = []
    · subst hz
      cbv
      exact GS.weakSlot 0 (GS.keep [0] [0] rfl (GS.done ⟨rfl, rfl⟩))
    · have hz' : X.length ≠ 0 := fun h => hz (List.length_eq_zero_iff.1 h)
      rw [rowV1 hz', rowO1 hz']
      exact GS.closeArr 0 2 X.length true 3 (X.map (V.int .i64)) rfl rfl (by rw [tc3]; simp [Try.t3]) (GS.keep [0] [0] rfl (GS.done ⟨rfl, rfl⟩))
end Go.Proofs.Ytncnnbjhginpfaa
