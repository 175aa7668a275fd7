/- Contracts: Few, Open of the document's answer. Conditions: few numbers. -/
import Derived.Test.YtncnnbjhginpfaaA14
namespace Go.Proofs.Ytncnnbjhginpfaa
set_option linter.unusedVariables false
set_option linter.unusedSimpArgs false
set_option linter.unnecessarySimpa false
open Go.Proofs
set_option maxHeartbeats 8000000
set_option cbv.maxSteps 1000000
set_option maxRecDepth 100000
set_option pp.maxSteps 900

def openStep (ys out : List Int) (x : Int) : List Int := if inS ys x = false ∧ inS out x = false then out ++ [x] else out
def openS (ys eq : List Int) : List Int := eq.foldl (openStep ys) []
def openTo (ys eq : List Int) (k : Nat) : List Int := openS ys (eq.take k)
theorem openTo_succ {ys eq : List Int} {k : Nat} {x : Int} (h : eq[k]? = some x) : openTo ys eq (k + 1) = openStep ys (openTo ys eq k) x := by simp [openTo, openS, List.take_add_one, h]
theorem openS_len (ys eq : List Int) : (openS ys eq).length ≤ eq.length := by
  have key : ∀ (eq out : List Int), (eq.foldl (openStep ys) out).length ≤ out.length + eq.length := by
    intro eq
    induction eq with
    | nil => intro out; simp
    | cons x eq ih => intro out; rw [List.foldl_cons]; have := ih (openStep ys out x); have h2 : (openStep ys out x).length ≤ out.length + 1 := by { unfold openStep; split <;> simp }; simp; omega
  simpa [openS] using key eq []
theorem openTo_len (ys eq : List Int) (k : Nat) : (openTo ys eq k).length ≤ k := by
  have := openS_len ys (eq.take k); simp at this; simp only [openTo]; omega
attribute [cbv_opaque] openS openTo

theorem refOpen_ok (ys eq : List Int) (hl : eq.length ≤ 10000) : ACalls Try.prog 65 [ints ys, ints eq] [] (Ret (ints (openS ys eq)) []) := by
  have hfin : openTo ys eq eq.length = openS ys eq := by rw [openTo, List.take_length]
  generalize openS ys eq = X at hfin
  refine ACalls.of_vc (fn := Try.f65) rfl rfl mixed ?_
  cbv
  refine ⟨fun z st => ∃ (k : Nat) (G : List Int), openTo ys eq k = G ∧ k ≤ eq.length ∧ z = eq.length - k ∧ st = ⟨mk 38 [(0, ints ys), (1, ints eq), (4, .nils), (5, .sl true 0 0 G.length), (6, .int .i64 k)], [.arr 3 (G.map (V.int .i64))]⟩, GS.keep [0,1,4,5,6] [0] rfl (GS.done ⟨_, 0, [], rfl, by omega, rfl, rfl⟩), ?_⟩
  rintro z st ⟨k, G, hG, h2, rfl, rfl⟩
  have hGl : G.length ≤ k := by rw [← hG]; exact openTo_len _ _ _
  cbv
  refine pcase.mk (fun h4 => ?_) (fun h4 => ?_)
  · have hk := nlt h4
    obtain ⟨x, hx⟩ := get_some hk
    have e1 := openTo_succ (ys := ys) hx
    rw [hG] at e1
    cbv
    refine ⟨_, ?_, fun s h => h⟩
    cbv
    refine ⟨h4, atK.mk (.int .i64 x) (by simp [hx]) ?_⟩
    cbv
    refine callVC.pure (in_ok ys x) rfl rfl ?_
    cbv
    cases h5 : inS ys x with
    | true =>
      have e2 : openTo ys eq (k + 1) = G := by rw [e1, openStep, if_neg (by simp [h5])]
      cbv
      refine GS.done ?_
      cbv
      refine GS.keep [0,1,4,5,6] [0] rfl (GS.done ⟨eq.length - (k + 1), by omega, k + 1, _, e2, by omega, rfl, ?_⟩)
      rw [w64n (by omega)]
      cbv
    | false =>
      cbv
      refine ⟨h4, atK.mk (.int .i64 x) (by simp [hx]) ?_⟩
      cbv
      refine callVC.borrow [ints G, .int .i64 x] (.bool (inS G x)) (.one (borrow_ints (by rfl) rfl) (.one (by rfl) .nil)) (in_ok G x) rfl rfl ?_
      cbv
      cases h6 : inS G x with
      | true =>
        have e2 : openTo ys eq (k + 1) = G := by rw [e1, openStep, if_neg (by simp [h6])]
        cbv
        refine GS.done ?_
        cbv
        refine GS.keep [0,1,4,5,6] [0] rfl (GS.done ⟨eq.length - (k + 1), by omega, k + 1, _, e2, by omega, rfl, ?_⟩)
        rw [w64n (by omega)]
        cbv
      | false =>
        have e2 : openTo ys eq (k + 1) = G ++ [x] := by rw [e1, openStep, if_pos ⟨h5, h6⟩]
        cbv
        refine ⟨h4, atK.mk (.int .i64 x) (by simp [hx]) ?_⟩
        cbv
        refine ⟨by omega, by omega, GS.done ?_⟩
        cbv
        refine GS.keep [0,1,4,5,6] [2] rfl (GS.done ⟨eq.length - (k + 1), by omega, k + 1, _, e2, by omega, rfl, ?_⟩)
        rw [w64n (by omega), List.take_of_length_le (by simp)]
        simp only [List.map_append, List.map_cons, List.map_nil, List.length_append, List.length_cons, List.length_nil]
        cbv
  · have hk : k = eq.length := by have := nge h4; omega
    subst hk
    obtain rfl : X = G := by rw [← hfin, hG]
    cbv
    exact GS.closeArr 0 0 X.length true 3 (X.map (V.int .i64)) rfl rfl (by rw [tc3]; simp [Try.t3]) (GS.keep [0] [] rfl (GS.done ⟨rfl, rfl⟩))

theorem refOpenSl_ok (ys eq : List Int) (hl : eq.length ≤ 10000) : ACalls Try.prog 65 [.sl true 0 0 ys.length, ints eq] [.arr 3 (ys.map (V.int .i64))] (Ret (ints (openS ys eq)) [.arr 3 (ys.map (V.int .i64))]) := by
  have hfin : openTo ys eq eq.length = openS ys eq := by rw [openTo, List.take_length]
  generalize openS ys eq = X at hfin
  refine ACalls.of_vc (fn := Try.f65) rfl rfl mixed ?_
  cbv
  refine ⟨fun z st => ∃ (k : Nat) (G : List Int), openTo ys eq k = G ∧ k ≤ eq.length ∧ z = eq.length - k ∧ st = ⟨mk 38 [(0, .sl true 0 0 ys.length), (1, ints eq), (4, .nils), (5, .sl true 1 0 G.length), (6, .int .i64 k)], [.arr 3 (ys.map (V.int .i64)), .arr 3 (G.map (V.int .i64))]⟩, GS.keep [0,1,4,5,6] [0,1] rfl (GS.done ⟨_, 0, [], rfl, by omega, rfl, rfl⟩), ?_⟩
  rintro z st ⟨k, G, hG, h2, rfl, rfl⟩
  have hGl : G.length ≤ k := by rw [← hG]; exact openTo_len _ _ _
  cbv
  refine pcase.mk (fun h4 => ?_) (fun h4 => ?_)
  · have hk := nlt h4
    obtain ⟨x, hx⟩ := get_some hk
    have e1 := openTo_succ (ys := ys) hx
    rw [hG] at e1
    cbv
    refine ⟨_, ?_, fun s h => h⟩
    cbv
    refine ⟨h4, atK.mk (.int .i64 x) (by simp [hx]) ?_⟩
    cbv
    refine callVC.borrow [ints ys, .int .i64 x] (.bool (inS ys x)) (.one (borrow_ints (by rfl) rfl) (.one (by rfl) .nil)) (in_ok ys x) rfl rfl ?_
    cbv
    cases h5 : inS ys x with
    | true =>
      have e2 : openTo ys eq (k + 1) = G := by rw [e1, openStep, if_neg (by simp [h5])]
      cbv
      refine GS.done ?_
      cbv
      refine GS.keep [0,1,4,5,6] [0,1] rfl (GS.done ⟨eq.length - (k + 1), by omega, k + 1, _, e2, by omega, rfl, ?_⟩)
      rw [w64n (by omega)]
      cbv
    | false =>
      cbv
      refine ⟨h4, atK.mk (.int .i64 x) (by simp [hx]) ?_⟩
      cbv
      refine callVC.borrow [ints G, .int .i64 x] (.bool (inS G x)) (.one (borrow_ints (by rfl) rfl) (.one (by rfl) .nil)) (in_ok G x) rfl rfl ?_
      cbv
      cases h6 : inS G x with
      | true =>
        have e2 : openTo ys eq (k + 1) = G := by rw [e1, openStep, if_neg (by simp [h6])]
        cbv
        refine GS.done ?_
        cbv
        refine GS.keep [0,1,4,5,6] [0,1] rfl (GS.done ⟨eq.length - (k + 1), by omega, k + 1, _, e2, by omega, rfl, ?_⟩)
        rw [w64n (by omega)]
        cbv
      | false =>
        have e2 : openTo ys eq (k + 1) = G ++ [x] := by rw [e1, openStep, if_pos ⟨h5, h6⟩]
        cbv
        refine ⟨h4, atK.mk (.int .i64 x) (by simp [hx]) ?_⟩
        cbv
        refine ⟨by omega, by omega, GS.done ?_⟩
        cbv
        refine GS.keep [0,1,4,5,6] [0,3] rfl (GS.done ⟨eq.length - (k + 1), by omega, k + 1, _, e2, by omega, rfl, ?_⟩)
        rw [w64n (by omega), List.take_of_length_le (by simp)]
        simp only [List.map_append, List.map_cons, List.map_nil, List.length_append, List.length_cons, List.length_nil]
        cbv
  · have hk : k = eq.length := by have := nge h4; omega
    subst hk
    obtain rfl : X = G := by rw [← hfin, hG]
    cbv
    exact GS.closeArr 0 1 X.length true 3 (X.map (V.int .i64)) rfl rfl (by rw [tc3]; simp [Try.t3]) (GS.keep [0] [0] rfl (GS.done ⟨rfl, rfl⟩))

end Go.Proofs.Ytncnnbjhginpfaa
