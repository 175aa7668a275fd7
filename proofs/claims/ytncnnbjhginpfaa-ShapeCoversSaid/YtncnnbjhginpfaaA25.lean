/- Contract: Few; a plain law: two ways to say that all places are covered. Conditions: none. -/
import Derived.Test.YtncnnbjhginpfaaA24
namespace Go.Proofs.Ytncnnbjhginpfaa
set_option linter.unusedVariables false
set_option linter.unusedSimpArgs false
set_option linter.unnecessarySimpa false
open Go.Proofs
set_option maxHeartbeats 8000000
set_option cbv.maxSteps 1000000
set_option maxRecDepth 100000
set_option pp.maxSteps 900

def shortTo (eqs : List (List Int)) (k : Nat) : Bool := (eqs.take k).all fun e => decide (e.length ≤ 60)
def fewS (eqs : List (List Int)) : Bool := shortTo eqs 41 && decide (eqs.length ≤ 30) && decide (sumTo eqs 41 ≤ 300)
theorem shortTo_succ {eqs : List (List Int)} {k : Nat} {e : List Int} (h : eqs[k]? = some e) : shortTo eqs (k + 1) = (shortTo eqs k && decide (e.length ≤ 60)) := by
  simp [shortTo, List.take_add_one, h, List.all_append]
theorem short_bad {eqs : List (List Int)} {k : Nat} {e : List Int} (h : eqs[k]? = some e) (hk : k ≤ 40) (hl : ¬ e.length ≤ 60) : fewS eqs = false := by
  have h1 : shortTo eqs 41 = false := by
    rw [shortTo, List.all_eq_false]
    exact ⟨e, List.mem_of_getElem? (i := k) (by rw [List.getElem?_take, if_pos (by omega)]; exact h), by simpa using hl⟩
  rw [fewS, h1]; rfl
theorem few_bounds {eqs : List (List Int)} (h : fewS eqs = true) : eqs.length ≤ 30 ∧ (∀ e ∈ eqs, e.length ≤ 60) ∧ (eqs.map List.length).sum ≤ 300 := by
  simp only [fewS, Bool.and_eq_true, decide_eq_true_eq] at h
  obtain ⟨⟨h1, h2⟩, h3⟩ := h
  rw [shortTo, List.take_of_length_le (by omega), List.all_eq_true] at h1
  rw [sumTo, List.take_of_length_le (by omega)] at h3
  exact ⟨h2, fun e he => by simpa using h1 e he, h3⟩
attribute [cbv_opaque] shortTo fewS

theorem n40 {a c : Nat} (h : (NatCast.natCast a : Int) ≤ (c : Int)) : a ≤ c := Int.ofNat_le.1 h
theorem n40' {a c : Nat} (h : ¬ (NatCast.natCast a : Int) ≤ (c : Int)) : ¬ a ≤ c := fun g => h (Int.ofNat_le.2 g)
theorem n41 {a c : Nat} (h : (c : Int) < (NatCast.natCast a : Int)) : c < a := Int.ofNat_lt.1 h
theorem n41' {a c : Nat} (h : ¬ (c : Int) < (NatCast.natCast a : Int)) : ¬ c < a := fun g => h (Int.ofNat_lt.2 g)
theorem few_end {eqs : List (List Int)} {k : Nat} (h : k = eqs.length ∧ k ≤ 41 ∨ k = 41) (h1 : shortTo eqs k = true) : fewS eqs = (decide (eqs.length ≤ 30) && decide (sumTo eqs k ≤ 300)) := by
  have e : eqs.take 41 = eqs.take k := by
    rcases h with ⟨h, h2⟩ | rfl
    · rw [h, List.take_length, List.take_of_length_le (by omega)]
    · rfl
  rw [fewS, shortTo, sumTo, e, ← sumTo, ← shortTo, h1, Bool.true_and]
theorem few_ok (eqs : List (List Int)) : ACalls Try.prog 16 [.nils, lists eqs] [] (Ret (.bool (fewS eqs)) []) := by
  generalize hX : fewS eqs = X
  refine ACalls.of_vc (fn := Try.f16) rfl rfl mixed ?_
  cbv
  refine ⟨fun z st => ∃ k : Nat, k ≤ eqs.length ∧ k ≤ 41 ∧ z = 41 - k ∧ shortTo eqs k = true ∧ sumTo eqs k ≤ 60 * k ∧ st = ⟨mk 42 [(0, .nils), (1, lists eqs), (4, .bool false), (5, .int .i64 (sumTo eqs k)), (6, .int .i64 k)], []⟩, GS.keep [0,1,4,5,6] [] rfl (GS.done ⟨_, 0, by omega, by omega, rfl, rfl, by simp [sumTo], ?_⟩), ?_⟩
  · cbv
  rintro z st ⟨k, h1, h2, rfl, h3, h4, rfl⟩
  have hfin : ∀ (h : k = eqs.length ∧ k ≤ 41 ∨ k = 41), (decide (eqs.length ≤ 30) && decide (sumTo eqs k ≤ 300)) = X := fun h => by rw [← hX, few_end h h3]
  obtain ⟨S, hS⟩ : ∃ S, sumTo eqs k = S := ⟨_, rfl⟩
  rw [hS] at hfin h4
  cbv
  rw [hS]
  refine pcase.mk (fun h5 => ?_) (fun h5 => ?_)
  · have hi := nlt h5
    obtain ⟨e, he⟩ := get_some hi
    have e1 := sumTo_succ he
    have e2 := shortTo_succ he
    rw [hS] at e1
    rw [h3, Bool.true_and] at e2
    have hbad := fun h => short_bad (k := k) he h
    cbv
    refine pcase.mk (fun h6 => ?_) (fun h6 => ?_)
    · have h6' : k ≤ 40 := n40 h6
      cbv
      refine ⟨h5, atK.mk (ints e) (map_get he) ?_⟩
      cbv
      refine pcase.mk (fun h7 => ?_) (fun h7 => ?_)
      · have h7' : 60 < e.length := n41 h7
        obtain rfl : X = false := by rw [← hX]; exact hbad h6' (Nat.not_le.2 h7')
        cbv
        exact GS.keep [0] [] rfl (GS.done ⟨rfl, rfl⟩)
      · have h7' : ¬ 60 < e.length := n41' h7
        have e3 : shortTo eqs (k + 1) = true := by rw [e2]; simp; omega
        have ew : IntKind.i64.wrap ((NatCast.natCast S : Int) + NatCast.natCast e.length) = NatCast.natCast (S + e.length) := by
          show IntKind.i64.wrap ((S : Int) + (e.length : Int)) = ((S + e.length : Nat) : Int)
          rw [IntWalk.i64_in _ ⟨by omega, by omega⟩]; omega
        cbv
        refine ⟨h5, atK.mk (ints e) (map_get he) ?_⟩
        cbv
        rw [ew]
        refine GS.keep [0,1,4,5,6] [] rfl (GS.done ⟨41 - (k + 1), by omega, k + 1, by omega, by omega, rfl, e3, by omega, ?_⟩)
        rw [w64n (by omega), e1]
        cbv
    · have h6' : ¬ k ≤ 40 := n40' h6
      have hf := hfin (.inr (by omega))
      cbv
      refine pcase.mk (fun h8 => ?_) (fun h8 => ?_)
      · have h8' : eqs.length ≤ 30 := n40 h8
        rw [decide_eq_true h8', Bool.true_and] at hf
        have hd9 : decide ((NatCast.natCast S : Int) ≤ 300) = X := by rw [← hf]; exact decide_eq_decide.2 (Int.ofNat_le (m := S) (n := 300))
        cbv
        rw [hd9]
        exact GS.keep [0] [] rfl (GS.done ⟨rfl, rfl⟩)
      · have h8' : ¬ eqs.length ≤ 30 := n40' h8
        rw [decide_eq_false h8', Bool.false_and] at hf
        subst hf
        cbv
        exact GS.keep [0] [] rfl (GS.done ⟨rfl, rfl⟩)
  · have hi := nge h5
    have hf := hfin (.inl ⟨by omega, by omega⟩)
    cbv
    refine pcase.mk (fun h8 => ?_) (fun h8 => ?_)
    · have h8' : eqs.length ≤ 30 := n40 h8
      rw [decide_eq_true h8', Bool.true_and] at hf
      have hd9 : decide ((NatCast.natCast S : Int) ≤ 300) = X := by rw [← hf]; exact decide_eq_decide.2 (Int.ofNat_le (m := S) (n := 300))
      cbv
      rw [hd9]
      exact GS.keep [0] [] rfl (GS.done ⟨rfl, rfl⟩)
    · have h8' : ¬ eqs.length ≤ 30 := n40' h8
      rw [decide_eq_false h8', Bool.false_and] at hf
      subst hf
      cbv
      exact GS.keep [0] [] rfl (GS.done ⟨rfl, rfl⟩)

theorem covers_eq (F : List (List Int)) (k : Int) : coversS F k = rcoversS F k := by
  have h : ∀ p : Int, inS F.flatten p = hasS F p := by
    intro p
    rw [Bool.eq_iff_iff, inS_iff]
    simp only [hasS, List.any_eq_true, List.mem_flatten, inS_iff]
  unfold coversS rcoversS coversTo outB upto
  rw [Bool.eq_iff_iff]
  simp [h]
end Go.Proofs.Ytncnnbjhginpfaa
