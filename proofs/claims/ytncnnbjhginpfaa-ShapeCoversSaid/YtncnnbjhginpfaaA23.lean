/- Contract: Burst of the document's answer. Conditions: few numbers. -/
import Derived.Test.YtncnnbjhginpfaaA22
namespace Go.Proofs.Ytncnnbjhginpfaa
set_option linter.unusedVariables false
set_option linter.unusedSimpArgs false
set_option linter.unnecessarySimpa false
open Go.Proofs
set_option maxHeartbeats 8000000
set_option cbv.maxSteps 1000000
set_option maxRecDepth 100000
set_option pp.maxSteps 900

def inW (p r : Nat) (x : Int) : Bool := decide ((p : Int) ≤ x) && decide (x < ((p + r : Nat) : Int))
def outTo (p r j : Nat) : List Int := (upto j).filter fun x => !inW p r x
theorem outTo_in {p r j : Nat} (h1 : p ≤ j) (h2 : j < p + r) : outTo p r (j + 1) = outTo p r j := by
  have h3 : inW p r (j : Int) = true := by simp [inW]; omega
  simp [outTo, upto_succ, List.filter_append, h3]
theorem outTo_out {p r j : Nat} (h : ¬ (p ≤ j ∧ j < p + r)) : outTo p r (j + 1) = outTo p r j ++ [(j : Int)] := by
  have h3 : inW p r (j : Int) = false := by simp [inW]; omega
  simp [outTo, upto_succ, List.filter_append, h3]
theorem win_in {p r j : Nat} (h1 : p ≤ j) (h2 : j < p + r) : win (j + 1) p r = win j p r ++ [(j : Int)] := by
  have hl := upto_len j
  rw [win, win, upto_succ, List.drop_append_of_le_length (by omega), List.take_of_length_le (by simp [upto_len]; omega), List.take_of_length_le (by simp [upto_len]; omega)]
theorem win_out {p r j : Nat} (h : ¬ (p ≤ j ∧ j < p + r)) : win (j + 1) p r = win j p r := by
  have hl := upto_len j
  by_cases h1 : p ≤ j
  · rw [win, win, upto_succ, List.drop_append_of_le_length (by omega), List.take_append_of_le_length (by simp [upto_len]; omega)]
  · rw [win, win, List.drop_of_length_le (by rw [upto_len]; omega), List.drop_of_length_le (by rw [upto_len]; omega)]
theorem outTo_len (p r j : Nat) : (outTo p r j).length ≤ j := by
  refine Nat.le_trans (List.length_filter_le _ _) ?_; rw [upto_len]; exact Nat.le_refl _
theorem win_len2 (p r j : Nat) : (win j p r).length ≤ j := by simp [win, upto_len]; omega
theorem inS_win {p r K : Nat} (h : p + r ≤ K) (x : Int) : inS (win K p r) x = inW p r x := by
  rw [Bool.eq_iff_iff, inS_iff, win, List.mem_iff_getElem?]
  have hg : ∀ i, (((upto K).drop p).take r)[i]? = if i < r then some ((p + i : Nat) : Int) else none := by
    intro i
    rw [List.getElem?_take]
    split
    · rw [List.getElem?_drop, upto, List.getElem?_map, List.getElem?_range (by omega)]; rfl
    · rfl
  constructor
  · rintro ⟨i, hi⟩
    rw [hg] at hi
    split at hi
    · cases hi; simp [inW]; omega
    · cases hi
  · intro hw
    simp [inW] at hw
    refine ⟨(x - p).toNat, ?_⟩
    rw [hg, if_pos (by omega)]
    congr 1; omega
theorem restS_win {p r K : Nat} (h : p + r ≤ K) : restS (win K p r) (upto K) = outTo p r K ∧ restS (win K p r) (outTo p r K) = outTo p r K := by
  constructor
  · unfold restS outTo; congr 1; funext x; rw [inS_win h]
  · unfold restS outTo; rw [List.filter_filter]; congr 1; funext x; rw [inS_win h]; simp
theorem peel_win {p r K : Nat} (h : p + r ≤ K) (eqs : List (List Int)) : peelableS (win K p r) (outTo p r K) eqs = peelableS (win K p r) (upto K) eqs := by
  unfold peelableS; rw [(restS_win h).1, (restS_win h).2]
theorem burstGo_step (eqs : List (List Int)) {K r : Nat} (h : r < K) : burstGo eqs K (K - r) r = if survS eqs K (r + 1) then burstGo eqs K (K - (r + 1)) (r + 1) else r := by
  rw [show K - r = (K - (r + 1)) + 1 by omega, burstGo]
attribute [cbv_opaque] outTo burstGo

theorem refBurst_ok (eqs : List (List Int)) (k : Int) (he : eqs.length ≤ 1000) (hs : (eqs.map List.length).sum ≤ 1000) (hm : ∀ eq ∈ eqs, eq.length ≤ 1000) :
    ACalls Try.prog 20 [lists eqs, .int .i64 k] [] (Ret (.int .i64 (burstS eqs k)) []) := by
  have hX : burstS eqs k = if k < 1 ∨ 48 < k then (0 : Int) else (burstGo eqs k.toNat k.toNat 0 : Int) := by unfold burstS; split <;> rfl
  generalize burstS eqs k = X at hX
  refine ACalls.of_vc (fn := Try.f20) rfl rfl mixed ?_
  cbv
  refine pcase.mk (fun h1 => ?_) (fun h1 => ?_)
  · obtain rfl : X = 0 := by rw [hX, if_pos (.inl h1)]
    cbv
    exact GS.keep [0] [] rfl (GS.done ⟨rfl, rfl⟩)
  cbv
  refine pcase.mk (fun h2 => ?_) (fun h2 => ?_)
  · obtain rfl : X = 0 := by rw [hX, if_pos (.inr h2)]
    cbv
    exact GS.keep [0] [] rfl (GS.done ⟨rfl, rfl⟩)
  obtain ⟨K, rfl⟩ : ∃ K : Nat, k = K := ⟨k.toNat, by omega⟩
  rw [if_neg (by omega), Int.toNat_natCast] at hX
  have hK : K ≤ 48 := by omega
  have hK1 : 1 ≤ K := by omega
  clear h1 h2
  cbv
  refine ⟨fun z st => ∃ r : Nat, r ≤ K ∧ X = (burstGo eqs K (K - r) r : Int) ∧ z = K - r ∧ st = ⟨mk 61 [(0, lists eqs), (1, .int .i64 K), (5, .int .i64 (r + 1 : Nat))], []⟩, GS.keep [0,1,5] [] rfl (GS.done ⟨_, 0, by omega, hX, rfl, rfl⟩), ?_⟩
  rintro z st ⟨r, h2, h3, rfl, rfl⟩
  cbv
  refine pcase.mk (fun h4 => ?_) (fun h4 => ?_)
  · have hr := nle h4
    rw [burstGo_step eqs hr] at h3
    have hall := survTo_all eqs K (r + 1)
    generalize hSS : survS eqs K (r + 1) = S at h3 hall
    cbv
    refine ⟨fun z st => ∃ p : Nat, p ≤ K - r ∧ survTo eqs K (r + 1) p = true ∧ z = K - r - p ∧ st = ⟨mk 61 [(0, lists eqs), (1, .int .i64 K), (5, .int .i64 (r + 1 : Nat)), (6, .int .i64 p)], []⟩, GS.keep [0,1,5,6] [] rfl (GS.done ⟨_, 0, by omega, rfl, rfl, rfl⟩), ?_⟩
    rintro z st ⟨p, h5, h6, rfl, rfl⟩
    have e6 := survTo_succ eqs K (r + 1) p
    rw [h6, Bool.true_and] at e6
    have hpr := wadd2 (show p + (r + 1) ≤ 1000 by omega)
    cbv
    rw [hpr]
    refine pcase.mk (fun h7 => ?_) (fun h7 => ?_)
    · have hp := nle h7
      cbv
      refine ⟨fun z st => ∃ (j : Nat) (O I : List Int), j ≤ K ∧ outTo p (r + 1) j = O ∧ win j p (r + 1) = I ∧ z = K - j ∧ st = ⟨mk 61 [(0, lists eqs), (1, .int .i64 K), (5, .int .i64 (r + 1 : Nat)), (6, .int .i64 p), (7, .sl true 0 0 O.length), (8, .sl true 1 0 I.length), (9, .int .i64 j)], [.arr 3 (O.map (V.int .i64)), .arr 3 (I.map (V.int .i64))]⟩, GS.keep [0,1,5,6,7,8,9] [0,1] rfl (GS.done ⟨_, 0, [], [], by omega, rfl, by simp [win, upto], rfl, ?_⟩), ?_⟩
      · cbv
      rintro z st ⟨j, O, I, h8, hO, hI, rfl, rfl⟩
      have hOl : O.length ≤ j := by rw [← hO]; exact outTo_len _ _ _
      have hIl : I.length ≤ j := by rw [← hI]; exact win_len2 _ _ _
      cbv
      refine pcase.mk (fun h9 => ?_) (fun h9 => ?_)
      · have hj := nlt h9
        have hw1 := @outTo_in p (r + 1) j
        have hw2 := @win_in p (r + 1) j
        have hv1 := @outTo_out p (r + 1) j
        have hv2 := @win_out p (r + 1) j
        rw [hO] at hw1 hv1
        rw [hI] at hw2 hv2
        cbv
        refine ⟨_, ?_, fun s h => h⟩
        cbv
        refine pcase.mk (fun g1 => ?_) (fun g1 => ?_)
        · have g1' := nle g1
          cbv
          rw [hpr]
          refine pcase.mk (fun g2 => ?_) (fun g2 => ?_)
          · have g2' := nlt g2
            have u1 := hw1 g1' g2'
            have u2 := hw2 g1' g2'
            cbv
            refine ⟨by omega, by omega, GS.done ?_⟩
            cbv
            refine GS.keep [0,1,5,6,7,8,9] [0,3] rfl (GS.done ⟨K - (j + 1), by omega, j + 1, O, I ++ [(j : Int)], by omega, u1, u2, rfl, ?_⟩)
            rw [w64n (by omega), List.take_of_length_le (by simp)]
            simp only [List.map_append, List.map_cons, List.map_nil, List.length_append, List.length_cons, List.length_nil]
            cbv
          · have g2' := nge g2
            have u1 := hv1 (by omega)
            have u2 := hv2 (by omega)
            cbv
            refine ⟨by omega, by omega, GS.done ?_⟩
            cbv
            refine GS.keep [0,1,5,6,7,8,9] [3,1] rfl (GS.done ⟨K - (j + 1), by omega, j + 1, O ++ [(j : Int)], I, by omega, u1, u2, rfl, ?_⟩)
            rw [w64n (by omega), List.take_of_length_le (by simp)]
            simp only [List.map_append, List.map_cons, List.map_nil, List.length_append, List.length_cons, List.length_nil]
            cbv
        · have g1' := ngt g1
          have u1 := hv1 (by omega)
          have u2 := hv2 (by omega)
          cbv
          refine ⟨by omega, by omega, GS.done ?_⟩
          cbv
          refine GS.keep [0,1,5,6,7,8,9] [3,1] rfl (GS.done ⟨K - (j + 1), by omega, j + 1, O ++ [(j : Int)], I, by omega, u1, u2, rfl, ?_⟩)
          rw [w64n (by omega), List.take_of_length_le (by simp)]
          simp only [List.map_append, List.map_cons, List.map_nil, List.length_append, List.length_cons, List.length_nil]
          cbv
      · have hj : j = K := by have := nge h9; omega
        subst hj
        have hpe := refPeelable_ok I O eqs (by omega) (by omega) he hs hm
        rw [show peelableS I O eqs = peelableS (win j p (r + 1)) (upto j) eqs by rw [← hI, ← hO]; exact peel_win hp eqs] at hpe
        generalize hb : peelableS (win j p (r + 1)) (upto j) eqs = b at hpe e6
        cbv
        refine callVC.close [ints I, ints O, lists eqs] [.froz 3 (O.map (V.int .i64)), .froz 3 (I.map (V.int .i64))] (closeVs_cons (closeV_row (by rfl) (by rw [tc3]; simp [Try.t3])) (closeVs_cons (closeV_row (by rfl) (by rw [tc3]; simp [Try.t3])) (by rfl))) hpe rfl rfl ?_
        cases b with
        | true =>
          cbv
          refine GS.keep [0,1,5,6] [] rfl (GS.done ⟨j - r - (p + 1), by omega, p + 1, by omega, e6, rfl, ?_⟩)
          rw [w64n (by omega)]
          cbv
        | false =>
          have hS : S = false := by rw [← hSS]; exact surv_false (k := j) (r := r + 1) (q := p) (by omega) hb
          obtain rfl : X = r := by rw [h3, hS]; rfl
          have ew : IntKind.i64.wrap ((NatCast.natCast (r + 1) : Int) - 1) = NatCast.natCast r := by
            show IntKind.i64.wrap (((r + 1 : Nat) : Int) - 1) = (r : Int)
            rw [IntWalk.i64_in _ ⟨by omega, by omega⟩]; omega
          cbv
          rw [ew]
          exact GS.keep [0] [] rfl (GS.done ⟨rfl, rfl⟩)
    · have hp : p = K - r := by have := ngt h7; omega
      have hS : S = true := by rw [← hall, show K - (r + 1) + 1 = K - r by omega, ← hp, h6]
      rw [hS, if_pos rfl] at h3
      cbv
      refine GS.keep [0,1,5] [] rfl (GS.done ⟨K - (r + 1), by omega, r + 1, by omega, h3, rfl, ?_⟩)
      rw [w64n (by omega)]
      cbv
  · have hi : r = K := by have := ngt h4; omega
    subst hi
    obtain rfl : X = r := by rw [h3, Nat.sub_self]; unfold burstGo; rfl
    cbv
    exact GS.keep [0] [] rfl (GS.done ⟨rfl, rfl⟩)
end Go.Proofs.Ytncnnbjhginpfaa
