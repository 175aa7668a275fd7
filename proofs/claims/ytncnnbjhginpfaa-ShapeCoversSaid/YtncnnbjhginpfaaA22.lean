/- Contracts: survives, Burst. Conditions: few numbers. -/
import Derived.Test.YtncnnbjhginpfaaA21
namespace Go.Proofs.Ytncnnbjhginpfaa
set_option linter.unusedVariables false
set_option linter.unusedSimpArgs false
set_option linter.unnecessarySimpa false
open Go.Proofs
set_option maxHeartbeats 8000000
set_option cbv.maxSteps 1000000
set_option maxRecDepth 100000
set_option pp.maxSteps 900

/-- The places p to p + r. -/
def win (k p r : Nat) : List Int := ((upto k).drop p).take r
def survS (eqs : List (List Int)) (k r : Nat) : Bool := (List.range (k - r + 1)).all fun p => peelableS (win k p r) (upto k) eqs
def survTo (eqs : List (List Int)) (k r q : Nat) : Bool := (List.range q).all fun p => peelableS (win k p r) (upto k) eqs
theorem survTo_succ (eqs : List (List Int)) (k r q : Nat) : survTo eqs k r (q + 1) = (survTo eqs k r q && peelableS (win k q r) (upto k) eqs) := by simp [survTo, List.range_succ]
theorem survTo_all (eqs : List (List Int)) (k r : Nat) : survTo eqs k r (k - r + 1) = survS eqs k r := rfl
theorem surv_false {eqs : List (List Int)} {k r q : Nat} (h : q < k - r + 1) (h2 : peelableS (win k q r) (upto k) eqs = false) : survS eqs k r = false := by
  rw [survS, List.all_eq_false]
  exact ⟨q, by simp; omega, by simp [h2]⟩
theorem win_len {k p r : Nat} (h : p + r ≤ k) : (win k p r).length = r := by simp [win, upto_len]; omega
attribute [cbv_opaque] win survS survTo

theorem wsub1 {k r n : Nat} (h : r ≤ k) (hk : k ≤ 48) (hn : k - r + 1 = n) : IntKind.i64.wrap (IntKind.i64.wrap ((NatCast.natCast k : Int) - NatCast.natCast r) + 1) = NatCast.natCast n := by
  show IntKind.i64.wrap (IntKind.i64.wrap ((k : Int) - (r : Int)) + 1) = (n : Int)
  rw [IntWalk.i64_in ((k : Int) - r) ⟨by omega, by omega⟩, IntWalk.i64_in _ ⟨by omega, by omega⟩]
  omega
theorem wadd2 {p r : Nat} (h : p + r ≤ 1000) : IntKind.i64.wrap ((NatCast.natCast p : Int) + NatCast.natCast r) = NatCast.natCast (p + r) := by
  show IntKind.i64.wrap ((p : Int) + (r : Int)) = ((p + r : Nat) : Int)
  rw [IntWalk.i64_in _ ⟨by omega, by omega⟩]
  omega

theorem survives_ok (eqs : List (List Int)) (k r : Nat) (hr : 1 ≤ r) (hrk : r ≤ k) (hk : k ≤ 48) (he : eqs.length ≤ 1000) (hs : (eqs.map List.length).sum ≤ 1000) (hm : ∀ eq ∈ eqs, eq.length ≤ 1000) :
    ACalls Try.prog 38 [lists eqs, .int .i64 k, .int .i64 r] [] (Ret (.bool (survS eqs k r)) []) := by
  have hpl := places_ok k (by omega)
  rw [Int.toNat_natCast] at hpl
  have ha := survTo_all eqs k r
  obtain ⟨n, hn⟩ : ∃ n : Nat, k - r + 1 = n := ⟨_, rfl⟩
  generalize hX : survS eqs k r = X at ha
  refine ACalls.of_vc (fn := Try.f38) rfl rfl mixed ?_
  cbv
  refine callVC.pure hpl rfl rfl ?_
  cbv
  rw [wsub1 hrk hk hn]
  refine ⟨fun z st => ∃ q : Nat, survTo eqs k r q = true ∧ q ≤ n ∧ z = n - q ∧ st = ⟨mk 29 [(0, lists eqs), (2, .int .i64 r), (6, .bool false), (7, ints (upto k)), (14, .int .i64 n), (15, .int .i64 q)], []⟩, GS.keep [0,2,6,7,14,15] [] rfl (GS.done ⟨_, 0, rfl, by omega, rfl, rfl⟩), ?_⟩
  rintro z st ⟨q, h1, h2, rfl, rfl⟩
  have e1 := survTo_succ eqs k r q
  rw [h1, Bool.true_and] at e1
  cbv
  refine pcase.mk (fun h4 => ?_) (fun h4 => ?_)
  · have hi := nlt h4
    have hwl := win_len (show q + r ≤ k by omega)
    obtain ⟨W, hWd⟩ : ∃ W, win k q r = W := ⟨_, rfl⟩
    have hwm : List.take (q + r - q) (List.drop q ((upto k).map (V.int .i64))) = W.map (V.int .i64) := by
      rw [show q + r - q = r by omega, ← hWd, win, List.map_take, List.map_drop]
    have hwl2 : q + r - q = W.length := by rw [← hWd, hwl]; omega
    rw [hWd] at hwl e1
    have hpe := peelable_ok W (upto k) eqs (by rw [hwl]; omega) (by rw [upto_len]; omega) he hs hm
    have hwq := wadd2 (show q + r ≤ 1000 by omega)
    cbv
    rw [hwq]
    refine ⟨by simp, by show (0 : Int) ≤ ((q + r : Nat) : Int); omega, ?_, by show q ≤ (q + r : Nat); omega, fun hc => ?_, fun hc => ?_⟩
    · rw [upto_len]; show (q + r : Nat) ≤ k; omega
    · exact absurd hc.1 (by decide)
    · cbv
      rw [hwm, hwl2]
      refine callVC.pure hpe rfl rfl ?_
      cbv
      cases h8 : peelableS W (upto k) eqs with
      | true =>
        cbv
        refine GS.keep [0,2,6,7,14,15] [] rfl (GS.done ⟨n - (q + 1), by omega, q + 1, by rw [e1, h8], by omega, rfl, ?_⟩)
        rw [w64n (by omega)]
        cbv
      | false =>
        obtain rfl : X = false := by rw [← hX]; exact surv_false (k := k) (r := r) (q := q) (by omega) (by rw [hWd]; exact h8)
        cbv
        exact GS.keep [0] [] rfl (GS.done ⟨rfl, rfl⟩)
  · have hi : q = n := by have := nge h4; omega
    subst hi
    obtain rfl : X = true := by rw [← ha, ← h1, hn]
    cbv
    exact GS.keep [0] [] rfl (GS.done ⟨rfl, rfl⟩)

def burstGo (eqs : List (List Int)) (k : Nat) : Nat → Nat → Nat
  | 0, r => r
  | f + 1, r => if survS eqs k (r + 1) then burstGo eqs k f (r + 1) else r
def burstS (eqs : List (List Int)) (k : Int) : Int := if k < 1 ∨ 48 < k then 0 else burstGo eqs k.toNat k.toNat 0
theorem burst_ok (eqs : List (List Int)) (k : Int) (he : eqs.length ≤ 1000) (hs : (eqs.map List.length).sum ≤ 1000) (hm : ∀ eq ∈ eqs, eq.length ≤ 1000) :
    ACalls Try.prog 19 [lists eqs, .int .i64 k] [] (Ret (.int .i64 (burstS eqs k)) []) := by
  have hX : burstS eqs k = if k < 1 ∨ 48 < k then (0 : Int) else (burstGo eqs k.toNat k.toNat 0 : Int) := by unfold burstS; split <;> rfl
  generalize burstS eqs k = X at hX
  refine ACalls.of_vc (fn := Try.f19) rfl rfl mixed ?_
  cbv
  refine pcase.mk (fun h1 => ?_) (fun h1 => ?_)
  · obtain rfl : X = 0 := by rw [hX, if_pos (.inl h1)]
    cbv
    exact GS.keep [0] [] rfl (GS.done ⟨rfl, rfl⟩)
  · cbv
    refine pcase.mk (fun h2 => ?_) (fun h2 => ?_)
    · obtain rfl : X = 0 := by rw [hX, if_pos (.inr h2)]
      cbv
      exact GS.keep [0] [] rfl (GS.done ⟨rfl, rfl⟩)
    · obtain ⟨K, rfl⟩ : ∃ K : Nat, k = K := ⟨k.toNat, by omega⟩
      rw [if_neg (by omega), Int.toNat_natCast] at hX
      have hK : K ≤ 48 := by omega
      clear h1 h2
      cbv
      refine ⟨fun z st => ∃ r : Nat, r ≤ K ∧ X = (burstGo eqs K (K - r) r : Int) ∧ z = K - r ∧ st = ⟨mk 25 [(0, lists eqs), (1, .int .i64 K), (5, .int .i64 r)], []⟩, GS.keep [0,1,5] [] rfl (GS.done ⟨_, 0, by omega, hX, rfl, rfl⟩), ?_⟩
      rintro z st ⟨r, h2, h3, rfl, rfl⟩
      cbv
      refine pcase.mk (fun h4 => ?_) (fun h4 => ?_)
      · have hi := nlt h4
        have hsv := survives_ok eqs K (r + 1) (by omega) hi hK he hs hm
        have e1 : X = if survS eqs K (r + 1) then (burstGo eqs K (K - (r + 1)) (r + 1) : Int) else (r : Int) := by
          rw [h3, show K - r = (K - (r + 1)) + 1 by omega]
          show ((burstGo eqs K (K - (r + 1) + 1) r : Nat) : Int) = _
          rw [burstGo]; split <;> rfl
        generalize survS eqs K (r + 1) = b at hsv e1
        cbv
        rw [w64n (by omega)]
        refine callVC.pure hsv rfl rfl ?_
        cases b with
        | true =>
          rw [if_pos rfl] at e1
          cbv
          refine GS.keep [0,1,5] [] rfl (GS.done ⟨K - (r + 1), by omega, r + 1, by omega, e1, rfl, ?_⟩)
          rw [w64n (by omega)]
          cbv
        | false =>
          obtain rfl : X = r := by rw [e1]; rfl
          cbv
          exact GS.keep [0] [] rfl (GS.done ⟨rfl, rfl⟩)
      · have hi : r = K := by have := nge h4; omega
        subst hi
        obtain rfl : X = r := by rw [h3, Nat.sub_self]; rfl
        cbv
        exact GS.keep [0] [] rfl (GS.done ⟨rfl, rfl⟩)
end Go.Proofs.Ytncnnbjhginpfaa
