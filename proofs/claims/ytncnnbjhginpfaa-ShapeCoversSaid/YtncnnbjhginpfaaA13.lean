/- Contracts: Of; Covers of the document's answer; places. Conditions: none; plain lemmas. -/
import Derived.Test.YtncnnbjhginpfaaA12
namespace Go.Proofs.Ytncnnbjhginpfaa
set_option linter.unusedVariables false
set_option linter.unusedSimpArgs false
set_option linter.unnecessarySimpa false
open Go.Proofs
set_option maxHeartbeats 8000000
set_option cbv.maxSteps 1000000
set_option maxRecDepth 100000
set_option pp.maxSteps 900

def ofS (kind s k n : Int) : List (List Int) := if kind = 1 then spreadS k n else if kind = 2 then randomS s k n else runS k n
attribute [cbv_opaque] ofS

theorem of_ok (kind s k n : Int) : ACalls Try.prog 9 [.int .i64 kind, .int .u64 s, .int .i64 k, .int .i64 n] [] (Ret (lists (ofS kind s k n)) []) := by
  refine ACalls.of_vc (fn := Try.f9) rfl rfl mixed ?_
  cbv
  refine ⟨_, ?_, fun s h => h⟩
  cbv
  refine pcase.mk (fun h => ?_) (fun h => ?_)
  · have e : ofS kind s k n = runS k n := by rw [ofS, if_neg (by omega), if_neg (by omega)]
    rw [e]
    cbv
    refine GS.done ?_
    cbv
    refine ⟨by decide, atK.mk (.fn (.func 13) [] []) rfl ?_⟩
    cbv
    refine callVC.pure (run_ok s k n) rfl rfl ?_
    cbv
    exact GS.keep [0] [] rfl (GS.done ⟨rfl, rfl⟩)
  · cbv
    refine pcase.mk (fun h2 => ?_) (fun h2 => ?_)
    · have e : ofS kind s k n = runS k n := by rw [ofS, if_neg (by omega), if_neg (by omega)]
      rw [e]
      cbv
      refine GS.done ?_
      cbv
      refine ⟨by decide, atK.mk (.fn (.func 13) [] []) rfl ?_⟩
      cbv
      refine callVC.pure (run_ok s k n) rfl rfl ?_
      cbv
      exact GS.keep [0] [] rfl (GS.done ⟨rfl, rfl⟩)
    · rcases (show kind = 0 ∨ kind = 1 ∨ kind = 2 by omega) with rfl | rfl | rfl
      · have e : ofS 0 s k n = runS k n := by rw [ofS, if_neg (by omega), if_neg (by omega)]
        rw [e]
        cbv
        refine GS.done ?_
        cbv
        refine ⟨by decide, atK.mk (.fn (.func 13) [] []) rfl ?_⟩
        cbv
        refine callVC.pure (run_ok s k n) rfl rfl ?_
        cbv
        exact GS.keep [0] [] rfl (GS.done ⟨rfl, rfl⟩)
      · have e : ofS 1 s k n = spreadS k n := by rw [ofS, if_pos rfl]
        rw [e]
        cbv
        refine GS.done ?_
        cbv
        refine ⟨by decide, atK.mk (.fn (.func 14) [] []) rfl ?_⟩
        cbv
        refine callVC.pure (spread_ok s k n) rfl rfl ?_
        cbv
        exact GS.keep [0] [] rfl (GS.done ⟨rfl, rfl⟩)
      · have e : ofS 2 s k n = randomS s k n := by rw [ofS, if_neg (by omega), if_pos rfl]
        rw [e]
        cbv
        refine GS.done ?_
        cbv
        refine ⟨by decide, atK.mk (.fn (.func 15) [] []) rfl ?_⟩
        cbv
        refine callVC.pure (random_ok s k n) rfl rfl ?_
        cbv
        exact GS.keep [0] [] rfl (GS.done ⟨rfl, rfl⟩)

def rofS (kind s k n : Int) : List (List Int) :=
  if okB k n then (let M := (minS k n).toNat; let K := k.toNat;
    if kind = 1 then (fillGo (spreadHas (minS k n)) K M s).1 else if kind = 2 then rbaresGo K M (rlacksGo M K (fillGo highHas K M s).1) else (fillGo (runHas k (minS k n)) K M s).1) else []
attribute [cbv_opaque] rofS

theorem refOf_ok (kind s k n : Int) : ACalls Try.prog 10 [.int .i64 kind, .int .u64 s, .int .i64 k, .int .i64 n] [] (Ret (lists (rofS kind s k n)) []) := by
  cases hb : okB k n with
  | true =>
    obtain ⟨h1, h2, h3, h4⟩ := okB_spec hb
    have hM : minS k n = ((minS k n).toNat : Nat) := by omega
    have hK : k = (k.toNat : Nat) := by omega
    by_cases hk1 : kind = 1
    · have := refOf_spread kind s k n _ hk1 hb rfl _ _ hM hK
      rw [rofS, if_pos hb]; simp only; rw [if_pos hk1]; exact this
    · by_cases hk2 : kind = 2
      · have := refOf_high kind s k n _ hk2 hb rfl _ _ hM hK
        rw [rofS, if_pos hb]; simp only; rw [if_neg hk1, if_pos hk2]; exact this
      · have := refOf_run kind s k n _ hk1 hk2 hb rfl _ _ hM hK
        rw [rofS, if_pos hb]; simp only; rw [if_neg hk1, if_neg hk2]; exact this
  | false =>
    have e : rofS kind s k n = [] := by rw [rofS, if_neg (by simp [hb])]
    have hc : k < 1 ∨ k > 48 ∨ n < 1 := by
      simp only [okB, Bool.and_eq_false_iff, decide_eq_false_iff_not] at hb; omega
    rw [e]
    refine ACalls.of_vc (fn := Try.f10) rfl rfl mixed ?_
    have fin : ∀ st : St, st = ⟨[.sl true 0 0 0], [.arr 33 []]⟩ → GS Try.prog 0 st fun s => Ret (.frz [] 0) [] (.ret (s.slot 0)) s.σ := by
      rintro st rfl
      exact GS.closeArr 0 0 0 true 33 [] rfl rfl (by simp) (GS.keep [0] [] rfl (GS.done ⟨rfl, rfl⟩))
    cbv
    refine pcase.mk (fun h => ?_) (fun h => ?_)
    · cbv; exact fin _ rfl
    · cbv
      refine pcase.mk (fun h2 => ?_) (fun h2 => ?_)
      · cbv; exact fin _ rfl
      · cbv
        refine pcase.mk (fun h3 => ?_) (fun h3 => absurd hc (by omega))
        cbv; exact fin _ rfl

def coversTo (F : List (List Int)) (m : Nat) : Bool := (List.range m).all fun p => hasS F p
def rcoversS (F : List (List Int)) (k : Int) : Bool := coversTo F (min k 49).toNat
attribute [cbv_opaque] coversTo rcoversS
theorem coversTo_succ (F : List (List Int)) (m : Nat) : coversTo F (m + 1) = (coversTo F m && hasS F m) := by simp [coversTo, List.range_succ]
theorem coversTo_mono {F : List (List Int)} {m p : Nat} (h : hasS F p = false) (hp : p < m) : coversTo F m = false := by
  cases hc : coversTo F m with
  | false => rfl
  | true =>
    rw [coversTo, List.all_eq_true] at hc
    have := hc p (List.mem_range.2 hp)
    rw [h] at this; cases this

theorem refCovers_ok (F : List (List Int)) (k : Int) : ACalls Try.prog 18 [lists F, .int .i64 k] [] (Ret (.bool (rcoversS F k)) []) := by
  refine ACalls.of_vc (fn := Try.f18) rfl rfl mixed ?_
  cbv
  refine ⟨fun z st => ∃ p : Nat, p ≤ 49 ∧ (p = 0 ∨ (p : Int) ≤ k) ∧ z = 49 - p ∧ coversTo F p = true ∧ st = ⟨mk 19 [(0, lists F), (1, .int .i64 k), (4, .bool false), (5, .int .i64 p)], []⟩, GS.keep [0,1,4,5] [] rfl (GS.done ⟨_, 0, by omega, .inl rfl, rfl, rfl, rfl⟩), ?_⟩
  rintro z st ⟨p, h1, h2, rfl, h3, rfl⟩
  have fin : (¬ (p : Int) < k ∨ p = 49) → rcoversS F k = true := fun h => by
    rw [rcoversS]
    have : (min k 49).toNat = p := by omega
    rw [this]; exact h3
  have neg : (p : Int) < k → p < 49 → hasS F p = false → rcoversS F k = false := fun h h' h'' => by
    rw [rcoversS]; exact coversTo_mono h'' (by omega)
  have nx : (p : Int) < k → ((p + 1 : Nat) : Int) ≤ k := fun h => by omega
  cbv
  refine pcase.mk (fun h4 => ?_) (fun h4 => ?_)
  · cbv
    refine pcase.mk (fun h5 => ?_) (fun h5 => ?_)
    · have h6 : p < 49 := Int.ofNat_lt.1 h5
      cbv
      refine callVC.pure (has_ok F p) rfl rfl ?_
      cbv
      cases hh : hasS F p with
      | false =>
        cbv
        refine GS.keep [0] [] rfl (GS.done ⟨?_, rfl⟩)
        rw [neg h4 h6 hh]; rfl
      | true =>
        cbv
        refine GS.keep [0,1,4,5] [] rfl (GS.done ⟨49 - (p + 1), by omega, p + 1, by omega, .inr (nx h4), rfl, by rw [coversTo_succ, h3, hh]; rfl, ?_⟩)
        rw [w64n (by omega)]; rfl
    · have h6 : p = 49 := by have : ¬ p < 49 := fun h => h5 (Int.ofNat_lt.2 h); omega
      cbv
      refine GS.keep [0] [] rfl (GS.done ⟨?_, rfl⟩)
      rw [fin (.inr h6)]; rfl
  · cbv
    refine GS.keep [0] [] rfl (GS.done ⟨?_, rfl⟩)
    rw [fin (.inl h4)]; rfl

theorem upto_len (m : Nat) : (upto m).length = m := by simp [upto]
attribute [cbv_opaque] upto

theorem places_ok (k : Int) (hk : k ≤ 1000) : ACalls Try.prog 36 [.int .i64 k] [] (Ret (ints (upto k.toNat)) []) := by
  refine ACalls.of_vc (fn := Try.f36) rfl rfl mixed ?_
  obtain ⟨K, hK, hK2⟩ : ∃ K : Nat, k.toNat = K ∧ (if 0 > k then 0 else k) = K := ⟨k.toNat, rfl, by split <;> omega⟩
  have hK1 : K ≤ 1000 := by omega
  rw [hK]
  cbv
  rw [show (if k < 0 then (0 : Int) else k) = K from hK2]
  refine ⟨fun z st => ∃ p : Nat, p ≤ K ∧ z = K - p ∧ st = ⟨mk 16 [(0, .int .i64 k), (2, .nils), (3, rowV 0 p), (6, .int .i64 K), (7, .int .i64 p)], [rowO (.arr 3 ((upto p).map (V.int .i64))) p]⟩, GS.ghost (GS.keep [0,2,3,6,7] [0] rfl (GS.done ⟨_, 0, by omega, rfl, ?_⟩)), ?_⟩
  · cbv
  rintro z st ⟨p, h1, rfl, rfl⟩
  cbv
  refine pcase.mk (fun h4 => ?_) (fun h4 => ?_)
  · have hp := nlt h4
    have eu := upto_succ p
    by_cases hz : p = 0
    · subst hz
      cbv
      refine ⟨by omega, fun _ => ?_⟩
      cbv
      refine GS.keep [0,2,3,6,7] [2] rfl (GS.done ⟨K - (0 + 1), by omega, 0 + 1, by omega, rfl, ?_⟩)
      rw [w64n (by omega), eu, rowV1 (by omega), rowO1 (by omega)]
      cbv
    · rw [rowV1 hz, rowO1 hz]
      cbv
      refine ⟨by rw [upto_len]; omega, by omega, by omega, ?_⟩
      refine GS.keep [0,2,3,6,7] [2] rfl (GS.done ⟨K - (p + 1), by omega, p + 1, by omega, rfl, ?_⟩)
      rw [w64n (by omega), eu, rowV1 (by omega), rowO1 (by omega), List.take_of_length_le (by simp [upto_len])]
      simp only [List.map_append, List.map_cons, List.map_nil]
      cbv
  · have hp : p = K := by have := nge h4; omega
    subst hp
    cbv
    by_cases hz : p = 0
    · subst hz
      cbv
      exact GS.weakSlot 0 (GS.keep [0] [] rfl (GS.done ⟨rfl, rfl⟩))
    · rw [rowV1 hz, rowO1 hz]
      refine GS.closeArr 0 0 p true 3 _ rfl rfl (by rw [tc3]; simp [upto_len, Try.t3]) (GS.keep [0] [] rfl (GS.done ⟨?_, rfl⟩))
      simp only [upto_len]
      rfl

end Go.Proofs.Ytncnnbjhginpfaa
