/- Contracts: a number among some, the same numbers. Conditions: none; plain lemmas. -/
import Derived.Test.YtncnnbjhginpfaaA1
namespace Go.Proofs.Ytncnnbjhginpfaa
set_option linter.unusedVariables false
set_option linter.unusedSimpArgs false
set_option linter.unnecessarySimpa false
open Go.Proofs
set_option maxHeartbeats 4000000
set_option cbv.maxSteps 1000000
set_option maxRecDepth 100000
set_option pp.maxSteps 700

theorem maxLen_eq : maxLen = 9223372036854775807 := rfl

def inS (xs : List Int) (x : Int) : Bool := xs.contains x
attribute [cbv_opaque] inS

theorem in_ok (xs : List Int) (x : Int) : ACalls Try.prog 40 [ints xs, .int .i64 x] [] (Ret (.bool (inS xs x)) []) := by
  refine ACalls.len (cs := xs.map (V.int .i64)) (len := xs.length) ⟨Try.f40, rfl, by decide, rfl⟩ (by simp [ints]) fun hl => ?_
  have hml := maxLen_eq
  refine ACalls.of_vc (fn := Try.f40) rfl rfl mixed ?_
  cbv
  refine ⟨fun i s => ∃ k : Nat, k ≤ xs.length ∧ i = xs.length - k ∧ inS (xs.take k) x = false ∧ s = ⟨mk 18 [(0, ints xs), (1, .int .i64 x), (4, .bool false), (5, .int .i64 k)], []⟩, GS.keep [0,1,4,5] [] rfl (GS.done ⟨_, 0, by omega, rfl, by simp [inS], rfl⟩), ?_⟩
  rintro i s ⟨k, h2, rfl, h3, rfl⟩
  cbv
  refine pcase.mk (fun h4 => ?_) (fun h4 => ?_)
  · cbv
    have hk : k < xs.length := by simp only [nc1] at *; simp only [Int.ofNat_eq_natCast] at *; omega
    obtain ⟨y, hy⟩ := get_some hk
    refine ⟨h4, atK.mk (.int .i64 y) (by simp [hy]) ?_⟩
    cbv
    refine pcase.mk (fun h5 => ?_) (fun h5 => ?_)
    · cbv
      refine GS.keep [0] [] rfl (GS.done ⟨?_, rfl⟩)
      have : inS xs x = true := by simp only [inS, List.contains_iff_mem]; exact h5 ▸ List.mem_of_getElem? hy
      rw [this]; rfl
    · cbv
      refine GS.keep [0,1,4,5] [] rfl (GS.done ⟨xs.length - (k + 1), by simp only [nc1] at *; simp only [Int.ofNat_eq_natCast] at *; omega, k + 1, by simp only [nc1] at *; simp only [Int.ofNat_eq_natCast] at *; omega, rfl, ?_, ?_⟩)
      · simp only [inS] at h3 ⊢
        rw [List.take_add_one, hy]
        simp at h3 ⊢
        exact ⟨h3, fun e => h5 e.symm⟩
      · rw [w64s (k := k) (by omega)]; rfl
  · cbv
    refine GS.keep [0] [] rfl (GS.done ⟨?_, rfl⟩)
    simp only [nc1] at *; simp only [Int.ofNat_eq_natCast] at *
    rw [List.take_of_length_le (by omega)] at h3
    rw [h3]; rfl

def hasS (xss : List (List Int)) (x : Int) : Bool := xss.any fun xs => inS xs x
attribute [cbv_opaque] hasS

theorem has_ok (xss : List (List Int)) (x : Int) : ACalls Try.prog 23 [lists xss, .int .i64 x] [] (Ret (.bool (hasS xss x)) []) := by
  refine ACalls.len (cs := xss.map ints) (len := xss.length) ⟨Try.f23, rfl, by decide, rfl⟩ (by simp [lists]) fun hl => ?_
  have hml := maxLen_eq
  refine ACalls.of_vc (fn := Try.f23) rfl rfl mixed ?_
  cbv
  refine ⟨fun i s => ∃ k : Nat, k ≤ xss.length ∧ i = xss.length - k ∧ hasS (xss.take k) x = false ∧ s = ⟨mk 18 [(0, lists xss), (1, .int .i64 x), (4, .bool false), (5, .int .i64 k)], []⟩, GS.keep [0,1,4,5] [] rfl (GS.done ⟨_, 0, by omega, rfl, by simp [hasS], rfl⟩), ?_⟩
  rintro i s ⟨k, h2, rfl, h3, rfl⟩
  cbv
  refine pcase.mk (fun h4 => ?_) (fun h4 => ?_)
  · cbv
    have hk : k < xss.length := by simp only [nc1] at *; simp only [Int.ofNat_eq_natCast] at *; omega
    obtain ⟨y, hy⟩ := get_some hk
    refine ⟨h4, atK.mk (ints y) (by simp [hy]) ?_⟩
    cbv
    refine callVC.pure (in_ok y x) rfl rfl ?_
    cbv
    cases h5 : inS y x with
    | true =>
      cbv
      refine GS.keep [0] [] rfl (GS.done ⟨?_, rfl⟩)
      have : hasS xss x = true := by simp only [hasS, List.any_eq_true]; exact ⟨y, List.mem_of_getElem? hy, h5⟩
      rw [this]; rfl
    | false =>
      cbv
      refine GS.keep [0,1,4,5] [] rfl (GS.done ⟨xss.length - (k + 1), by omega, k + 1, by omega, rfl, ?_, ?_⟩)
      · simp only [hasS] at h3 ⊢
        rw [List.take_add_one, hy]
        simp at h3 ⊢
        exact ⟨h3, h5⟩
      · rw [w64s (k := k) (by omega)]; rfl
  · cbv
    refine GS.keep [0] [] rfl (GS.done ⟨?_, rfl⟩)
    simp only [nc1] at *; simp only [Int.ofNat_eq_natCast] at *
    rw [List.take_of_length_le (by omega)] at h3
    rw [h3]; rfl

theorem sameInts_ok (a b : List Int) : ACalls Try.prog 22 [ints a, ints b] [] (Ret (.bool (a == b)) []) := by
  refine ACalls.len (cs := a.map (V.int .i64)) (len := a.length) ⟨Try.f22, rfl, by decide, rfl⟩ (by simp [ints]) fun ha => ?_
  have hml := maxLen_eq
  refine ACalls.of_vc (fn := Try.f22) rfl rfl mixed ?_
  cbv
  refine pcase.mk (fun h1 => ?_) (fun h1 => ?_)
  · cbv
    refine ⟨fun i s => ∃ k : Nat, k ≤ a.length ∧ i = a.length - k ∧ a.take k = b.take k ∧ s = ⟨mk 26 [(0, ints a), (1, ints b), (4, .bool false), (5, .int .i64 k)], []⟩, GS.keep [0,1,4,5] [] rfl (GS.done ⟨_, 0, by omega, rfl, by simp, rfl⟩), ?_⟩
    rintro i s ⟨k, h2, rfl, h3, rfl⟩
    cbv
    refine pcase.mk (fun h4 => ?_) (fun h4 => ?_)
    · cbv
      have hk : k < a.length := by simp only [nc1] at *; simp only [Int.ofNat_eq_natCast] at *; omega
      obtain ⟨x, hx⟩ := get_some hk
      obtain ⟨y, hy⟩ := get_some (xs := b) (k := k) (by simp only [nc1] at *; simp only [Int.ofNat_eq_natCast] at *; omega)
      refine ⟨h4, atK.mk (.int .i64 x) (by simp [hx]) ?_⟩
      cbv
      refine ⟨by simp only [nc1] at *; simp only [Int.ofNat_eq_natCast] at *; omega, atK.mk (.int .i64 y) (by simp [hy]) ?_⟩
      cbv
      refine pcase.mk (fun h5 => ?_) (fun h5 => ?_)
      · cbv
        refine GS.keep [0,1,4,5] [] rfl (GS.done ⟨a.length - (k + 1), by simp only [nc1] at *; simp only [Int.ofNat_eq_natCast] at *; omega, k + 1, by simp only [nc1] at *; simp only [Int.ofNat_eq_natCast] at *; omega, rfl, ?_, ?_⟩)
        · rw [List.take_add_one, List.take_add_one, h3, hx, hy, h5]
        · have hw := w64s (k := k) (by omega)
          rw [hw]; rfl
      · cbv
        refine GS.keep [0] [] rfl (GS.done ⟨?_, rfl⟩)
        have : (a == b) = false := by simp; rintro rfl; rw [hx] at hy; simp at hy; exact h5 hy
        rw [this]; rfl
    · cbv
      refine GS.keep [0] [] rfl (GS.done ⟨?_, rfl⟩)
      simp only [nc1] at *; simp only [Int.ofNat_eq_natCast] at *
      have : a = b := by rw [← List.take_of_length_le (show a.length ≤ k by omega), h3, List.take_of_length_le (by omega)]
      simp [this]; rfl
  · cbv
    refine GS.keep [0] [] rfl (GS.done ⟨?_, rfl⟩)
    have : (a == b) = false := by simp; rintro rfl; exact h1 rfl
    rw [this]; rfl

def sameS (a b : List (List Int)) : Bool := a == b
attribute [cbv_opaque] sameS

theorem same_ok (a b : List (List Int)) : ACalls Try.prog 8 [lists a, lists b] [] (Ret (.bool (sameS a b)) []) := by
  refine ACalls.len (cs := a.map ints) (len := a.length) ⟨Try.f8, rfl, by decide, rfl⟩ (by simp [lists]) fun ha => ?_
  have hml := maxLen_eq
  refine ACalls.of_vc (fn := Try.f8) rfl rfl mixed ?_
  cbv
  refine pcase.mk (fun h1 => ?_) (fun h1 => ?_)
  · cbv
    refine ⟨fun i s => ∃ (k : Nat) (v : V), k ≤ a.length ∧ i = a.length - k ∧ a.take k = b.take k ∧ s = ⟨mk 27 [(0, lists a), (1, lists b), (4, .bool false), (12, .int .i64 a.length), (13, .int .i64 k)], []⟩, GS.keep [0,1,4,12,13] [] rfl (GS.done ⟨_, 0, .undef, by omega, rfl, by simp, rfl⟩), ?_⟩
    rintro i s ⟨k, _, h2, rfl, h3, rfl⟩
    cbv
    refine pcase.mk (fun h4 => ?_) (fun h4 => ?_)
    · cbv
      have hk : k < a.length := by simp only [nc1] at *; simp only [Int.ofNat_eq_natCast] at *; omega
      have hk' : k < b.length := by simp only [nc1] at *; simp only [Int.ofNat_eq_natCast] at *; omega
      obtain ⟨x, hx⟩ := get_some hk
      obtain ⟨y, hy⟩ := get_some hk'
      refine ⟨h4, atK.mk (ints x) (by simp [hx]) ?_⟩
      cbv
      refine ⟨by simp only [nc1] at *; simp only [Int.ofNat_eq_natCast] at *; omega, atK.mk (ints y) (by simp [hy]) ?_⟩
      cbv
      refine callVC.pure (sameInts_ok x y) rfl rfl ?_
      cbv
      cases h5 : (x == y) with
      | true =>
        cbv
        refine GS.keep [0,1,4,12,13] [] rfl (GS.done ⟨a.length - (k + 1), by omega, k + 1, .undef, by omega, rfl, ?_, ?_⟩)
        · rw [List.take_add_one, List.take_add_one, h3, hx, hy, eq_of_beq h5]
        · rw [w64s (k := k) (by omega)]; rfl
      | false =>
        cbv
        refine GS.keep [0] [] rfl (GS.done ⟨?_, rfl⟩)
        have : sameS a b = false := by
          simp [sameS]; rintro rfl; rw [hx] at hy; cases hy; simp at h5
        rw [this]; rfl
    · cbv
      refine GS.keep [0] [] rfl (GS.done ⟨?_, rfl⟩)
      simp only [nc1] at *; simp only [Int.ofNat_eq_natCast] at *
      have : a = b := by rw [← List.take_of_length_le (show a.length ≤ k by omega), h3, List.take_of_length_le (by omega)]
      simp [this, sameS]; rfl
  · cbv
    refine GS.keep [0] [] rfl (GS.done ⟨?_, rfl⟩)
    have : sameS a b = false := by simp [sameS]; rintro rfl; exact h1 rfl
    rw [this]; rfl

end Go.Proofs.Ytncnnbjhginpfaa
