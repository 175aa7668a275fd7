/- Contracts: slices.Index, Contains, ContainsFunc at the closures of shape. Conditions: none; plain lemmas. -/
import Derived.Test.YtncnnbjhginpfaaA8
namespace Go.Proofs.Ytncnnbjhginpfaa
set_option linter.unusedVariables false
set_option linter.unusedSimpArgs false
set_option linter.unnecessarySimpa false
open Go.Proofs
set_option maxHeartbeats 4000000
set_option cbv.maxSteps 1000000
set_option maxRecDepth 100000
set_option pp.maxSteps 900

def findI {α : Type} (f : α → Bool) (l : List α) : Int := match l.findIdx? f with | some j => j | none => -1
attribute [cbv_opaque] findI
theorem findI_nonneg {α : Type} (f : α → Bool) (l : List α) : decide (findI f l ≥ 0) = l.any f := by
  unfold findI
  cases h : l.findIdx? f with
  | none =>
    rw [List.findIdx?_eq_none_iff] at h
    have : l.any f = false := by simpa using h
    rw [this]; rfl
  | some j =>
    have := List.findIdx?_isSome (xs := l) (p := f)
    rw [h] at this
    rw [← this]; simp
theorem findI_at {α : Type} {f : α → Bool} {l : List α} {k : Nat} {y : α} (h : (l.take k).any f = false) (hy : l[k]? = some y) (hf : f y = true) : findI f l = (k : Int) := by
  unfold findI
  have hk := (List.getElem?_eq_some_iff.1 hy).1
  have : l.findIdx? f = some k := by
    rw [List.findIdx?_eq_some_iff_getElem]
    refine ⟨hk, by rw [(List.getElem?_eq_some_iff.1 hy).2]; exact hf, fun j hj => ?_⟩
    simp only [List.any_eq_false] at h
    have := h l[j] (List.mem_iff_getElem?.2 ⟨j, by rw [List.getElem?_take_of_lt hj]; simp [show j < l.length by omega]⟩)
    simpa using this
  rw [this]
theorem findI_none {α : Type} {f : α → Bool} {l : List α} {k : Nat} (h : (l.take k).any f = false) (hk : l.length ≤ k) : findI f l = -1 := by
  unfold findI
  rw [List.take_of_length_le hk] at h
  have : l.findIdx? f = none := by rw [List.findIdx?_eq_none_iff]; simpa using h
  rw [this]
theorem any_succ {α : Type} {f : α → Bool} {l : List α} {k : Nat} {y : α} (h : (l.take k).any f = false) (hy : l[k]? = some y) (hf : f y = false) : (l.take (k + 1)).any f = false := by
  rw [List.take_add_one, hy]; simp_all

theorem index_ok (xs : List Int) (x : Int) : ACalls Try.prog 42 [ints xs, .int .i64 x] [] (Ret (.int .i64 (findI (fun y => x == y) xs)) []) := by
  refine ACalls.len (cs := xs.map (V.int .i64)) (len := xs.length) ⟨Try.f42, rfl, by decide, rfl⟩ (by simp [ints]) fun hl => ?_
  have hml := maxLen_eq
  refine ACalls.of_vc (fn := Try.f42) rfl rfl mixed ?_
  cbv
  refine ⟨fun z st => ∃ k : Nat, k ≤ xs.length ∧ z = xs.length - k ∧ (xs.take k).any (fun y => x == y) = false ∧ st = ⟨mk 19 [(0, ints xs), (1, .int .i64 x), (7, .int .i64 xs.length), (8, .int .i64 k)], []⟩, GS.keep [0,1,7,8] [] rfl (GS.done ⟨_, 0, by omega, rfl, by simp, rfl⟩), ?_⟩
  rintro z st ⟨k, h2, rfl, h3, rfl⟩
  cbv
  refine pcase.mk (fun h4 => ?_) (fun h4 => ?_)
  · have hk := nlt h4
    obtain ⟨y, hy⟩ := get_some hk
    cbv
    refine ⟨h4, atK.mk (.int .i64 y) (by simp [hy]) ?_⟩
    cbv
    refine pcase.mk (fun h5 => ?_) (fun h5 => ?_)
    · cbv
      refine GS.keep [0] [] rfl (GS.done ⟨?_, rfl⟩)
      rw [findI_at h3 hy (by simpa using h5)]; rfl
    · cbv
      refine GS.keep [0,1,7,8] [] rfl (GS.done ⟨xs.length - (k + 1), by omega, k + 1, by omega, rfl, any_succ h3 hy (by simpa using h5), ?_⟩)
      rw [w64n (by omega)]; rfl
  · have hk := nge h4
    cbv
    refine GS.keep [0] [] rfl (GS.done ⟨?_, rfl⟩)
    rw [findI_none h3 hk]; rfl

theorem contains_ok (xs : List Int) (x : Int) : ACalls Try.prog 32 [ints xs, .int .i64 x] [] (Ret (.bool (inS xs x)) []) := by
  refine ACalls.of_vc (fn := Try.f32) rfl rfl mixed ?_
  cbv
  refine callVC.pure (index_ok xs x) rfl rfl ?_
  cbv
  refine GS.keep [0] [] rfl (GS.done ⟨?_, rfl⟩)
  have := findI_nonneg (fun y => x == y) xs
  have e : inS xs x = decide (findI (fun y => x == y) xs ≥ 0) := by rw [this, inS, List.contains_eq_any_beq]
  rw [e]; rfl

theorem random1_ok (xs : List Int) (x : Int) : ACalls Try.prog 31 [ints xs, .fptr [.int .i64 x]] [] (Ret (.bool (inS xs x)) []) := by
  refine ACalls.of_vc (fn := Try.f31) rfl rfl mixed ?_
  cbv
  refine callVC.pure (contains_ok xs x) rfl rfl ?_
  cbv
  exact GS.keep [0] [] rfl (GS.done ⟨rfl, rfl⟩)

theorem covers1_ok (xs : List Int) (x : Int) : ACalls Try.prog 37 [.int .i64 x, .fptr [ints xs]] [] (Ret (.bool (!inS xs x)) []) := by
  refine ACalls.of_vc (fn := Try.f37) rfl rfl mixed ?_
  cbv
  refine callVC.pure (contains_ok xs x) rfl rfl ?_
  cbv
  exact GS.keep [0] [] rfl (GS.done ⟨rfl, rfl⟩)

theorem indexRandom_ok (xss : List (List Int)) (x : Int) : ACalls Try.prog 41 [lists xss, .fn (.func 31) [] [.fptr [.int .i64 x]]] [] (Ret (.int .i64 (findI (fun r => inS r x) xss)) []) := by
  refine ACalls.len (cs := xss.map ints) (len := xss.length) ⟨Try.f41, rfl, by decide, rfl⟩ (by simp [lists]) fun hl => ?_
  have hml := maxLen_eq
  refine ACalls.of_vc (fn := Try.f41) rfl rfl mixed ?_
  cbv
  refine ⟨fun z st => ∃ k : Nat, k ≤ xss.length ∧ z = xss.length - k ∧ (xss.take k).any (fun r => inS r x) = false ∧ st = ⟨mk 19 [(0, lists xss), (1, .fn (.func 31) [] [.fptr [.int .i64 x]]), (7, .int .i64 xss.length), (8, .int .i64 k)], []⟩, GS.keep [0,1,7,8] [] rfl (GS.done ⟨_, 0, by omega, rfl, by simp, rfl⟩), ?_⟩
  rintro z st ⟨k, h2, rfl, h3, rfl⟩
  cbv
  refine pcase.mk (fun h4 => ?_) (fun h4 => ?_)
  · have hk := nlt h4
    obtain ⟨y, hy⟩ := get_some hk
    cbv
    refine ⟨h4, atK.mk (ints y) (by simp [hy]) ?_⟩
    cbv
    refine callVC.pure (random1_ok y x) rfl rfl ?_
    cbv
    cases h5 : inS y x with
    | true =>
      cbv
      refine GS.keep [0] [] rfl (GS.done ⟨?_, rfl⟩)
      rw [findI_at h3 hy h5]; rfl
    | false =>
      cbv
      refine GS.keep [0,1,7,8] [] rfl (GS.done ⟨xss.length - (k + 1), by omega, k + 1, by omega, rfl, any_succ h3 hy h5, ?_⟩)
      rw [w64n (by omega)]; rfl
  · have hk := nge h4
    cbv
    refine GS.keep [0] [] rfl (GS.done ⟨?_, rfl⟩)
    rw [findI_none h3 hk]; rfl

theorem containsRandom_ok (xss : List (List Int)) (x : Int) : ACalls Try.prog 30 [lists xss, .fn (.func 31) [] [.fptr [.int .i64 x]]] [] (Ret (.bool (hasS xss x)) []) := by
  refine ACalls.of_vc (fn := Try.f30) rfl rfl mixed ?_
  cbv
  refine callVC.pure (indexRandom_ok xss x) rfl rfl ?_
  cbv
  refine GS.keep [0] [] rfl (GS.done ⟨?_, rfl⟩)
  have := findI_nonneg (fun r => inS r x) xss
  have e : hasS xss x = decide (findI (fun r => inS r x) xss ≥ 0) := by rw [this, hasS]
  rw [e]; rfl

theorem indexCovers_ok (xs all : List Int) : ACalls Try.prog 45 [ints xs, .fn (.func 37) [] [.fptr [ints all]]] [] (Ret (.int .i64 (findI (fun x => !inS all x) xs)) []) := by
  refine ACalls.len (cs := xs.map (V.int .i64)) (len := xs.length) ⟨Try.f45, rfl, by decide, rfl⟩ (by simp [ints]) fun hl => ?_
  have hml := maxLen_eq
  refine ACalls.of_vc (fn := Try.f45) rfl rfl mixed ?_
  cbv
  refine ⟨fun z st => ∃ k : Nat, k ≤ xs.length ∧ z = xs.length - k ∧ (xs.take k).any (fun x => !inS all x) = false ∧ st = ⟨mk 19 [(0, ints xs), (1, .fn (.func 37) [] [.fptr [ints all]]), (7, .int .i64 xs.length), (8, .int .i64 k)], []⟩, GS.keep [0,1,7,8] [] rfl (GS.done ⟨_, 0, by omega, rfl, by simp, rfl⟩), ?_⟩
  rintro z st ⟨k, h2, rfl, h3, rfl⟩
  cbv
  refine pcase.mk (fun h4 => ?_) (fun h4 => ?_)
  · have hk := nlt h4
    obtain ⟨y, hy⟩ := get_some hk
    cbv
    refine ⟨h4, atK.mk (.int .i64 y) (by simp [hy]) ?_⟩
    cbv
    refine callVC.pure (covers1_ok all y) rfl rfl ?_
    cbv
    cases h5 : inS all y with
    | false =>
      cbv
      refine GS.keep [0] [] rfl (GS.done ⟨?_, rfl⟩)
      rw [findI_at h3 hy (by simp [h5])]; rfl
    | true =>
      cbv
      refine GS.keep [0,1,7,8] [] rfl (GS.done ⟨xs.length - (k + 1), by omega, k + 1, by omega, rfl, any_succ h3 hy (by simp [h5]), ?_⟩)
      rw [w64n (by omega)]; rfl
  · have hk := nge h4
    cbv
    refine GS.keep [0] [] rfl (GS.done ⟨?_, rfl⟩)
    rw [findI_none h3 hk]; rfl

def outB (xs all : List Int) : Bool := xs.any fun x => !inS all x
attribute [cbv_opaque] outB

theorem containsCovers_ok (xs all : List Int) : ACalls Try.prog 35 [ints xs, .fn (.func 37) [] [.fptr [ints all]]] [] (Ret (.bool (outB xs all)) []) := by
  refine ACalls.of_vc (fn := Try.f35) rfl rfl mixed ?_
  cbv
  refine callVC.pure (indexCovers_ok xs all) rfl rfl ?_
  cbv
  refine GS.keep [0] [] rfl (GS.done ⟨?_, rfl⟩)
  rw [outB, ← findI_nonneg]; rfl

end Go.Proofs.Ytncnnbjhginpfaa
