/- Contracts: slices.Grow, Concat; Covers. Conditions: few numbers. -/
import Derived.Test.YtncnnbjhginpfaaA13
namespace Go.Proofs.Ytncnnbjhginpfaa
set_option linter.unusedVariables false
set_option linter.unusedSimpArgs false
set_option linter.unnecessarySimpa false
open Go.Proofs
set_option maxHeartbeats 8000000
set_option cbv.maxSteps 1000000
set_option maxRecDepth 100000
set_option pp.maxSteps 900

theorem borrow_ints {σ : List Ob} {n N : Nat} {ow : Bool} {xs : List Int} (h : σ[n]? = some (.arr 3 (xs.map (V.int .i64)))) (hl : xs.length = N) : ints xs = borrowV Try.prog σ (.sl ow n 0 N) := by
  subst hl
  unfold borrowV borrowN
  have e : xs.length * Try.prog.cellsOf 3 = xs.length := by rw [tc3]; exact Nat.mul_one _
  rw [h]
  simp only
  rw [if_pos (by rw [e]; simp), e]
  simp only [ints, List.drop_zero]
  rw [List.take_of_length_le (by simp)]

theorem grow0_ok : ACalls Try.prog 44 [.nils, .int .i64 0] [] (Ret .nils []) := by
  refine ACalls.of_vc (fn := Try.f44) rfl rfl mixed ?_
  cbv
  refine ⟨_, ?_, fun s h => h⟩
  cbv
  refine GS.done ?_
  cbv
  refine ⟨_, ?_, fun s h => h⟩
  cbv
  rw [show IntKind.i64.wrap (0 - IntKind.i64.wrap 0) = 0 from by decide]
  refine pcase.mk (fun h => absurd h (by decide)) (fun _ => ?_)
  cbv
  refine GS.done ?_
  cbv
  exact GS.keep [0] [] rfl (GS.done ⟨rfl, rfl⟩)

theorem grow_ok (m : Nat) (h0 : 0 < m) (h1 : m ≤ 100000) : ACalls Try.prog 44 [.nils, .int .i64 m] [] (Ret (.sl true 0 0 0) [.arr 3 []]) := by
  have e : IntKind.i64.wrap ((m : Int) - IntKind.i64.wrap 0) = m := by rw [w64 (x := 0) (by omega) (by omega), w64 (by omega) (by omega)]; omega
  have hn : ¬ (m : Int) < 0 := by omega
  have hp : 0 < (m : Int) := by omega
  have hb : (m : Int) ≤ 9223372036854775807 := by omega
  refine ACalls.of_vc (fn := Try.f44) rfl rfl mixed ?_
  cbv
  refine ⟨_, ?_, fun s h => h⟩
  cbv
  refine pcase.mk (fun h => absurd h hn) (fun _ => ?_)
  cbv
  refine GS.done ?_
  cbv
  refine ⟨_, ?_, fun s h => h⟩
  cbv
  rw [e]
  refine pcase.mk (fun _ => ?_) (fun h => absurd hp h)
  cbv
  refine ⟨by simp, by simp, by simp, hp, Int.ofNat_le.2 (by omega), by omega, by simp, by simp, by simp, fun h => absurd h.1 (by simp), fun _ => ?_⟩
  cbv
  refine GS.done ?_
  cbv
  exact GS.keep [0] [0] rfl (GS.done ⟨rfl, rfl⟩)

def sumTo (xss : List (List Int)) (k : Nat) : Nat := ((xss.take k).map List.length).sum
theorem sumTo_succ {xss : List (List Int)} {k : Nat} {r : List Int} (h : xss[k]? = some r) : sumTo xss (k + 1) = sumTo xss k + r.length := by simp [sumTo, List.take_add_one, h]
theorem sumTo_le (xss : List (List Int)) (k : Nat) : sumTo xss k ≤ (xss.map List.length).sum := by
  rw [sumTo, List.map_take]
  conv => rhs; rw [← List.take_append_drop k (xss.map List.length)]
  rw [List.sum_append]
  omega
def flatTo (xss : List (List Int)) (k : Nat) : List Int := (xss.take k).flatten
theorem flatTo_succ {xss : List (List Int)} {k : Nat} {r : List Int} (h : xss[k]? = some r) : flatTo xss (k + 1) = flatTo xss k ++ r := by simp [flatTo, List.take_add_one, h]
theorem flatTo_len (xss : List (List Int)) (k : Nat) : (flatTo xss k).length = sumTo xss k := by simp [flatTo, sumTo, List.length_flatten]
attribute [cbv_opaque] sumTo flatTo

theorem concat_ok (xss : List (List Int)) (hs : (xss.map List.length).sum ≤ 100000) : ACalls Try.prog 34 [lists xss] [] (Ret (ints xss.flatten) []) := by
  refine ACalls.len (cs := xss.map ints) (len := xss.length) ⟨Try.f34, rfl, by decide, rfl⟩ (by simp [lists]) fun hl => ?_
  have hml := maxLen_eq
  generalize hX : xss.flatten = X
  refine ACalls.of_vc (fn := Try.f34) rfl rfl mixed ?_
  cbv
  refine ⟨fun z st => ∃ k : Nat, k ≤ xss.length ∧ z = xss.length - k ∧ st = ⟨mk 36 [(0, lists xss), (2, .nils), (3, .int .i64 (sumTo xss k)), (9, lists xss), (10, .int .i64 xss.length), (11, .int .i64 k)], []⟩, GS.keep [0,2,3,9,10,11] [] rfl (GS.done ⟨_, 0, by omega, rfl, rfl⟩), ?_⟩
  rintro z st ⟨k, h2, rfl, rfl⟩
  cbv
  refine pcase.mk (fun h4 => ?_) (fun h4 => ?_)
  · have hk := nlt h4
    obtain ⟨r, hr⟩ := get_some hk
    have es := sumTo_succ hr
    have hb := sumTo_le xss (k + 1)
    have ew : IntKind.i64.wrap ((sumTo xss k : Int) + (r.length : Int)) = ((sumTo xss (k + 1) : Nat) : Int) := by rw [es, w64 (by omega) (by omega)]; omega
    have hnn : ¬ ((sumTo xss (k + 1) : Nat) : Int) < 0 := by omega
    cbv
    refine ⟨_, ?_, fun s h => h⟩
    cbv
    refine ⟨h4, atK.mk (ints r) (map_get hr) ?_⟩
    cbv
    rw [ew]
    refine pcase.mk (fun h => absurd h hnn) (fun _ => ?_)
    cbv
    refine GS.done ?_
    cbv
    refine GS.keep [0,2,3,9,10,11] [] rfl (GS.done ⟨xss.length - (k + 1), by omega, k + 1, by omega, rfl, ?_⟩)
    rw [w64n (by omega)]
    cbv
  · have hk : k = xss.length := by have := nge h4; omega
    subst hk
    have hS := sumTo_le xss xss.length
    have hfin : flatTo xss xss.length = X := by rw [flatTo, List.take_length, hX]
    have key : ∀ (ow : Nat) (st : St), (ow = 0 ∧ sumTo xss xss.length = 0 ∨ ow = 1 ∧ 0 < sumTo xss xss.length) →
        st = ⟨mk 36 [(0, lists xss), (2, .nils), (6, if ow = 0 then .nils else .sl true 0 0 0)], if ow = 0 then [] else [.arr 3 []]⟩ → True := fun _ _ _ _ => trivial
    clear key
    rcases Nat.eq_zero_or_pos (sumTo xss xss.length) with hz | hz
    · rw [hz]
      cbv
      refine callVC.pure grow0_ok rfl rfl ?_
      cbv
      refine ⟨fun z st => ∃ k : Nat, k ≤ xss.length ∧ z = xss.length - k ∧ st = ⟨mk 36 [(2, .nils), (6, .nils), (25, lists xss), (26, .int .i64 xss.length), (27, .int .i64 k)], []⟩, GS.keep [2,6,25,26,27] [] rfl (GS.done ⟨_, 0, by omega, rfl, rfl⟩), ?_⟩
      rintro z st ⟨k, h2, rfl, rfl⟩
      cbv
      refine pcase.mk (fun h5 => ?_) (fun h5 => ?_)
      · have hk := nlt h5
        obtain ⟨r, hr⟩ := get_some hk
        have hr0 : r.length = 0 := by
          have e1 := sumTo_succ hr
          have e2 : sumTo xss (k + 1) ≤ sumTo xss xss.length := by rw [sumTo, sumTo, List.take_length]; exact sumTo_le xss (k + 1)
          omega
        obtain rfl := List.length_eq_zero_iff.1 hr0
        cbv
        refine ⟨h5, atK.mk (ints []) (map_get hr) ?_⟩
        cbv
        refine ⟨fun _ => ?_, fun h => absurd h (by decide)⟩
        cbv
        refine GS.keep [2,6,25,26,27] [] rfl (GS.done ⟨xss.length - (k + 1), by omega, k + 1, by omega, rfl, ?_⟩)
        rw [w64n (by omega)]
        cbv
      · have hX0 : X = [] := List.length_eq_zero_iff.1 (by rw [← hfin, flatTo_len, hz])
        subst hX0
        cbv
        exact GS.weakSlot 0 (GS.keep [0] [] rfl (GS.done ⟨rfl, rfl⟩))
    · cbv
      refine callVC.lend [] [.nils, .int .i64 (sumTo xss xss.length)] [] _ rfl (by simp) rfl rfl (grow_ok _ hz (by omega)) ?_
      rintro o s1 ⟨rfl, rfl⟩ -
      cbv
      refine ⟨fun z st => ∃ k : Nat, k ≤ xss.length ∧ z = xss.length - k ∧ st = ⟨mk 36 [(2, .nils), (6, .sl true 0 0 (flatTo xss k).length), (25, lists xss), (26, .int .i64 xss.length), (27, .int .i64 k)], [.arr 3 ((flatTo xss k).map (V.int .i64))]⟩, GS.keep [2,6,25,26,27] [0] rfl (GS.done ⟨_, 0, by omega, rfl, rfl⟩), ?_⟩
      rintro z st ⟨k, h2, rfl, rfl⟩
      have hfl := flatTo_len xss k
      have hb1 := sumTo_le xss k
      cbv
      refine pcase.mk (fun h5 => ?_) (fun h5 => ?_)
      · have hk := nlt h5
        obtain ⟨r, hr⟩ := get_some hk
        have e1 := sumTo_succ hr
        have hb := sumTo_le xss (k + 1)
        have ef := flatTo_succ hr
        cbv
        refine ⟨h5, atK.mk (ints r) (map_get hr) ?_⟩
        cbv
        refine ⟨by omega, by omega, ?_⟩
        refine GS.keep [2,6,25,26,27] [1] rfl (GS.done ⟨xss.length - (k + 1), by omega, k + 1, by omega, rfl, ?_⟩)
        rw [w64n (by omega), ef, List.take_of_length_le (by simp)]
        simp only [List.map_append, List.length_append]
        cbv
      · have hk : k = xss.length := by have := nge h5; omega
        subst hk
        rw [hfin]
        cbv
        refine GS.closeArr 0 0 X.length true 3 (X.map (V.int .i64)) rfl rfl (by rw [tc3]; simp [Try.t3]) (GS.keep [0] [] rfl (GS.done ⟨rfl, rfl⟩))

def coversS (F : List (List Int)) (k : Int) : Bool := !outB (upto (min k 49).toNat) F.flatten
attribute [cbv_opaque] coversS

theorem covers_ok (F : List (List Int)) (k : Int) (hs : (F.map List.length).sum ≤ 100000) : ACalls Try.prog 17 [lists F, .int .i64 k] [] (Ret (.bool (coversS F k)) []) := by
  have em : (if 49 < k then (49 : Int) else k) = min k 49 := by omega
  have hc : coversS F k = !outB (upto (min k 49).toNat) F.flatten := rfl
  generalize hX : F.flatten = X at hc
  refine ACalls.of_vc (fn := Try.f17) rfl rfl mixed ?_
  cbv
  have hcc := concat_ok F hs
  rw [hX] at hcc
  refine callVC.pure hcc rfl rfl ?_
  cbv
  rw [show (if 49 < k then (49 : Int) else k) = min k 49 from em]
  refine callVC.pure (places_ok (min k 49) (by omega)) rfl rfl ?_
  cbv
  refine callVC.borrow [ints (upto (min k 49).toNat), .fn (.func 37) [] [.fptr [ints X]]] (.bool (outB (upto (min k 49).toNat) X)) (.one (by rfl) (.one (by rfl) .nil)) (containsCovers_ok _ X) rfl rfl ?_
  cbv
  refine GS.keep [0] [] rfl (GS.done ⟨?_, rfl⟩)
  rw [hc]; rfl

end Go.Proofs.Ytncnnbjhginpfaa
