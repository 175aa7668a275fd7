/- Contracts: give; what Random asks. Conditions: none; plain lemmas. -/
import Derived.Test.YtncnnbjhginpfaaA7
namespace Go.Proofs.Ytncnnbjhginpfaa
set_option linter.unusedVariables false
set_option linter.unusedSimpArgs false
set_option linter.unnecessarySimpa false
open Go.Proofs
set_option maxHeartbeats 4000000
set_option cbv.maxSteps 1000000
set_option maxRecDepth 100000
set_option pp.maxSteps 900

theorem rows_get {F : List (List Int)} {i : Nat} {r : List Int} (h : F[i]? = some r) : (rows F)[i]? = some (rowT 3 (r.map (V.int .i64)) r.length) := by simp [rows, h]
theorem rows_set (F : List (List Int)) (i : Nat) (r : List Int) : rows (F.set i r) = (rows F).set i (rowT 3 (r.map (V.int .i64)) r.length) := by simp [rows, List.map_set]
attribute [cbv_opaque] sortS

theorem give_ok (F : List (List Int)) (i : Nat) (p : Int) (r : List Int) (hi : F[i]? = some r) (hl : r.length ≤ 1000) :
    ACalls Try.prog 33 [.sl true 0 0 F.length, .int .i64 i, .int .i64 p] [.own 33 (rows F)] (Ret (.tup []) [.own 33 (rows (F.set i (sortS (r ++ [p]))))]) := by
  have hil : i < F.length := (List.getElem?_eq_some_iff.1 hi).1
  have hil' : (i : Int) < F.length := by omega
  have hg := rows_get hi
  have hs := rows_set F i (sortS (r ++ [p]))
  have hL := rows_len F
  have hsl : (sortS (r ++ [p])).length = r.length + 1 := by simp [sortS]
  by_cases hz : r.length = 0
  · obtain rfl := List.length_eq_zero_iff.1 hz
    have hg' : (rows F)[i]? = some .nils := hg
    refine ACalls.of_vc (fn := Try.f33) rfl rfl mixed ?_
    cbv
    refine ⟨hil', atK.mk .nils (by simp [hg', V.view]) ?_⟩
    cbv
    refine ⟨by omega, fun _ => ?_⟩
    cbv
    refine ⟨hil', by omega, ?_⟩
    cbv
    refine ⟨hil', atK.mk (.sl true 2 0 1) (by simp [hL, hil]) ?_⟩
    cbv
    refine callVC.lend [2] [.sl true 0 0 1] [.arr 3 [.int .i64 p]] _ rfl (by simp) rfl rfl (sort_ok [p] true (by simp)) ?_
    rintro o s1 ⟨rfl, rfl⟩ -
    cbv
    refine GS.tuck 0 i 2 33 3 _ ((sortS [p]).map (V.int .i64)) 1 rfl (by simp [hL, hil]) rfl (by decide) ?_
    rw [List.set_set]
    refine GS.keep [0] [0] rfl (GS.done ⟨rfl, ?_⟩)
    simp only [List.nil_append, List.length_nil, Nat.zero_add] at hs hsl
    rw [hs, hsl, rowT1 (by simp)]
    cbv
  · refine ACalls.of_gs (fn := Try.f33) rfl rfl mixed ?_
    rw [rowT, if_neg hz] at hg
    refine GS.pluck 0 i 33 3 (rows F) (r.map (V.int .i64)) r.length rfl hg (GS.done ?_)
    cbv
    refine ⟨hil', atK.mk (.sl true 1 0 r.length) (by simp [hL, hil, V.view]) ?_⟩
    cbv
    refine ⟨by omega, by omega, ?_⟩
    cbv
    refine ⟨hil', by simp [hL]; omega, hil', atK.mk (.sl true 3 0 (r.length + 1)) (by simp [hL, hil]) ?_⟩
    cbv
    have e1 : (r.map (V.int .i64)).take r.length ++ [V.int .i64 p] = (r ++ [p]).map (V.int .i64) := by rw [List.take_of_length_le (by simp)]; simp
    have e2 : (r ++ [p]).length = r.length + 1 := by simp
    rw [e1, ← e2]
    refine callVC.lend [3] [.sl true 0 0 (r ++ [p]).length] [.arr 3 ((r ++ [p]).map (V.int .i64))] _ rfl (by simp) rfl rfl (sort_ok (r ++ [p]) true (by rw [e2]; omega)) ?_
    rintro o s1 ⟨rfl, rfl⟩ -
    cbv
    refine GS.tuck 0 i 3 33 3 _ ((sortS (r ++ [p])).map (V.int .i64)) (r ++ [p]).length rfl (by simp [hL, hil]) rfl (by decide) ?_
    rw [List.set_set]
    refine GS.keep [0] [0] rfl (GS.done ⟨rfl, ?_⟩)
    rw [hs, hsl, e2, rowT1 (by omega)]
    cbv

end Go.Proofs.Ytncnnbjhginpfaa
