/- Contracts: Run, Spread. Conditions: none; plain lemmas. -/
import Derived.Test.YtncnnbjhginpfaaA5
namespace Go.Proofs.Ytncnnbjhginpfaa
set_option linter.unusedVariables false
set_option linter.unusedSimpArgs false
set_option linter.unnecessarySimpa false
open Go.Proofs
set_option maxHeartbeats 4000000
set_option cbv.maxSteps 1000000
set_option maxRecDepth 100000
set_option pp.maxSteps 900

theorem frzd_rows (F : List (List Int)) : ((rows F).map (V.frzd Try.prog)).map V.weak = F.map ints := by
  simp only [rows, List.map_map]
  refine List.map_congr_left fun r _ => ?_
  simp only [Function.comp, rowT, ints]
  split
  · rename_i h; obtain rfl := List.length_eq_zero_iff.1 h; rfl
  · simp only [V.frzd, V.weak, tc3]
    rw [List.take_of_length_le (by simp [Try.t3])]

theorem frzd_closed (F : List (List Int)) : V.closeds ((rows F).map (V.frzd Try.prog)) = true := by
  induction F with
  | nil => rfl
  | cons r F ih =>
    have e : (rows (r :: F)).map (V.frzd Try.prog) = V.frzd Try.prog (rowT 3 (r.map (V.int .i64)) r.length) :: (rows F).map (V.frzd Try.prog) := by simp [rows]
    rw [e, V.closeds, ih, Bool.and_true]
    unfold rowT; split <;> rfl

def runS (k n : Int) : List (List Int) := if okB k n then (fillGo (runHas k (minS k n)) k.toNat (minS k n).toNat 0).1 else []
def spreadS (k n : Int) : List (List Int) := if okB k n then (fillGo (spreadHas (minS k n)) k.toNat (minS k n).toNat 0).1 else []
attribute [cbv_opaque] runS spreadS

theorem okB_spec {k n : Int} (h : okB k n = true) : 1 ≤ k ∧ k ≤ 48 ∧ 1 ≤ minS k n ∧ minS k n ≤ k := by
  simp only [okB, Bool.and_eq_true, decide_eq_true_eq] at h
  unfold minS; split <;> omega

theorem run_ok (s k n : Int) : ACalls Try.prog 13 [.agg [.int .u64 s], .int .i64 k, .int .i64 n] [] (Ret (lists (runS k n)) []) := by
  refine ACalls.of_vc (fn := Try.f13) rfl rfl mixed ?_
  cbv
  refine callVC.pure (bounds_ok k n) rfl rfl ?_
  cbv
  cases hb : okB k n with
  | false =>
    cbv
    refine GS.weakSlot 0 (GS.keep [0] [] rfl (GS.done ⟨?_, rfl⟩))
    rw [runS, hb]; rfl
  | true =>
    obtain ⟨h1, h2, h3, h4⟩ := okB_spec hb
    obtain ⟨N, hN⟩ : ∃ N : Nat, minS k n = N := ⟨(minS k n).toNat, by omega⟩
    obtain ⟨K, hK⟩ : ∃ K : Nat, k = K := ⟨k.toNat, by omega⟩
    have hN0 : (N : Int) ≠ 0 := by omega
    have hK1 : K ≤ 48 := by omega
    have hN1 : N ≤ 48 := by omega
    have hN2 : 1 ≤ N := by omega
    cbv
    have hr : runS k n = (fillGo (runHas k N) K N 0).1 := by rw [runS, hb, if_pos rfl, hN, hK]; simp
    rw [hN]
    refine callVC.lend [1,2] [.int .i64 K, .int .i64 N, .fn (.func 27) [] [.ptr 0 0, .ptr 1 0]] [.var 3 [.int .i64 k], .var 3 [.int .i64 N]] _ rfl (by simp) (by rw [hK]; rfl) rfl (fillRun_ok K N k N 0 hN0 hK1 hN1 hN2) ?_
    rintro o s1 ⟨rfl, rfl⟩ -
    cbv
    refine GS.freezeOwn 3 33 (rows (fillGo (runHas k N) K N 0).1) rfl ?_ ?_
    · exact frzd_closed _
    · refine GS.weakFroz 3 33 _ rfl ?_
      rw [frzd_rows]
      refine GS.closeFroz 0 3 N true 33 _ rfl rfl (by rw [tc33]; simp [fillGo_len, Try.t33]) (GS.keep [0] [] rfl (GS.done ⟨?_, rfl⟩))
      rw [hr]
      simp only [lists, fillGo_len]
      rfl

theorem spread_ok (s k n : Int) : ACalls Try.prog 14 [.agg [.int .u64 s], .int .i64 k, .int .i64 n] [] (Ret (lists (spreadS k n)) []) := by
  refine ACalls.of_vc (fn := Try.f14) rfl rfl mixed ?_
  cbv
  refine callVC.pure (bounds_ok k n) rfl rfl ?_
  cbv
  cases hb : okB k n with
  | false =>
    cbv
    refine GS.weakSlot 0 (GS.keep [0] [] rfl (GS.done ⟨?_, rfl⟩))
    rw [spreadS, hb]; rfl
  | true =>
    obtain ⟨h1, h2, h3, h4⟩ := okB_spec hb
    obtain ⟨N, hN⟩ : ∃ N : Nat, minS k n = N := ⟨(minS k n).toNat, by omega⟩
    obtain ⟨K, hK⟩ : ∃ K : Nat, k = K := ⟨k.toNat, by omega⟩
    have hN0 : (N : Int) ≠ 0 := by omega
    have hK1 : K ≤ 48 := by omega
    have hN1 : N ≤ 48 := by omega
    have hN2 : 1 ≤ N := by omega
    cbv
    have hr : spreadS k n = (fillGo (spreadHas N) K N 0).1 := by rw [spreadS, hb, if_pos rfl, hN, hK]; simp
    rw [hN]
    refine callVC.lend [1] [.int .i64 K, .int .i64 N, .fn (.func 28) [] [.ptr 0 0]] [.var 3 [.int .i64 N]] _ rfl (by simp) (by rw [hK]; rfl) rfl (fillSpread_ok K N N 0 hN0 hK1 hN1 hN2) ?_
    rintro o s1 ⟨rfl, rfl⟩ -
    cbv
    refine GS.freezeOwn 2 33 (rows (fillGo (spreadHas N) K N 0).1) rfl ?_ ?_
    · exact frzd_closed _
    · refine GS.weakFroz 2 33 _ rfl ?_
      rw [frzd_rows]
      refine GS.closeFroz 0 2 N true 33 _ rfl rfl (by rw [tc33]; simp [fillGo_len, Try.t33]) (GS.keep [0] [] rfl (GS.done ⟨?_, rfl⟩))
      rw [hr]
      simp only [lists, fillGo_len]
      rfl

end Go.Proofs.Ytncnnbjhginpfaa
