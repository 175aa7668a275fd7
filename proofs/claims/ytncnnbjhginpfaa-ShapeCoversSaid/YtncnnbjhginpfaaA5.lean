/- Contracts: fill, by each closure. Conditions: none; plain lemmas. (Printed by genA5.py.) -/
import Derived.Test.YtncnnbjhginpfaaA4
import Derived.Test.YtncnnbjhginpfaaCxT
namespace Go.Proofs.Ytncnnbjhginpfaa
set_option linter.unusedVariables false
set_option linter.unusedSimpArgs false
set_option linter.unnecessarySimpa false
open Go.Proofs
set_option maxHeartbeats 4000000
set_option cbv.maxSteps 1000000
set_option maxRecDepth 100000
set_option pp.maxSteps 900

abbrev Has := Int → Int → Int → Bool × Int
def rowStep (has : Has) (i : Int) (rs : List Int × Int) (p : Int) : List Int × Int := (if (has rs.2 i p).1 then rs.1 ++ [p] else rs.1, (has rs.2 i p).2)
def upto (m : Nat) : List Int := (List.range m).map fun (p : Nat) => (p : Int)
def rowGo (has : Has) (i : Int) (m : Nat) (s : Int) : List Int × Int := (upto m).foldl (rowStep has i) ([], s)
def fillStep (has : Has) (k : Nat) (os : List (List Int) × Int) (i : Int) : List (List Int) × Int := (os.1 ++ [(rowGo has i k os.2).1], (rowGo has i k os.2).2)
def fillGo (has : Has) (k n : Nat) (s : Int) : List (List Int) × Int := (upto n).foldl (fillStep has k) ([], s)
theorem upto_succ (m : Nat) : upto (m + 1) = upto m ++ [(m : Int)] := by simp [upto, List.range_succ]
theorem rowGo_succ (has : Has) (i : Int) (m : Nat) (s : Int) : rowGo has i (m + 1) s = rowStep has i (rowGo has i m s) m := by simp [rowGo, upto_succ]
theorem fillGo_succ (has : Has) (k n : Nat) (s : Int) : fillGo has k (n + 1) s = fillStep has k (fillGo has k n s) n := by simp [fillGo, upto_succ]
theorem rowGo_len (has : Has) (i : Int) (m : Nat) (s : Int) : (rowGo has i m s).1.length ≤ m := by
  induction m with
  | zero => simp [rowGo, upto]
  | succ m ih => rw [rowGo_succ, rowStep]; split <;> simp <;> omega
theorem fillGo_len (has : Has) (k n : Nat) (s : Int) : (fillGo has k n s).1.length = n := by
  induction n with
  | zero => simp [fillGo, upto]
  | succ m ih => rw [fillGo_succ, fillStep]; simp [ih]
attribute [cbv_opaque] rowGo fillGo rowV rowO rowT rowStep fillStep

def rows (rs : List (List Int)) : List V := rs.map fun r => rowT 3 (r.map (V.int .i64)) r.length
attribute [cbv_opaque] rows
@[cbv_eval] theorem rows_nil : rows [] = [] := rfl
theorem rows_snoc (F : List (List Int)) (G : List Int) : rows (F ++ [G]) = rows F ++ [rowT 3 (G.map (V.int .i64)) G.length] := by simp [rows]
theorem rows_len (F : List (List Int)) : (rows F).length = F.length := by simp [rows]
theorem rowT1 {t : TypeId} {cs : List V} {len : Nat} (h : len ≠ 0) : rowT t cs len = .tree t cs len := if_neg h
@[cbv_eval] theorem rens_rows (π : Nat → Option Nat) (rs : List (List Int)) : V.rens π (rows rs) = rows rs := rens_rowT 3 (fun r : List Int => r.map (V.int .i64)) (fun r => r.length) rs
@[cbv_eval] theorem rowGo0 (has : Has) (i s : Int) : rowGo has i 0 s = ([], s) := rfl
@[cbv_eval] theorem fillGo0 (has : Has) (k : Nat) (s : Int) : fillGo has k 0 s = ([], s) := rfl

def spreadHas (m : Int) : Has := fun s i p => (spreadB m i p, s)
def runHas (a m : Int) : Has := fun s i p => (runB a m i p, s)
def lotB (s : Int) : Bool := ((nextS s).fdiv 9223372036854775808) == 1
def lotHas : Has := fun s _ _ => (lotB s, nextS s)
attribute [cbv_opaque] spreadHas runHas lotHas lotB

theorem lot_ok (s i p : Int) : ACalls Try.prog 29 [.ptr 0 0, .int .i64 i, .int .i64 p] [.var 25 [.int .u64 s]] (Ret (.bool (lotB s)) [.var 25 [.int .u64 (nextS s)]]) := by
  refine ACalls.of_vc (fn := Try.f29) rfl rfl mixed ?_
  cbv
  refine callVC.pure (next_ok s) rfl rfl ?_
  cbv
  refine GS.keep [0] [0] rfl (GS.done ⟨?_, ?_⟩)
  · rw [lotB]; rfl
  · rfl

theorem fillSpread_ok (k n : Nat) (m : Int) (s : Int) (hm : m ≠ 0) (hk : k ≤ 48) (hn : n ≤ 48) (hn1 : 1 ≤ n) :
    ACalls Try.prog 26 [.int .i64 k, .int .i64 n, .fn (.func 28) [] [.ptr 0 0]] [.var 3 [.int .i64 m]]
      (Ret (.sl true 1 0 n) [.var 3 [.int .i64 m], .own 33 (rows (fillGo (spreadHas m) k n s).1)]) := by
  refine ACalls.of_vc (fn := Try.f26) rfl rfl mixed ?_
  cbv
  refine ⟨fun z st => ∃ (i : Nat) (F : List (List Int)) (c : Int), fillGo (spreadHas m) k i s = (F, c) ∧ i ≤ n ∧ z = n - i ∧ st = ⟨mk 34 [(0, .int .i64 k), (1, .int .i64 n), (2, .fn (.func 28) [] [.ptr 0 0]), (6, .nils), (7, rowV 1 i), (11, .int .i64 n), (12, .int .i64 i)],
    [.var 3 [.int .i64 m], rowO (.own 33 (rows F)) i]⟩, GS.ghost (GS.keep [0,1,2,6,7,11,12] [0,1] rfl (GS.done ⟨_, 0, [], s, rfl, by omega, rfl, rfl⟩)), ?_⟩
  rintro z st ⟨i, F, c, hF, h2, rfl, rfl⟩
  have hFl : F.length = i := by have := fillGo_len (spreadHas m) k i s; rw [hF] at this; exact this
  cbv
  refine pcase.mk (fun h4 => ?_) (fun h4 => ?_)
  · cbv
    have hi := nlt h4
    refine ⟨fun z st => ∃ (p : Nat) (G : List Int) (d : Int), rowGo (spreadHas m) i p c = (G, d) ∧ p ≤ k ∧ z = k - p ∧ st = ⟨mk 34 [(0, .int .i64 k), (1, .int .i64 n), (2, .fn (.func 28) [] [.ptr 0 0]), (6, .nils), (7, rowV 1 i), (8, .int .i64 i), (9, rowV 2 G.length), (11, .int .i64 n), (12, .int .i64 i), (15, .int .i64 k), (16, .int .i64 p)],
      [.var 3 [.int .i64 m], rowO (.own 33 (rows F)) i, rowO (.arr 3 (G.map (V.int .i64))) G.length]⟩,
      GS.ghost (GS.keep [0,1,2,6,7,8,9,11,12,15,16] [0,1,2] rfl (GS.done ⟨_, 0, [], c, rfl, by omega, rfl, ?_⟩)), ?_⟩
    · cbv
    · rintro z st ⟨p, G, d, hG, h5, rfl, rfl⟩
      have hG1 : G.length ≤ 48 := by have := rowGo_len (spreadHas m) i p c; rw [hG] at this; simp at this; omega
      cbv
      refine pcase.mk (fun h6 => ?_) (fun h6 => ?_)
      · cbv
        have hp := nlt h6
        refine ⟨_, ?_, fun s h => h⟩
        cbv
        refine callVC.lend [0] [.int .i64 i, .int .i64 p, .ptr 0 0] [.var 3 [.int .i64 m]] _ rfl (by simp) rfl rfl (spread1_ok m i p hm) ?_
        rintro o s1 ⟨rfl, rfl⟩ -
        cbv
        cases hb : spreadB m i p with
        | true =>
          have e : rowGo (spreadHas m) i (p + 1) c = (G ++ [(p : Int)], d) := by rw [rowGo_succ, hG, rowStep]; simp [spreadHas, hb]
          have e2 : rowV 2 (G ++ [(p : Int)]).length = .sl true 2 0 (G.length + 1) := by rw [rowV1 (by simp)]; simp
          have e3 : rowO (.arr 3 ((G ++ [(p : Int)]).map (V.int .i64))) (G ++ [(p : Int)]).length = .arr 3 (G.map (V.int .i64) ++ [.int .i64 p]) := by rw [rowO1 (by simp)]; simp
          by_cases hz : G.length = 0
          · obtain rfl := List.length_eq_zero_iff.1 hz
            cbv
            refine ⟨by omega, fun _ => ?_⟩
            cbv
            refine GS.done ?_
            cbv
            refine GS.keep [0,1,2,6,7,8,9,11,12,15,16] [0,1,4] rfl (GS.done ⟨k - (p + 1), by omega, p + 1, _, _, e, by omega, rfl, ?_⟩)
            rw [w64n (by omega), e2, e3]
            cbv
          · rw [rowV1 hz, rowO1 hz]
            cbv
            refine ⟨by omega, by omega, GS.done ?_⟩
            cbv
            refine GS.keep [0,1,2,6,7,8,9,11,12,15,16] [0,1,4] rfl (GS.done ⟨k - (p + 1), by omega, p + 1, _, _, e, by omega, rfl, ?_⟩)
            rw [w64n (by omega), e2, e3, List.take_of_length_le (by simp)]
            cbv
        | false =>
          have e : rowGo (spreadHas m) i (p + 1) c = (G, d) := by rw [rowGo_succ, hG, rowStep]; simp [spreadHas, hb]
          cbv
          refine GS.done ?_
          cbv
          refine GS.keep [0,1,2,6,7,8,9,11,12,15,16] [0,1,2] rfl (GS.done ⟨k - (p + 1), by omega, p + 1, _, _, e, by omega, rfl, ?_⟩)
          rw [w64n (by omega)]
          cbv
      · obtain rfl : p = k := by have := nge h6; omega
        cbv
        have ef : fillGo (spreadHas m) p (i + 1) s = (F ++ [G], d) := by rw [fillGo_succ, hF, fillStep, hG]
        have er := rows_snoc F G
        have el := rows_len F
        by_cases hi0 : i = 0
        · obtain rfl : F = [] := List.length_eq_zero_iff.1 (by omega)
          by_cases hz : G.length = 0
          · obtain rfl := List.length_eq_zero_iff.1 hz
            subst hi0
            cbv
            refine ⟨by omega, fun _ => ?_⟩
            cbv
            refine GS.lift 4 33 [.nils] (.inl rfl) (GS.keep [0,1,2,6,7,11,12] [0,4] rfl (GS.done ⟨n - (0 + 1), by omega, 0 + 1, _, _, ef, by omega, rfl, ?_⟩))
            rw [w64n (by omega), er]
            cbv
          · rw [rowV1 hz, rowO1 hz]
            subst hi0
            cbv
            refine .inr (GS.tuck 4 0 2 33 3 [.sl true 2 0 G.length] (G.map (V.int .i64)) G.length rfl rfl rfl (by decide) (GS.keep [0,1,2,6,7,11,12] [0,4] rfl (GS.done ⟨n - (0 + 1), by omega, 0 + 1, _, _, ef, by omega, rfl, ?_⟩)))
            rw [w64n (by omega), er, rowT1 hz]
            cbv
        · rw [rowV1 hi0, rowO1 hi0]
          by_cases hz : G.length = 0
          · obtain rfl := List.length_eq_zero_iff.1 hz
            cbv
            refine ⟨by omega, by omega, by omega, GS.keep [0,1,2,6,7,11,12] [0,4] rfl (GS.done ⟨n - (i + 1), by omega, i + 1, _, _, ef, by omega, rfl, ?_⟩)⟩
            rw [w64n (by omega), er, rowV1 (by omega), rowO1 (by omega)]
            cbv
          · rw [rowV1 hz, rowO1 hz]
            cbv
            have es : (rows F ++ [V.sl true 2 0 G.length]).set i (.tree 3 (G.map (V.int .i64)) G.length) = rows F ++ [.tree 3 (G.map (V.int .i64)) G.length] := by
              rw [List.set_append_right _ _ (by omega), el, hFl, Nat.sub_self]; rfl
            refine .inr ⟨by omega, by omega, by omega, GS.tuck 4 i 2 33 3 (rows F ++ [.sl true 2 0 G.length]) (G.map (V.int .i64)) G.length rfl (by simp [el, hFl]) rfl (by decide) ?_⟩
            rw [es]
            refine GS.keep [0,1,2,6,7,11,12] [0,4] rfl (GS.done ⟨n - (i + 1), by omega, i + 1, _, _, ef, by omega, rfl, ?_⟩)
            rw [w64n (by omega), er, rowT1 hz, rowV1 (by omega), rowO1 (by omega)]
            cbv
  · obtain rfl : i = n := by have := nge h4; omega
    rw [rowV1 (by omega), rowO1 (by omega)]
    cbv
    refine GS.keep [0] [0,1] rfl (GS.done ⟨?_, ?_⟩)
    · rfl
    · rw [hF]
      cbv


theorem fillRun_ok (k n : Nat) (a m : Int) (s : Int) (hm : m ≠ 0) (hk : k ≤ 48) (hn : n ≤ 48) (hn1 : 1 ≤ n) :
    ACalls Try.prog 26 [.int .i64 k, .int .i64 n, .fn (.func 27) [] [.ptr 0 0, .ptr 1 0]] [.var 3 [.int .i64 a], .var 3 [.int .i64 m]]
      (Ret (.sl true 2 0 n) [.var 3 [.int .i64 a], .var 3 [.int .i64 m], .own 33 (rows (fillGo (runHas a m) k n s).1)]) := by
  refine ACalls.of_vc (fn := Try.f26) rfl rfl mixed ?_
  cbv
  refine ⟨fun z st => ∃ (i : Nat) (F : List (List Int)) (c : Int), fillGo (runHas a m) k i s = (F, c) ∧ i ≤ n ∧ z = n - i ∧ st = ⟨mk 34 [(0, .int .i64 k), (1, .int .i64 n), (2, .fn (.func 27) [] [.ptr 0 0, .ptr 1 0]), (6, .nils), (7, rowV 2 i), (11, .int .i64 n), (12, .int .i64 i)],
    [.var 3 [.int .i64 a], .var 3 [.int .i64 m], rowO (.own 33 (rows F)) i]⟩, GS.ghost (GS.keep [0,1,2,6,7,11,12] [0,1,2] rfl (GS.done ⟨_, 0, [], s, rfl, by omega, rfl, rfl⟩)), ?_⟩
  rintro z st ⟨i, F, c, hF, h2, rfl, rfl⟩
  have hFl : F.length = i := by have := fillGo_len (runHas a m) k i s; rw [hF] at this; exact this
  cbv
  refine pcase.mk (fun h4 => ?_) (fun h4 => ?_)
  · cbv
    have hi := nlt h4
    refine ⟨fun z st => ∃ (p : Nat) (G : List Int) (d : Int), rowGo (runHas a m) i p c = (G, d) ∧ p ≤ k ∧ z = k - p ∧ st = ⟨mk 34 [(0, .int .i64 k), (1, .int .i64 n), (2, .fn (.func 27) [] [.ptr 0 0, .ptr 1 0]), (6, .nils), (7, rowV 2 i), (8, .int .i64 i), (9, rowV 3 G.length), (11, .int .i64 n), (12, .int .i64 i), (15, .int .i64 k), (16, .int .i64 p)],
      [.var 3 [.int .i64 a], .var 3 [.int .i64 m], rowO (.own 33 (rows F)) i, rowO (.arr 3 (G.map (V.int .i64))) G.length]⟩,
      GS.ghost (GS.keep [0,1,2,6,7,8,9,11,12,15,16] [0,1,2,3] rfl (GS.done ⟨_, 0, [], c, rfl, by omega, rfl, ?_⟩)), ?_⟩
    · cbv
    · rintro z st ⟨p, G, d, hG, h5, rfl, rfl⟩
      have hG1 : G.length ≤ 48 := by have := rowGo_len (runHas a m) i p c; rw [hG] at this; simp at this; omega
      cbv
      refine pcase.mk (fun h6 => ?_) (fun h6 => ?_)
      · cbv
        have hp := nlt h6
        refine ⟨_, ?_, fun s h => h⟩
        cbv
        refine callVC.lend [0,1] [.int .i64 i, .int .i64 p, .ptr 0 0, .ptr 1 0] [.var 3 [.int .i64 a], .var 3 [.int .i64 m]] _ rfl (by simp) rfl rfl (run1_ok a m i p hm) ?_
        rintro o s1 ⟨rfl, rfl⟩ -
        cbv
        cases hb : runB a m i p with
        | true =>
          have e : rowGo (runHas a m) i (p + 1) c = (G ++ [(p : Int)], d) := by rw [rowGo_succ, hG, rowStep]; simp [runHas, hb]
          have e2 : rowV 3 (G ++ [(p : Int)]).length = .sl true 3 0 (G.length + 1) := by rw [rowV1 (by simp)]; simp
          have e3 : rowO (.arr 3 ((G ++ [(p : Int)]).map (V.int .i64))) (G ++ [(p : Int)]).length = .arr 3 (G.map (V.int .i64) ++ [.int .i64 p]) := by rw [rowO1 (by simp)]; simp
          by_cases hz : G.length = 0
          · obtain rfl := List.length_eq_zero_iff.1 hz
            cbv
            refine ⟨by omega, fun _ => ?_⟩
            cbv
            refine GS.done ?_
            cbv
            refine GS.keep [0,1,2,6,7,8,9,11,12,15,16] [0,1,2,5] rfl (GS.done ⟨k - (p + 1), by omega, p + 1, _, _, e, by omega, rfl, ?_⟩)
            rw [w64n (by omega), e2, e3]
            cbv
          · rw [rowV1 hz, rowO1 hz]
            cbv
            refine ⟨by omega, by omega, GS.done ?_⟩
            cbv
            refine GS.keep [0,1,2,6,7,8,9,11,12,15,16] [0,1,2,5] rfl (GS.done ⟨k - (p + 1), by omega, p + 1, _, _, e, by omega, rfl, ?_⟩)
            rw [w64n (by omega), e2, e3, List.take_of_length_le (by simp)]
            cbv
        | false =>
          have e : rowGo (runHas a m) i (p + 1) c = (G, d) := by rw [rowGo_succ, hG, rowStep]; simp [runHas, hb]
          cbv
          refine GS.done ?_
          cbv
          refine GS.keep [0,1,2,6,7,8,9,11,12,15,16] [0,1,2,3] rfl (GS.done ⟨k - (p + 1), by omega, p + 1, _, _, e, by omega, rfl, ?_⟩)
          rw [w64n (by omega)]
          cbv
      · obtain rfl : p = k := by have := nge h6; omega
        cbv
        have ef : fillGo (runHas a m) p (i + 1) s = (F ++ [G], d) := by rw [fillGo_succ, hF, fillStep, hG]
        have er := rows_snoc F G
        have el := rows_len F
        by_cases hi0 : i = 0
        · obtain rfl : F = [] := List.length_eq_zero_iff.1 (by omega)
          by_cases hz : G.length = 0
          · obtain rfl := List.length_eq_zero_iff.1 hz
            subst hi0
            cbv
            refine ⟨by omega, fun _ => ?_⟩
            cbv
            refine GS.lift 5 33 [.nils] (.inl rfl) (GS.keep [0,1,2,6,7,11,12] [0,1,5] rfl (GS.done ⟨n - (0 + 1), by omega, 0 + 1, _, _, ef, by omega, rfl, ?_⟩))
            rw [w64n (by omega), er]
            cbv
          · rw [rowV1 hz, rowO1 hz]
            subst hi0
            cbv
            refine .inr (GS.tuck 5 0 3 33 3 [.sl true 3 0 G.length] (G.map (V.int .i64)) G.length rfl rfl rfl (by decide) (GS.keep [0,1,2,6,7,11,12] [0,1,5] rfl (GS.done ⟨n - (0 + 1), by omega, 0 + 1, _, _, ef, by omega, rfl, ?_⟩)))
            rw [w64n (by omega), er, rowT1 hz]
            cbv
        · rw [rowV1 hi0, rowO1 hi0]
          by_cases hz : G.length = 0
          · obtain rfl := List.length_eq_zero_iff.1 hz
            cbv
            refine ⟨by omega, by omega, by omega, GS.keep [0,1,2,6,7,11,12] [0,1,5] rfl (GS.done ⟨n - (i + 1), by omega, i + 1, _, _, ef, by omega, rfl, ?_⟩)⟩
            rw [w64n (by omega), er, rowV1 (by omega), rowO1 (by omega)]
            cbv
          · rw [rowV1 hz, rowO1 hz]
            cbv
            have es : (rows F ++ [V.sl true 3 0 G.length]).set i (.tree 3 (G.map (V.int .i64)) G.length) = rows F ++ [.tree 3 (G.map (V.int .i64)) G.length] := by
              rw [List.set_append_right _ _ (by omega), el, hFl, Nat.sub_self]; rfl
            refine .inr ⟨by omega, by omega, by omega, GS.tuck 5 i 3 33 3 (rows F ++ [.sl true 3 0 G.length]) (G.map (V.int .i64)) G.length rfl (by simp [el, hFl]) rfl (by decide) ?_⟩
            rw [es]
            refine GS.keep [0,1,2,6,7,11,12] [0,1,5] rfl (GS.done ⟨n - (i + 1), by omega, i + 1, _, _, ef, by omega, rfl, ?_⟩)
            rw [w64n (by omega), er, rowT1 hz, rowV1 (by omega), rowO1 (by omega)]
            cbv
  · obtain rfl : i = n := by have := nge h4; omega
    rw [rowV1 (by omega), rowO1 (by omega)]
    cbv
    refine GS.keep [0] [0,1,2] rfl (GS.done ⟨?_, ?_⟩)
    · rfl
    · rw [hF]
      cbv


theorem fillLot_ok (k n : Nat) (s : Int)  (hk : k ≤ 48) (hn : n ≤ 48) (hn1 : 1 ≤ n) :
    ACalls Try.prog 26 [.int .i64 k, .int .i64 n, .fn (.func 29) [.ptr 0 0] []] [.var 25 [.int .u64 s]]
      (Ret (.sl true 1 0 n) [.var 25 [.int .u64 (fillGo lotHas k n s).2], .own 33 (rows (fillGo lotHas k n s).1)]) := by
  refine ACalls.of_vc (fn := Try.f26) rfl rfl mixed ?_
  cbv
  refine ⟨fun z st => ∃ (i : Nat) (F : List (List Int)) (c : Int), fillGo lotHas k i s = (F, c) ∧ i ≤ n ∧ z = n - i ∧ st = ⟨mk 34 [(0, .int .i64 k), (1, .int .i64 n), (2, .fn (.func 29) [.ptr 0 0] []), (6, .nils), (7, rowV 1 i), (11, .int .i64 n), (12, .int .i64 i)],
    [.var 25 [.int .u64 c], rowO (.own 33 (rows F)) i]⟩, GS.ghost (GS.keep [0,1,2,6,7,11,12] [0,1] rfl (GS.done ⟨_, 0, [], s, rfl, by omega, rfl, rfl⟩)), ?_⟩
  rintro z st ⟨i, F, c, hF, h2, rfl, rfl⟩
  have hFl : F.length = i := by have := fillGo_len lotHas k i s; rw [hF] at this; exact this
  cbv
  refine pcase.mk (fun h4 => ?_) (fun h4 => ?_)
  · cbv
    have hi := nlt h4
    refine ⟨fun z st => ∃ (p : Nat) (G : List Int) (d : Int), rowGo lotHas i p c = (G, d) ∧ p ≤ k ∧ z = k - p ∧ st = ⟨mk 34 [(0, .int .i64 k), (1, .int .i64 n), (2, .fn (.func 29) [.ptr 0 0] []), (6, .nils), (7, rowV 1 i), (8, .int .i64 i), (9, rowV 2 G.length), (11, .int .i64 n), (12, .int .i64 i), (15, .int .i64 k), (16, .int .i64 p)],
      [.var 25 [.int .u64 d], rowO (.own 33 (rows F)) i, rowO (.arr 3 (G.map (V.int .i64))) G.length]⟩,
      GS.ghost (GS.keep [0,1,2,6,7,8,9,11,12,15,16] [0,1,2] rfl (GS.done ⟨_, 0, [], c, rfl, by omega, rfl, ?_⟩)), ?_⟩
    · cbv
    · rintro z st ⟨p, G, d, hG, h5, rfl, rfl⟩
      have hG1 : G.length ≤ 48 := by have := rowGo_len lotHas i p c; rw [hG] at this; simp at this; omega
      cbv
      refine pcase.mk (fun h6 => ?_) (fun h6 => ?_)
      · cbv
        have hp := nlt h6
        refine ⟨_, ?_, fun s h => h⟩
        cbv
        refine callVC.lend [0] [.ptr 0 0, .int .i64 i, .int .i64 p] [.var 25 [.int .u64 d]] _ rfl (by simp) rfl rfl (lot_ok d i p) ?_
        rintro o s1 ⟨rfl, rfl⟩ -
        cbv
        cases hb : lotB d with
        | true =>
          have e : rowGo lotHas i (p + 1) c = (G ++ [(p : Int)], nextS d) := by rw [rowGo_succ, hG, rowStep]; simp [lotHas, hb]
          have e2 : rowV 2 (G ++ [(p : Int)]).length = .sl true 2 0 (G.length + 1) := by rw [rowV1 (by simp)]; simp
          have e3 : rowO (.arr 3 ((G ++ [(p : Int)]).map (V.int .i64))) (G ++ [(p : Int)]).length = .arr 3 (G.map (V.int .i64) ++ [.int .i64 p]) := by rw [rowO1 (by simp)]; simp
          by_cases hz : G.length = 0
          · obtain rfl := List.length_eq_zero_iff.1 hz
            cbv
            refine ⟨by omega, fun _ => ?_⟩
            cbv
            refine GS.done ?_
            cbv
            refine GS.keep [0,1,2,6,7,8,9,11,12,15,16] [0,1,4] rfl (GS.done ⟨k - (p + 1), by omega, p + 1, _, _, e, by omega, rfl, ?_⟩)
            rw [w64n (by omega), e2, e3]
            cbv
          · rw [rowV1 hz, rowO1 hz]
            cbv
            refine ⟨by omega, by omega, GS.done ?_⟩
            cbv
            refine GS.keep [0,1,2,6,7,8,9,11,12,15,16] [0,1,4] rfl (GS.done ⟨k - (p + 1), by omega, p + 1, _, _, e, by omega, rfl, ?_⟩)
            rw [w64n (by omega), e2, e3, List.take_of_length_le (by simp)]
            cbv
        | false =>
          have e : rowGo lotHas i (p + 1) c = (G, nextS d) := by rw [rowGo_succ, hG, rowStep]; simp [lotHas, hb]
          cbv
          refine GS.done ?_
          cbv
          refine GS.keep [0,1,2,6,7,8,9,11,12,15,16] [0,1,2] rfl (GS.done ⟨k - (p + 1), by omega, p + 1, _, _, e, by omega, rfl, ?_⟩)
          rw [w64n (by omega)]
          cbv
      · obtain rfl : p = k := by have := nge h6; omega
        cbv
        have ef : fillGo lotHas p (i + 1) s = (F ++ [G], d) := by rw [fillGo_succ, hF, fillStep, hG]
        have er := rows_snoc F G
        have el := rows_len F
        by_cases hi0 : i = 0
        · obtain rfl : F = [] := List.length_eq_zero_iff.1 (by omega)
          by_cases hz : G.length = 0
          · obtain rfl := List.length_eq_zero_iff.1 hz
            subst hi0
            cbv
            refine ⟨by omega, fun _ => ?_⟩
            cbv
            refine GS.lift 4 33 [.nils] (.inl rfl) (GS.keep [0,1,2,6,7,11,12] [0,4] rfl (GS.done ⟨n - (0 + 1), by omega, 0 + 1, _, _, ef, by omega, rfl, ?_⟩))
            rw [w64n (by omega), er]
            cbv
          · rw [rowV1 hz, rowO1 hz]
            subst hi0
            cbv
            refine .inr (GS.tuck 4 0 2 33 3 [.sl true 2 0 G.length] (G.map (V.int .i64)) G.length rfl rfl rfl (by decide) (GS.keep [0,1,2,6,7,11,12] [0,4] rfl (GS.done ⟨n - (0 + 1), by omega, 0 + 1, _, _, ef, by omega, rfl, ?_⟩)))
            rw [w64n (by omega), er, rowT1 hz]
            cbv
        · rw [rowV1 hi0, rowO1 hi0]
          by_cases hz : G.length = 0
          · obtain rfl := List.length_eq_zero_iff.1 hz
            cbv
            refine ⟨by omega, by omega, by omega, GS.keep [0,1,2,6,7,11,12] [0,4] rfl (GS.done ⟨n - (i + 1), by omega, i + 1, _, _, ef, by omega, rfl, ?_⟩)⟩
            rw [w64n (by omega), er, rowV1 (by omega), rowO1 (by omega)]
            cbv
          · rw [rowV1 hz, rowO1 hz]
            cbv
            have es : (rows F ++ [V.sl true 2 0 G.length]).set i (.tree 3 (G.map (V.int .i64)) G.length) = rows F ++ [.tree 3 (G.map (V.int .i64)) G.length] := by
              rw [List.set_append_right _ _ (by omega), el, hFl, Nat.sub_self]; rfl
            refine .inr ⟨by omega, by omega, by omega, GS.tuck 4 i 2 33 3 (rows F ++ [.sl true 2 0 G.length]) (G.map (V.int .i64)) G.length rfl (by simp [el, hFl]) rfl (by decide) ?_⟩
            rw [es]
            refine GS.keep [0,1,2,6,7,11,12] [0,4] rfl (GS.done ⟨n - (i + 1), by omega, i + 1, _, _, ef, by omega, rfl, ?_⟩)
            rw [w64n (by omega), er, rowT1 hz, rowV1 (by omega), rowO1 (by omega)]
            cbv
  · obtain rfl : i = n := by have := nge h4; omega
    rw [rowV1 (by omega), rowO1 (by omega)]
    cbv
    refine GS.keep [0] [0,1] rfl (GS.done ⟨?_, ?_⟩)
    · rfl
    · rw [hF]
      cbv


end Go.Proofs.Ytncnnbjhginpfaa
