/- Contracts: Of of the document's answer, kind by kind. Conditions: none; plain lemmas. (Printed by genA12.py.) -/
import Derived.Test.YtncnnbjhginpfaaA11
namespace Go.Proofs.Ytncnnbjhginpfaa
set_option linter.unusedVariables false
set_option linter.unusedSimpArgs false
set_option linter.unnecessarySimpa false
open Go.Proofs
set_option maxHeartbeats 8000000
set_option cbv.maxSteps 1000000
set_option maxRecDepth 100000
set_option pp.maxSteps 900

theorem map_get {F : List (List Int)} {i : Nat} {r : List Int} (h : F[i]? = some r) : (F.map ints)[i]? = some (ints r) := by simp [h]
theorem borrow_lists {σ : List Ob} {n N : Nat} {ow : Bool} {F : List (List Int)} (h : σ[n]? = some (.arr 33 (F.map ints))) (hl : F.length = N) : lists F = borrowV Try.prog σ (.sl ow n 0 N) := by
  subst hl
  unfold borrowV borrowN
  have e : F.length * Try.prog.cellsOf 33 = F.length := by rw [tc33]; exact Nat.mul_one _
  rw [h]
  simp only
  rw [if_pos (by rw [e]; simp), e]
  simp only [lists, List.drop_zero]
  rw [List.take_of_length_le (by simp)]
def highHas : Has := fun s _ _ => (decide (nextS s ≥ 9223372036854775808), nextS s)
def rlackS (n : Nat) (F : List (List Int)) (p : Nat) : List (List Int) := if hasS F p then F else F.set (p % n) (insertS ((F[p % n]?).getD []) p)
def rlacksGo (n m : Nat) (F : List (List Int)) : List (List Int) := (List.range m).foldl (rlackS n) F
def rbareS (k : Nat) (F : List (List Int)) (i : Nat) : List (List Int) := if (F[i]?).getD [] = [] then F.set i (insertS ((F[i]?).getD []) ((i % k : Nat) : Int)) else F
def rbaresGo (k m : Nat) (F : List (List Int)) : List (List Int) := (List.range m).foldl (rbareS k) F
theorem rlacksGo_succ (n m : Nat) (F : List (List Int)) : rlacksGo n (m + 1) F = rlackS n (rlacksGo n m F) m := by simp [rlacksGo, List.range_succ]
theorem rbaresGo_succ (k m : Nat) (F : List (List Int)) : rbaresGo k (m + 1) F = rbareS k (rbaresGo k m F) m := by simp [rbaresGo, List.range_succ]
attribute [cbv_opaque] highHas rlackS rlacksGo rbareS rbaresGo
theorem rlacks_len (n m : Nat) (F : List (List Int)) : (rlacksGo n m F).length = F.length := by
  induction m with
  | zero => rfl
  | succ m ih => rw [rlacksGo_succ, rlackS]; split <;> simp [ih]
theorem rbares_len (k m : Nat) (F : List (List Int)) : (rbaresGo k m F).length = F.length := by
  induction m with
  | zero => rfl
  | succ m ih => rw [rbaresGo_succ, rbareS]; split <;> simp [ih]
theorem insertS_len (xs : List Int) (x : Int) : (insertS xs x).length ≤ xs.length + 1 := by
  have := insGo_len x xs
  unfold insertS; split
  · exact this.1
  · rename_i h; have := this.2 (by simpa using h); simp; omega
theorem set_row {F : List (List Int)} {i : Nat} {p : Int} {b : Nat} (h : ∀ r ∈ F, r.length ≤ b) : ∀ r ∈ F.set i (insertS ((F[i]?).getD []) p), r.length ≤ b + 1 := by
  intro r hr
  rcases List.mem_or_eq_of_mem_set hr with h1 | rfl
  · have := h r h1; omega
  · refine Nat.le_trans (insertS_len _ _) ?_
    cases hi : F[i]? with
    | none => simp
    | some x => have := h x (List.mem_of_getElem? hi); simp; omega
theorem rlacks_row {n m b : Nat} {F : List (List Int)} (h : ∀ r ∈ F, r.length ≤ b) : ∀ r ∈ rlacksGo n m F, r.length ≤ b + m := by
  induction m with
  | zero => exact h
  | succ m ih =>
    rw [rlacksGo_succ, rlackS]; split
    · intro r hr; have := ih r hr; omega
    · intro r hr; have := set_row ih r hr; omega
theorem rbares_row {n m b : Nat} {F : List (List Int)} (h : ∀ r ∈ F, r.length ≤ b) : ∀ r ∈ rbaresGo n m F, r.length ≤ b + m := by
  induction m with
  | zero => exact h
  | succ m ih =>
    rw [rbaresGo_succ, rbareS]; split
    · intro r hr; have := set_row ih r hr; omega
    · intro r hr; have := ih r hr; omega


theorem refOf_high (kind s k n m : Int) (hk : kind = 2) (hb : okB k n = true) (hm : minS k n = m) (M K : Nat) (hM : m = M) (hK : k = K) :
    ACalls Try.prog 10 [.int .i64 kind, .int .u64 s, .int .i64 k, .int .i64 n] [] (Ret (lists (rbaresGo K M (rlacksGo M K (fillGo highHas K M s).1))) []) := by
  obtain ⟨h1, h2, h3, h4⟩ := okB_spec hb
  rw [hm] at h3 h4
  have hm0 : m ≠ 0 := by omega
  have hK0 : 0 < K := by omega
  have hk0 : k ≠ 0 := by omega
  have hK1 : K ≤ 48 := by omega
  have hM1 : M ≤ 48 := by omega
  have hM2 : 1 ≤ M := by omega
  have hn1 : 1 ≤ n := by simp only [okB, Bool.and_eq_true, decide_eq_true_eq] at hb; omega
  have hnk : (¬ n > k → n = m) ∧ (n > k → k = m) := by unfold minS at hm; split at hm <;> omega
  refine ACalls.of_vc (fn := Try.f10) rfl rfl mixed ?_
  cbv
  refine pcase.mk (fun h => absurd h (by omega)) (fun _ => ?_)
  cbv
  refine pcase.mk (fun h => absurd h (by omega)) (fun _ => ?_)
  cbv
  refine pcase.mk (fun h => absurd h (by omega)) (fun _ => ?_)
  cbv
  refine ⟨fun s' => s' = ⟨mk 130 [(0, .int .i64 kind), (1, .int .u64 s), (2, .int .i64 k), (3, .int .i64 m), (8, .nils), (9, .sl true 0 0 0)], [.arr 33 []]⟩, ?_, ?_⟩
  · cbv
    refine pcase.mk (fun h => ?_) (fun h => ?_)
    · have e := hnk.2 h
      cbv
      refine GS.keep [0,1,2,3,8,9] [0] rfl (GS.done ?_)
      rw [← e]; cbv
    · have e := hnk.1 h
      cbv
      refine GS.keep [0,1,2,3,8,9] [0] rfl (GS.done ?_)
      rw [← e]; cbv
  rintro s' rfl
  cbv
  refine ⟨fun z st => ∃ (i : Nat) (F : List (List Int)) (c : Int), fillGo highHas K i s = (F, c) ∧ i ≤ M ∧ z = M - i ∧ st = ⟨mk 130 [(0, .int .i64 kind), (1, .int .u64 c), (2, .int .i64 k), (3, .int .i64 m), (8, .nils), (9, .sl true 0 0 i), (10, .int .i64 i)], [.arr 33 (F.map ints)]⟩, GS.keep [0,1,2,3,8,9,10] [0] rfl (GS.done ⟨_, 0, [], s, rfl, by omega, rfl, ?_⟩), ?_⟩
  · cbv
  rintro z st ⟨i, F, c, hF, h5, rfl, rfl⟩
  have hFl : F.length = i := by have := fillGo_len highHas K i s; rw [hF] at this; exact this
  cbv
  refine pcase.mk (fun h6 => ?_) (fun h6 => ?_)
  · have hi : i < M := by rw [hM] at h6; exact nlt h6
    cbv
    refine ⟨fun z st => ∃ (p : Nat) (G : List Int) (d : Int), rowGo highHas i p c = (G, d) ∧ p ≤ K ∧ z = K - p ∧ st = ⟨mk 130 [(0, .int .i64 kind), (1, .int .u64 d), (2, .int .i64 k), (3, .int .i64 m), (8, .nils), (9, .sl true 0 0 i), (10, .int .i64 i), (11, .sl true 1 0 G.length), (12, .int .i64 p)], [.arr 33 (F.map ints), .arr 3 (G.map (V.int .i64))]⟩, GS.keep [0,1,2,3,8,9,10,11,12] [0,1] rfl (GS.done ⟨_, 0, [], c, rfl, by omega, rfl, ?_⟩), ?_⟩
    · cbv
    rintro z st ⟨p, G, d, hG, h7, rfl, rfl⟩
    have hG1 : G.length ≤ 48 := by have := rowGo_len highHas i p c; rw [hG] at this; simp at this; omega
    cbv
    refine pcase.mk (fun h8 => ?_) (fun h8 => ?_)
    · have hp : p < K := by rw [hK] at h8; exact nlt h8
      have e0 : rowGo highHas i (p + 1) c = (if decide (nextS d ≥ 9223372036854775808) then G ++ [(p : Int)] else G, nextS d) := by rw [rowGo_succ, hG, rowStep]; rfl
      cbv
      refine ⟨_, ?_, fun s h => h⟩
      cbv
      refine ⟨hm0, pcase.mk (fun h9 => ?_) (fun h9 => ?_)⟩
      · cbv
        refine ⟨hm0, ?_⟩
        refine ⟨_, ?_, fun s h => h⟩
        cbv
        refine pcase.mk (fun h => absurd h (by omega)) (fun _ => ?_)
        cbv
        refine GS.done ?_
        cbv
        refine ⟨_, ?_, fun s h => h⟩
        cbv
        refine pcase.mk (fun _ => ?_) (fun h => absurd hk h)
        cbv
        refine callVC.pure (refNext_ok d) rfl rfl ?_
        cbv
        refine GS.done ?_
        cbv
        refine pcase.mk (fun ht => ?_) (fun ht => ?_)
        · have e2 : rowGo highHas i (p + 1) c = (G ++ [(p : Int)], nextS d) := by rw [e0, if_pos (by simpa using ht)]
          cbv
          refine ⟨by omega, by omega, GS.done ?_⟩
          cbv
          refine GS.keep [0,1,2,3,8,9,10,11,12] [0,3] rfl (GS.done ⟨K - (p + 1), by omega, p + 1, _, _, e2, by omega, rfl, ?_⟩)
          rw [w64n (by omega), List.take_of_length_le (by simp)]
          simp only [List.length_append, List.length_singleton, List.map_append, List.map_cons, List.map_nil]
          cbv
        · have e2 : rowGo highHas i (p + 1) c = (G, nextS d) := by rw [e0, if_neg (by simpa using ht)]
          cbv
          refine GS.done ?_
          cbv
          refine GS.keep [0,1,2,3,8,9,10,11,12] [0,1] rfl (GS.done ⟨K - (p + 1), by omega, p + 1, _, _, e2, by omega, rfl, ?_⟩)
          rw [w64n (by omega)]
          cbv
      · cbv
        refine ⟨_, ?_, fun s h => h⟩
        cbv
        refine pcase.mk (fun h => absurd h (by omega)) (fun _ => ?_)
        cbv
        refine GS.done ?_
        cbv
        refine ⟨_, ?_, fun s h => h⟩
        cbv
        refine pcase.mk (fun _ => ?_) (fun h => absurd hk h)
        cbv
        refine callVC.pure (refNext_ok d) rfl rfl ?_
        cbv
        refine GS.done ?_
        cbv
        refine pcase.mk (fun ht => ?_) (fun ht => ?_)
        · have e2 : rowGo highHas i (p + 1) c = (G ++ [(p : Int)], nextS d) := by rw [e0, if_pos (by simpa using ht)]
          cbv
          refine ⟨by omega, by omega, GS.done ?_⟩
          cbv
          refine GS.keep [0,1,2,3,8,9,10,11,12] [0,3] rfl (GS.done ⟨K - (p + 1), by omega, p + 1, _, _, e2, by omega, rfl, ?_⟩)
          rw [w64n (by omega), List.take_of_length_le (by simp)]
          simp only [List.length_append, List.length_singleton, List.map_append, List.map_cons, List.map_nil]
          cbv
        · have e2 : rowGo highHas i (p + 1) c = (G, nextS d) := by rw [e0, if_neg (by simpa using ht)]
          cbv
          refine GS.done ?_
          cbv
          refine GS.keep [0,1,2,3,8,9,10,11,12] [0,1] rfl (GS.done ⟨K - (p + 1), by omega, p + 1, _, _, e2, by omega, rfl, ?_⟩)
          rw [w64n (by omega)]
          cbv
    · have hp : p = K := by have : K ≤ p := by { rw [hK] at h8; exact nge h8 }; omega
      subst hp
      have ef : fillGo highHas p (i + 1) s = (F ++ [G], d) := by rw [fillGo_succ, hF, fillStep, hG]
      cbv
      refine .inl ⟨by omega, by omega, by omega, ?_⟩
      refine GS.keep [0,1,2,3,8,9,10] [3] rfl (GS.done ⟨M - (i + 1), by omega, i + 1, F ++ [G], d, ef, by omega, rfl, ?_⟩)
      rw [w64n (by omega), List.take_of_length_le (by simp), List.take_of_length_le (by simp; omega)]
      simp only [List.map_append, List.map_cons, List.map_nil, ints, List.length_map]
      cbv
  · have hi : i = M := by have : M ≤ i := by { rw [hM] at h6; exact nge h6 }; omega
    subst hi
    cbv
    have hF1 : ∀ r ∈ F, r.length ≤ 48 := fun r h => by have := fill_row (has := highHas) (k := K) (n := i) (s := s) r; rw [hF] at this; have := this h; omega
    have hR : (fillGo highHas K i s).1 = F := by rw [hF]
    refine pcase.mk (fun _ => ?_) (fun h => absurd hk h)
    cbv
    refine ⟨fun z st => ∃ (p : Nat) (B : List (List Int)), rlacksGo i p F = B ∧ p ≤ K ∧ z = K - p ∧ st = ⟨mk 130 [(2, .int .i64 k), (3, .int .i64 m), (8, .nils), (9, .sl true 0 0 i), (14, .int .i64 p)], [.arr 33 (B.map ints)]⟩, GS.keep [2,3,8,9,14] [0] rfl (GS.done ⟨_, 0, F, rfl, by omega, rfl, ?_⟩), ?_⟩
    · cbv
    rintro z st ⟨p, B, hB, h7, rfl, rfl⟩
    have hBl : B.length = i := by rw [← hB, rlacks_len, hFl]
    have hBr : ∀ r ∈ B, r.length ≤ 96 := fun r h => by rw [← hB] at h; have := rlacks_row hF1 r h; omega
    cbv
    refine pcase.mk (fun h8 => ?_) (fun h8 => ?_)
    · have hp : p < K := by rw [hK] at h8; exact nlt h8
      have hpi : p % i < i := Nat.mod_lt _ (by omega)
      have em : ((p : Int).tmod m) = ((p % i : Nat) : Int) := by rw [hM]; exact (Int.ofNat_tmod p i).symm
      have e1 : rlacksGo i (p + 1) F = rlackS i B p := by rw [rlacksGo_succ, hB]
      obtain ⟨r, hr⟩ := get_some (xs := B) (k := p % i) (by omega)
      have hrl := hBr r (List.mem_of_getElem? hr)
      cbv
      refine ⟨_, ?_, fun s h => h⟩
      cbv
      refine callVC.borrow [lists B, .int .i64 p] (.bool (hasS B p)) (.one (borrow_lists (by rfl) hBl) (.one (by rfl) .nil)) (has_ok B p) rfl rfl ?_
      cbv
      cases hh : hasS B p with
      | true =>
        have e2 : rlackS i B p = B := by rw [rlackS, hh]; rfl
        cbv
        refine GS.done ?_
        cbv
        refine GS.keep [2,3,8,9,14] [0] rfl (GS.done ⟨K - (p + 1), by omega, p + 1, B, e1.trans e2, by omega, rfl, ?_⟩)
        rw [w64n (by omega)]
        cbv
      | false =>
        have e2 : rlackS i B p = B.set (p % i) (insertS r p) := by rw [rlackS, hh, hr]; rfl
        cbv
        rw [em]
        refine ⟨hm0, hm0, Int.natCast_nonneg _, Int.ofNat_lt.2 hpi, atK.mk (ints r) (map_get hr) ?_⟩
        cbv
        refine callVC.pure (insert_ok r p (by omega)) rfl rfl ?_
        cbv
        refine ⟨Int.ofNat_lt.2 hpi, by omega, GS.done ?_⟩
        cbv
        refine GS.keep [2,3,8,9,14] [0] rfl (GS.done ⟨K - (p + 1), by omega, p + 1, _, e1.trans e2, by omega, rfl, ?_⟩)
        rw [w64n (by omega), List.map_set]
        cbv
    · have hp : p = K := by have : K ≤ p := by { rw [hK] at h8; exact nge h8 }; omega
      subst hp
      rw [hR, hB]
      cbv
      refine ⟨fun z st => ∃ (j : Nat) (C : List (List Int)), rbaresGo p j B = C ∧ j ≤ i ∧ z = i - j ∧ st = ⟨mk 130 [(2, .int .i64 k), (3, .int .i64 m), (8, .nils), (9, .sl true 0 0 i), (15, .int .i64 j)], [.arr 33 (C.map ints)]⟩, GS.keep [2,3,8,9,15] [0] rfl (GS.done ⟨_, 0, B, rfl, by omega, rfl, ?_⟩), ?_⟩
      · cbv
      rintro z st ⟨j, C, hC, h9, rfl, rfl⟩
      have hCl : C.length = i := by rw [← hC, rbares_len, hBl]
      have hCr : ∀ r ∈ C, r.length ≤ 144 := fun r h => by rw [← hC] at h; have := rbares_row hBr r h; omega
      cbv
      refine pcase.mk (fun h10 => ?_) (fun h10 => ?_)
      · have hj : j < i := by rw [hM] at h10; exact nlt h10
        have hj' : (j : Int) < (i : Int) := by omega
        obtain ⟨r, hr⟩ := get_some (xs := C) (k := j) (by omega)
        have hrl := hCr r (List.mem_of_getElem? hr)
        have em : ((j : Int).tmod k) = ((j % p : Nat) : Int) := by rw [hK]; exact (Int.ofNat_tmod j p).symm
        have e1 : rbaresGo p (j + 1) B = rbareS p C j := by rw [rbaresGo_succ, hC]
        cbv
        refine ⟨_, ?_, fun s h => h⟩
        cbv
        refine ⟨hj', atK.mk (ints r) (map_get hr) ?_⟩
        cbv
        refine pcase.mk (fun h11 => ?_) (fun h11 => ?_)
        · have hz : r = [] := List.length_eq_zero_iff.1 (Int.ofNat_eq_zero.1 h11)
          have e2 : rbareS p C j = C.set j (insertS r ((j % p : Nat) : Int)) := by rw [rbareS, hr]; simp [hz]
          cbv
          refine ⟨hj', atK.mk (ints r) (map_get hr) ?_⟩
          cbv
          refine ⟨hk0, ?_⟩
          rw [em]
          refine callVC.pure (insert_ok r _ (by omega)) rfl rfl ?_
          cbv
          refine ⟨hj', by omega, GS.done ?_⟩
          cbv
          refine GS.keep [2,3,8,9,15] [0] rfl (GS.done ⟨i - (j + 1), by omega, j + 1, _, e1.trans e2, by omega, rfl, ?_⟩)
          rw [w64n (by omega), List.map_set]
          cbv
        · have hz : r ≠ [] := fun e => h11 (by rw [e]; rfl)
          have e2 : rbareS p C j = C := by rw [rbareS, hr]; simp [hz]
          cbv
          refine GS.done ?_
          cbv
          refine GS.keep [2,3,8,9,15] [0] rfl (GS.done ⟨i - (j + 1), by omega, j + 1, _, e1.trans e2, by omega, rfl, ?_⟩)
          rw [w64n (by omega)]
          cbv
      · have hj : j = i := by have : i ≤ j := by { rw [hM] at h10; exact nge h10 }; omega
        subst hj
        cbv
        refine GS.closeArr 0 0 j true 33 (C.map ints) rfl rfl (by rw [tc33]; simp [hCl, Try.t33]) (GS.keep [0] [] rfl (GS.done ⟨?_, rfl⟩))
        rw [hC, hCl]
        rfl


theorem refOf_spread (kind s k n m : Int) (hk : kind = 1) (hb : okB k n = true) (hm : minS k n = m) (M K : Nat) (hM : m = M) (hK : k = K) :
    ACalls Try.prog 10 [.int .i64 kind, .int .u64 s, .int .i64 k, .int .i64 n] [] (Ret (lists ((fillGo (spreadHas m) K M s).1)) []) := by
  obtain ⟨h1, h2, h3, h4⟩ := okB_spec hb
  rw [hm] at h3 h4
  have hm0 : m ≠ 0 := by omega
  have hK0 : 0 < K := by omega
  have hk0 : k ≠ 0 := by omega
  have hK1 : K ≤ 48 := by omega
  have hM1 : M ≤ 48 := by omega
  have hM2 : 1 ≤ M := by omega
  have hn1 : 1 ≤ n := by simp only [okB, Bool.and_eq_true, decide_eq_true_eq] at hb; omega
  have hnk : (¬ n > k → n = m) ∧ (n > k → k = m) := by unfold minS at hm; split at hm <;> omega
  generalize hX : (fillGo (spreadHas m) K M s).1 = X
  refine ACalls.of_vc (fn := Try.f10) rfl rfl mixed ?_
  cbv
  refine pcase.mk (fun h => absurd h (by omega)) (fun _ => ?_)
  cbv
  refine pcase.mk (fun h => absurd h (by omega)) (fun _ => ?_)
  cbv
  refine pcase.mk (fun h => absurd h (by omega)) (fun _ => ?_)
  cbv
  refine ⟨fun s' => s' = ⟨mk 130 [(0, .int .i64 kind), (1, .int .u64 s), (2, .int .i64 k), (3, .int .i64 m), (8, .nils), (9, .sl true 0 0 0)], [.arr 33 []]⟩, ?_, ?_⟩
  · cbv
    refine pcase.mk (fun h => ?_) (fun h => ?_)
    · have e := hnk.2 h
      cbv
      refine GS.keep [0,1,2,3,8,9] [0] rfl (GS.done ?_)
      rw [← e]; cbv
    · have e := hnk.1 h
      cbv
      refine GS.keep [0,1,2,3,8,9] [0] rfl (GS.done ?_)
      rw [← e]; cbv
  rintro s' rfl
  cbv
  refine ⟨fun z st => ∃ (i : Nat) (F : List (List Int)) (c : Int), fillGo (spreadHas m) K i s = (F, c) ∧ i ≤ M ∧ z = M - i ∧ st = ⟨mk 130 [(0, .int .i64 kind), (1, .int .u64 c), (2, .int .i64 k), (3, .int .i64 m), (8, .nils), (9, .sl true 0 0 i), (10, .int .i64 i)], [.arr 33 (F.map ints)]⟩, GS.keep [0,1,2,3,8,9,10] [0] rfl (GS.done ⟨_, 0, [], s, rfl, by omega, rfl, ?_⟩), ?_⟩
  · cbv
  rintro z st ⟨i, F, c, hF, h5, rfl, rfl⟩
  have hFl : F.length = i := by have := fillGo_len (spreadHas m) K i s; rw [hF] at this; exact this
  cbv
  refine pcase.mk (fun h6 => ?_) (fun h6 => ?_)
  · have hi : i < M := by rw [hM] at h6; exact nlt h6
    cbv
    refine ⟨fun z st => ∃ (p : Nat) (G : List Int) (d : Int), rowGo (spreadHas m) i p c = (G, d) ∧ p ≤ K ∧ z = K - p ∧ st = ⟨mk 130 [(0, .int .i64 kind), (1, .int .u64 d), (2, .int .i64 k), (3, .int .i64 m), (8, .nils), (9, .sl true 0 0 i), (10, .int .i64 i), (11, .sl true 1 0 G.length), (12, .int .i64 p)], [.arr 33 (F.map ints), .arr 3 (G.map (V.int .i64))]⟩, GS.keep [0,1,2,3,8,9,10,11,12] [0,1] rfl (GS.done ⟨_, 0, [], c, rfl, by omega, rfl, ?_⟩), ?_⟩
    · cbv
    rintro z st ⟨p, G, d, hG, h7, rfl, rfl⟩
    have hG1 : G.length ≤ 48 := by have := rowGo_len (spreadHas m) i p c; rw [hG] at this; simp at this; omega
    cbv
    refine pcase.mk (fun h8 => ?_) (fun h8 => ?_)
    · have hp : p < K := by rw [hK] at h8; exact nlt h8
      have e0 : rowGo (spreadHas m) i (p + 1) c = (if spreadB m i p then G ++ [(p : Int)] else G, d) := by rw [rowGo_succ, hG, rowStep]; rfl
      cbv
      refine ⟨_, ?_, fun s h => h⟩
      cbv
      refine ⟨hm0, pcase.mk (fun h9 => ?_) (fun h9 => ?_)⟩
      · cbv
        refine ⟨hm0, ?_⟩
        refine ⟨_, ?_, fun s h => h⟩
        cbv
        refine pcase.mk (fun _ => ?_) (fun h => absurd hk h)
        cbv
        refine ⟨hm0, GS.done ?_⟩
        cbv
        refine ⟨_, ?_, fun s h => h⟩
        cbv
        refine pcase.mk (fun h => absurd h (by omega)) (fun _ => ?_)
        cbv
        refine GS.done ?_
        cbv
        refine pcase.mk (fun ht => ?_) (fun ht => ?_)
        · have e2 : rowGo (spreadHas m) i (p + 1) c = (G ++ [(p : Int)], d) := by rw [e0, if_pos (by simpa [spreadB] using ht)]
          cbv
          refine ⟨by omega, by omega, GS.done ?_⟩
          cbv
          refine GS.keep [0,1,2,3,8,9,10,11,12] [0,3] rfl (GS.done ⟨K - (p + 1), by omega, p + 1, _, _, e2, by omega, rfl, ?_⟩)
          rw [w64n (by omega), List.take_of_length_le (by simp)]
          simp only [List.length_append, List.length_singleton, List.map_append, List.map_cons, List.map_nil]
          cbv
        · have e2 : rowGo (spreadHas m) i (p + 1) c = (G, d) := by rw [e0, if_neg (by simpa [spreadB] using ht)]
          cbv
          refine GS.done ?_
          cbv
          refine GS.keep [0,1,2,3,8,9,10,11,12] [0,1] rfl (GS.done ⟨K - (p + 1), by omega, p + 1, _, _, e2, by omega, rfl, ?_⟩)
          rw [w64n (by omega)]
          cbv
      · cbv
        refine ⟨_, ?_, fun s h => h⟩
        cbv
        refine pcase.mk (fun _ => ?_) (fun h => absurd hk h)
        cbv
        refine ⟨hm0, GS.done ?_⟩
        cbv
        refine ⟨_, ?_, fun s h => h⟩
        cbv
        refine pcase.mk (fun h => absurd h (by omega)) (fun _ => ?_)
        cbv
        refine GS.done ?_
        cbv
        refine pcase.mk (fun ht => ?_) (fun ht => ?_)
        · have e2 : rowGo (spreadHas m) i (p + 1) c = (G ++ [(p : Int)], d) := by rw [e0, if_pos (by simpa [spreadB] using ht)]
          cbv
          refine ⟨by omega, by omega, GS.done ?_⟩
          cbv
          refine GS.keep [0,1,2,3,8,9,10,11,12] [0,3] rfl (GS.done ⟨K - (p + 1), by omega, p + 1, _, _, e2, by omega, rfl, ?_⟩)
          rw [w64n (by omega), List.take_of_length_le (by simp)]
          simp only [List.length_append, List.length_singleton, List.map_append, List.map_cons, List.map_nil]
          cbv
        · have e2 : rowGo (spreadHas m) i (p + 1) c = (G, d) := by rw [e0, if_neg (by simpa [spreadB] using ht)]
          cbv
          refine GS.done ?_
          cbv
          refine GS.keep [0,1,2,3,8,9,10,11,12] [0,1] rfl (GS.done ⟨K - (p + 1), by omega, p + 1, _, _, e2, by omega, rfl, ?_⟩)
          rw [w64n (by omega)]
          cbv
    · have hp : p = K := by have : K ≤ p := by { rw [hK] at h8; exact nge h8 }; omega
      subst hp
      have ef : fillGo (spreadHas m) p (i + 1) s = (F ++ [G], d) := by rw [fillGo_succ, hF, fillStep, hG]
      cbv
      refine .inl ⟨by omega, by omega, by omega, ?_⟩
      refine GS.keep [0,1,2,3,8,9,10] [3] rfl (GS.done ⟨M - (i + 1), by omega, i + 1, F ++ [G], d, ef, by omega, rfl, ?_⟩)
      rw [w64n (by omega), List.take_of_length_le (by simp), List.take_of_length_le (by simp; omega)]
      simp only [List.map_append, List.map_cons, List.map_nil, ints, List.length_map]
      cbv
  · have hi : i = M := by have : M ≤ i := by { rw [hM] at h6; exact nge h6 }; omega
    subst hi
    cbv
    have hR : X = F := by rw [hF] at hX; exact hX.symm
    refine pcase.mk (fun h => absurd h (by omega)) (fun _ => ?_)
    cbv
    refine GS.closeArr 0 0 i true 33 (F.map ints) rfl rfl (by rw [tc33]; simp [hFl, Try.t33]) (GS.keep [0] [] rfl (GS.done ⟨?_, rfl⟩))
    rw [hR, hFl]
    rfl


theorem refOf_run (kind s k n m : Int) (hk1 : kind ≠ 1) (hk2 : kind ≠ 2) (hb : okB k n = true) (hm : minS k n = m) (M K : Nat) (hM : m = M) (hK : k = K) :
    ACalls Try.prog 10 [.int .i64 kind, .int .u64 s, .int .i64 k, .int .i64 n] [] (Ret (lists ((fillGo (runHas k m) K M s).1)) []) := by
  obtain ⟨h1, h2, h3, h4⟩ := okB_spec hb
  rw [hm] at h3 h4
  have hm0 : m ≠ 0 := by omega
  have hK0 : 0 < K := by omega
  have hk0 : k ≠ 0 := by omega
  have hK1 : K ≤ 48 := by omega
  have hM1 : M ≤ 48 := by omega
  have hM2 : 1 ≤ M := by omega
  have hn1 : 1 ≤ n := by simp only [okB, Bool.and_eq_true, decide_eq_true_eq] at hb; omega
  have hnk : (¬ n > k → n = m) ∧ (n > k → k = m) := by unfold minS at hm; split at hm <;> omega
  generalize hX : (fillGo (runHas k m) K M s).1 = X
  refine ACalls.of_vc (fn := Try.f10) rfl rfl mixed ?_
  cbv
  refine pcase.mk (fun h => absurd h (by omega)) (fun _ => ?_)
  cbv
  refine pcase.mk (fun h => absurd h (by omega)) (fun _ => ?_)
  cbv
  refine pcase.mk (fun h => absurd h (by omega)) (fun _ => ?_)
  cbv
  refine ⟨fun s' => s' = ⟨mk 130 [(0, .int .i64 kind), (1, .int .u64 s), (2, .int .i64 k), (3, .int .i64 m), (8, .nils), (9, .sl true 0 0 0)], [.arr 33 []]⟩, ?_, ?_⟩
  · cbv
    refine pcase.mk (fun h => ?_) (fun h => ?_)
    · have e := hnk.2 h
      cbv
      refine GS.keep [0,1,2,3,8,9] [0] rfl (GS.done ?_)
      rw [← e]; cbv
    · have e := hnk.1 h
      cbv
      refine GS.keep [0,1,2,3,8,9] [0] rfl (GS.done ?_)
      rw [← e]; cbv
  rintro s' rfl
  cbv
  refine ⟨fun z st => ∃ (i : Nat) (F : List (List Int)) (c : Int), fillGo (runHas k m) K i s = (F, c) ∧ i ≤ M ∧ z = M - i ∧ st = ⟨mk 130 [(0, .int .i64 kind), (1, .int .u64 c), (2, .int .i64 k), (3, .int .i64 m), (8, .nils), (9, .sl true 0 0 i), (10, .int .i64 i)], [.arr 33 (F.map ints)]⟩, GS.keep [0,1,2,3,8,9,10] [0] rfl (GS.done ⟨_, 0, [], s, rfl, by omega, rfl, ?_⟩), ?_⟩
  · cbv
  rintro z st ⟨i, F, c, hF, h5, rfl, rfl⟩
  have hFl : F.length = i := by have := fillGo_len (runHas k m) K i s; rw [hF] at this; exact this
  cbv
  refine pcase.mk (fun h6 => ?_) (fun h6 => ?_)
  · have hi : i < M := by rw [hM] at h6; exact nlt h6
    cbv
    refine ⟨fun z st => ∃ (p : Nat) (G : List Int) (d : Int), rowGo (runHas k m) i p c = (G, d) ∧ p ≤ K ∧ z = K - p ∧ st = ⟨mk 130 [(0, .int .i64 kind), (1, .int .u64 d), (2, .int .i64 k), (3, .int .i64 m), (8, .nils), (9, .sl true 0 0 i), (10, .int .i64 i), (11, .sl true 1 0 G.length), (12, .int .i64 p)], [.arr 33 (F.map ints), .arr 3 (G.map (V.int .i64))]⟩, GS.keep [0,1,2,3,8,9,10,11,12] [0,1] rfl (GS.done ⟨_, 0, [], c, rfl, by omega, rfl, ?_⟩), ?_⟩
    · cbv
    rintro z st ⟨p, G, d, hG, h7, rfl, rfl⟩
    have hG1 : G.length ≤ 48 := by have := rowGo_len (runHas k m) i p c; rw [hG] at this; simp at this; omega
    cbv
    refine pcase.mk (fun h8 => ?_) (fun h8 => ?_)
    · have hp : p < K := by rw [hK] at h8; exact nlt h8
      have e0 : rowGo (runHas k m) i (p + 1) c = (if runB k m i p then G ++ [(p : Int)] else G, d) := by rw [rowGo_succ, hG, rowStep]; rfl
      cbv
      refine ⟨_, ?_, fun s h => h⟩
      cbv
      refine ⟨hm0, pcase.mk (fun h9 => ?_) (fun h9 => ?_)⟩
      · cbv
        refine ⟨hm0, ?_⟩
        refine ⟨_, ?_, fun s h => h⟩
        cbv
        refine pcase.mk (fun h => absurd h (by omega)) (fun _ => ?_)
        cbv
        refine GS.done ?_
        cbv
        refine ⟨_, ?_, fun s h => h⟩
        cbv
        refine pcase.mk (fun h => absurd h (by omega)) (fun _ => ?_)
        cbv
        refine GS.done ?_
        cbv
        refine pcase.mk (fun ht => ?_) (fun ht => ?_)
        · have e2 : rowGo (runHas k m) i (p + 1) c = (G ++ [(p : Int)], d) := by rw [e0, if_pos (by simp only [runB, ge_iff_le, h9, decide_true, Bool.true_and]; simpa using ht)]
          cbv
          refine ⟨by omega, by omega, GS.done ?_⟩
          cbv
          refine GS.keep [0,1,2,3,8,9,10,11,12] [0,3] rfl (GS.done ⟨K - (p + 1), by omega, p + 1, _, _, e2, by omega, rfl, ?_⟩)
          rw [w64n (by omega), List.take_of_length_le (by simp)]
          simp only [List.length_append, List.length_singleton, List.map_append, List.map_cons, List.map_nil]
          cbv
        · have e2 : rowGo (runHas k m) i (p + 1) c = (G, d) := by rw [e0, if_neg (by simp only [runB, ge_iff_le, h9, decide_true, Bool.true_and]; simpa using ht)]
          cbv
          refine GS.done ?_
          cbv
          refine GS.keep [0,1,2,3,8,9,10,11,12] [0,1] rfl (GS.done ⟨K - (p + 1), by omega, p + 1, _, _, e2, by omega, rfl, ?_⟩)
          rw [w64n (by omega)]
          cbv
      · cbv
        refine ⟨_, ?_, fun s h => h⟩
        cbv
        refine pcase.mk (fun h => absurd h (by omega)) (fun _ => ?_)
        cbv
        refine GS.done ?_
        cbv
        refine ⟨_, ?_, fun s h => h⟩
        cbv
        refine pcase.mk (fun h => absurd h (by omega)) (fun _ => ?_)
        cbv
        refine GS.done ?_
        cbv
        have e2 : rowGo (runHas k m) i (p + 1) c = (G, d) := by rw [e0, if_neg (by simp only [runB, ge_iff_le, h9, decide_false, Bool.false_and]; simp)]
        cbv
        refine GS.done ?_
        cbv
        refine GS.keep [0,1,2,3,8,9,10,11,12] [0,1] rfl (GS.done ⟨K - (p + 1), by omega, p + 1, _, _, e2, by omega, rfl, ?_⟩)
        rw [w64n (by omega)]
        cbv
    · have hp : p = K := by have : K ≤ p := by { rw [hK] at h8; exact nge h8 }; omega
      subst hp
      have ef : fillGo (runHas k m) p (i + 1) s = (F ++ [G], d) := by rw [fillGo_succ, hF, fillStep, hG]
      cbv
      refine .inl ⟨by omega, by omega, by omega, ?_⟩
      refine GS.keep [0,1,2,3,8,9,10] [3] rfl (GS.done ⟨M - (i + 1), by omega, i + 1, F ++ [G], d, ef, by omega, rfl, ?_⟩)
      rw [w64n (by omega), List.take_of_length_le (by simp), List.take_of_length_le (by simp; omega)]
      simp only [List.map_append, List.map_cons, List.map_nil, ints, List.length_map]
      cbv
  · have hi : i = M := by have : M ≤ i := by { rw [hM] at h6; exact nge h6 }; omega
    subst hi
    cbv
    have hR : X = F := by rw [hF] at hX; exact hX.symm
    refine pcase.mk (fun h => absurd h hk2) (fun _ => ?_)
    cbv
    refine GS.closeArr 0 0 i true 33 (F.map ints) rfl rfl (by rw [tc33]; simp [hFl, Try.t33]) (GS.keep [0] [] rfl (GS.done ⟨?_, rfl⟩))
    rw [hR, hFl]
    rfl

end Go.Proofs.Ytncnnbjhginpfaa
