/- Contracts: Random. Conditions: none; plain lemmas. -/
import Derived.Test.YtncnnbjhginpfaaA9
namespace Go.Proofs.Ytncnnbjhginpfaa
set_option linter.unusedVariables false
set_option linter.unusedSimpArgs false
set_option linter.unnecessarySimpa false
open Go.Proofs
set_option maxHeartbeats 4000000
set_option cbv.maxSteps 1000000
set_option maxRecDepth 100000
set_option pp.maxSteps 900

def giveS (F : List (List Int)) (i : Nat) (p : Int) : List (List Int) := F.set i (sortS ((F[i]?).getD [] ++ [p]))
def lackS (n : Nat) (F : List (List Int)) (p : Nat) : List (List Int) := if hasS F p then F else giveS F (p % n) p
def lacksGo (n m : Nat) (F : List (List Int)) : List (List Int) := (List.range m).foldl (lackS n) F
def bareS (k : Nat) (F : List (List Int)) (i : Nat) : List (List Int) := if (F[i]?).getD [] = [] then giveS F i ((i % k : Nat) : Int) else F
def baresGo (k m : Nat) (F : List (List Int)) : List (List Int) := (List.range m).foldl (bareS k) F
def randomS (s k n : Int) : List (List Int) := if okB k n then baresGo k.toNat (minS k n).toNat (lacksGo (minS k n).toNat k.toNat (fillGo lotHas k.toNat (minS k n).toNat s).1) else []
theorem lacksGo_succ (n m : Nat) (F : List (List Int)) : lacksGo n (m + 1) F = lackS n (lacksGo n m F) m := by simp [lacksGo, List.range_succ]
theorem baresGo_succ (k m : Nat) (F : List (List Int)) : baresGo k (m + 1) F = bareS k (baresGo k m F) m := by simp [baresGo, List.range_succ]
attribute [cbv_opaque] giveS lackS lacksGo bareS baresGo randomS

theorem sortS_len (xs : List Int) : (sortS xs).length = xs.length := by simp [sortS]
theorem giveS_len (F : List (List Int)) (i : Nat) (p : Int) : (giveS F i p).length = F.length := by simp [giveS]
theorem lacks_len (n m : Nat) (F : List (List Int)) : (lacksGo n m F).length = F.length := by
  induction m with
  | zero => rfl
  | succ m ih => rw [lacksGo_succ, lackS]; split <;> simp [giveS_len, ih]
theorem bares_len (k m : Nat) (F : List (List Int)) : (baresGo k m F).length = F.length := by
  induction m with
  | zero => rfl
  | succ m ih => rw [baresGo_succ, bareS]; split <;> simp [giveS_len, ih]
theorem giveS_row {F : List (List Int)} {i : Nat} {p : Int} {b : Nat} (h : ∀ r ∈ F, r.length ≤ b) : ∀ r ∈ giveS F i p, r.length ≤ b + 1 := by
  intro r hr
  rw [giveS] at hr
  rcases List.mem_or_eq_of_mem_set hr with h1 | rfl
  · have := h r h1; omega
  · rw [sortS_len]
    cases hi : F[i]? with
    | none => simp
    | some x => have := h x (List.mem_of_getElem? hi); simp; omega
theorem lacks_row {n m b : Nat} {F : List (List Int)} (h : ∀ r ∈ F, r.length ≤ b) : ∀ r ∈ lacksGo n m F, r.length ≤ b + m := by
  induction m with
  | zero => exact h
  | succ m ih =>
    rw [lacksGo_succ, lackS]; split
    · intro r hr; have := ih r hr; omega
    · intro r hr; have := giveS_row ih r hr; omega
theorem bares_row {n m b : Nat} {F : List (List Int)} (h : ∀ r ∈ F, r.length ≤ b) : ∀ r ∈ baresGo n m F, r.length ≤ b + m := by
  induction m with
  | zero => exact h
  | succ m ih =>
    rw [baresGo_succ, bareS]; split
    · intro r hr; have := giveS_row ih r hr; omega
    · intro r hr; have := ih r hr; omega
theorem fill_row {has : Has} {k n : Nat} {s : Int} : ∀ r ∈ (fillGo has k n s).1, r.length ≤ k := by
  induction n with
  | zero => simp [fillGo, upto]
  | succ n ih =>
    rw [fillGo_succ, fillStep]
    intro r hr
    simp only [List.mem_append, List.mem_singleton] at hr
    rcases hr with hr | rfl
    · exact ih r hr
    · exact rowGo_len _ _ _ _

theorem give_ok' (F : List (List Int)) (i : Nat) (p : Int) (n : Nat) (hn : F.length = n) (hi : i < n) (hl : ∀ r ∈ F, r.length ≤ 1000) :
    ACalls Try.prog 33 [.sl true 0 0 n, .int .i64 i, .int .i64 p] [.own 33 (rows F)] (Ret (.tup []) [.own 33 (rows (giveS F i p))]) := by
  subst hn
  obtain ⟨r, hr⟩ := get_some hi
  have := give_ok F i p r hr (hl r (List.mem_of_getElem? hr))
  rw [giveS, hr]; exact this

theorem cellB_rows (σ : List Ob) (f : Nat) (F : List (List Int)) : (rows F).map (cellB Try.prog (borrowN Try.prog σ (f + 1))) = F.map ints := by
  simp only [rows, List.map_map]
  refine List.map_congr_left fun r _ => ?_
  simp only [Function.comp, rowT, ints]
  split
  · rename_i h; obtain rfl := List.length_eq_zero_iff.1 h; rfl
  · simp only [cellB, tc3]
    rw [List.take_of_length_le (by simp [Try.t3])]

theorem borrow_rows {σ : List Ob} {n N : Nat} {ow : Bool} {F : List (List Int)} (h : σ[n]? = some (.own 33 (rows F))) (hl : F.length = N) : lists F = borrowV Try.prog σ (.sl ow n 0 N) := by
  subst hl
  unfold borrowV borrowN
  have e : F.length * Try.prog.cellsOf 33 = F.length := by rw [tc33]; exact Nat.mul_one _
  rw [h]
  simp only
  rw [cellB_rows, if_pos ⟨by rw [e, rows_len]; omega, closeds_lists F⟩, e]
  simp only [lists, List.drop_zero]
  rw [List.take_of_length_le (by simp)]

theorem random_ok (s k n : Int) : ACalls Try.prog 15 [.agg [.int .u64 s], .int .i64 k, .int .i64 n] [] (Ret (lists (randomS s k n)) []) := by
  refine ACalls.of_vc (fn := Try.f15) rfl rfl mixed ?_
  cbv
  refine callVC.pure (bounds_ok k n) rfl rfl ?_
  cbv
  cases hb : okB k n with
  | false =>
    cbv
    refine GS.weakSlot 0 (GS.keep [0] [] rfl (GS.done ⟨?_, rfl⟩))
    rw [randomS, hb]; rfl
  | true =>
    obtain ⟨h1, h2, h3, h4⟩ := okB_spec hb
    obtain ⟨N, hN⟩ : ∃ N : Nat, minS k n = N := ⟨(minS k n).toNat, by omega⟩
    obtain ⟨K, hK⟩ : ∃ K : Nat, k = K := ⟨k.toNat, by omega⟩
    have hN0 : (N : Int) ≠ 0 := by omega
    have hK1 : K ≤ 48 := by omega
    have hN1 : N ≤ 48 := by omega
    have hN2 : 1 ≤ N := by omega
    have hK0 : 0 < K := by omega
    have hk0 : k ≠ 0 := by omega
    have hr : randomS s k n = baresGo K N (lacksGo N K (fillGo lotHas K N s).1) := by rw [randomS, hb, if_pos rfl, hN, hK]; simp
    rw [hr, hN]
    have hF0 : (fillGo lotHas K N s).1.length = N := fillGo_len _ _ _ _
    have hF1 : ∀ r ∈ (fillGo lotHas K N s).1, r.length ≤ 48 := fun r h => Nat.le_trans (fill_row r h) hK1
    have hfl := fillLot_ok K N s hK1 hN1 hN2
    generalize fillGo lotHas K N s = G at hfl hF0 hF1 ⊢
    obtain ⟨A, c⟩ := G
    simp only at hfl hF0 hF1 ⊢
    cbv
    refine callVC.lend [0] [.int .i64 K, .int .i64 N, .fn (.func 29) [.ptr 0 0] []] [.var 25 [.int .u64 s]] _ rfl (by simp) (by rw [hK]; rfl) rfl hfl ?_
    rintro o s1 ⟨rfl, rfl⟩ -
    cbv
    refine ⟨fun z st => ∃ (p : Nat) (F : List (List Int)), lacksGo N p A = F ∧ p ≤ K ∧ z = K - p ∧ st = ⟨mk 58 [(1, .int .i64 k), (2, .int .i64 N), (6, .nils), (8, .sl true 0 0 N), (24, .int .i64 k), (25, .int .i64 p)], [.own 33 (rows F)]⟩,
      GS.keep [1,2,6,8,24,25] [1] rfl (GS.done ⟨_, 0, A, rfl, by omega, rfl, ?_⟩), ?_⟩
    · cbv
    rintro z st ⟨p, F, hF, h5, rfl, rfl⟩
    cbv
    have hFl : F.length = N := by rw [← hF, lacks_len, hF0]
    have hFr : ∀ r ∈ F, r.length ≤ 96 := fun r h => by rw [← hF] at h; have := lacks_row hF1 r h; omega
    refine pcase.mk (fun h6 => ?_) (fun h6 => ?_)
    · have hp : p < K := by rw [hK] at h6; exact nlt h6
      have hpN : p % N < N := Nat.mod_lt _ hN2
      have em : ((p : Int).tmod (N : Int)) = ((p % N : Nat) : Int) := (Int.ofNat_tmod p N).symm
      have e1 : lacksGo N (p + 1) A = lackS N F p := by rw [lacksGo_succ, hF]
      cbv
      refine ⟨_, ?_, fun s h => h⟩
      cbv
      refine callVC.borrow [lists F, .fn (.func 31) [] [.fptr [.int .i64 p]]] (.bool (hasS F p)) (.one (borrow_rows (by rfl) hFl) (.one (by rfl) .nil)) (containsRandom_ok F p) rfl rfl ?_
      cbv
      cases hh : hasS F p with
      | true =>
        have e2 : lackS N F p = F := by rw [lackS, hh]; rfl
        cbv
        refine GS.done ?_
        cbv
        refine GS.keep [1,2,6,8,24,25] [0] rfl (GS.done ⟨K - (p + 1), by omega, p + 1, F, e1.trans e2, by omega, rfl, ?_⟩)
        rw [w64n (by omega)]
        cbv
      | false =>
        have e2 : lackS N F p = giveS F (p % N) p := by rw [lackS, hh]; rfl
        cbv
        refine ⟨hN0, ?_⟩
        rw [em]
        refine callVC.lend [0] [.sl true 0 0 N, .int .i64 ((p % N : Nat) : Int), .int .i64 p] [.own 33 (rows F)] _ rfl (by simp) rfl (by cbv) (give_ok' F (p % N) p N hFl hpN (fun r h => by have := hFr r h; omega)) ?_
        rintro o s1 ⟨rfl, rfl⟩ -
        cbv
        refine GS.done ?_
        cbv
        refine GS.keep [1,2,6,8,24,25] [0] rfl (GS.done ⟨K - (p + 1), by omega, p + 1, _, e1.trans e2, by omega, rfl, ?_⟩)
        rw [w64n (by omega)]
        cbv
    · have hp : p = K := by have : K ≤ p := by { rw [hK] at h6; exact nge h6 }; omega
      subst hp
      rw [hF]
      cbv
      refine ⟨fun z st => ∃ (i : Nat) (B : List (List Int)), baresGo p i F = B ∧ i ≤ N ∧ z = N - i ∧ st = ⟨mk 58 [(1, .int .i64 k), (6, .nils), (8, .sl true 0 0 N), (40, .int .i64 N), (41, .int .i64 i)], [.own 33 (rows B)]⟩,
        GS.keep [1,6,8,40,41] [0] rfl (GS.done ⟨_, 0, F, rfl, by omega, rfl, ?_⟩), ?_⟩
      · cbv
      rintro z st ⟨i, B, hB, h7, rfl, rfl⟩
      have hBl : B.length = N := by rw [← hB, bares_len, hFl]
      have hBr : ∀ r ∈ B, r.length ≤ 144 := fun r h => by rw [← hB] at h; have := bares_row hFr r h; omega
      cbv
      refine pcase.mk (fun h8 => ?_) (fun h8 => ?_)
      · have hi : i < N := nlt h8
        obtain ⟨r, hr'⟩ := get_some (xs := B) (k := i) (by omega)
        have hrl := hBr r (List.mem_of_getElem? hr')
        have hg := rows_get hr'
        have em : ((i : Int).tmod k) = ((i % p : Nat) : Int) := by rw [hK]; exact (Int.ofNat_tmod i p).symm
        have e1 : baresGo p (i + 1) F = bareS p B i := by rw [baresGo_succ, hB]
        have hv : ((rows B).map V.view)[i]? = some (if r.length = 0 then .nils else .frz [] r.length) := by
          rw [List.getElem?_map, hg]; unfold rowT; split <;> rfl
        cbv
        refine ⟨_, ?_, fun s h => h⟩
        by_cases hz : r.length = 0
        · rw [if_pos hz] at hv
          cbv
          refine ⟨h8, atK.mk .nils hv ?_⟩
          cbv
          refine ⟨hk0, ?_⟩
          rw [em]
          refine callVC.lend [0] [.sl true 0 0 N, .int .i64 i, .int .i64 ((i % p : Nat) : Int)] [.own 33 (rows B)] _ rfl (by simp) rfl (by cbv) (give_ok' B i _ N hBl hi (fun r h => by have := hBr r h; omega)) ?_
          rintro o s1 ⟨rfl, rfl⟩ -
          cbv
          refine GS.done ?_
          cbv
          have e2 : bareS p B i = giveS B i ((i % p : Nat) : Int) := by rw [bareS, hr']; simp [List.length_eq_zero_iff.1 hz]
          refine GS.keep [1,6,8,40,41] [0] rfl (GS.done ⟨N - (i + 1), by omega, i + 1, _, e1.trans e2, by omega, rfl, ?_⟩)
          rw [w64n (by omega)]
          cbv
        · rw [if_neg hz] at hv
          cbv
          refine ⟨h8, atK.mk (.frz [] r.length) hv ?_⟩
          cbv
          refine pcase.mk (fun h9 => absurd (Int.ofNat_eq_zero.1 h9) hz) (fun h9 => ?_)
          cbv
          refine GS.done ?_
          cbv
          have e2 : bareS p B i = B := by
            rw [bareS, hr']
            have : r ≠ [] := fun e => hz (by rw [e]; rfl)
            simp [this]
          refine GS.keep [1,6,8,40,41] [0] rfl (GS.done ⟨N - (i + 1), by omega, i + 1, _, e1.trans e2, by omega, rfl, ?_⟩)
          rw [w64n (by omega)]
          cbv
      · have hi : i = N := by have : N ≤ i := nge h8; omega
        subst hi
        cbv
        refine GS.freezeOwn 0 33 (rows B) rfl (frzd_closed B) (GS.weakFroz 0 33 _ rfl ?_)
        rw [frzd_rows]
        refine GS.closeFroz 0 0 i true 33 _ rfl rfl (by rw [tc33]; simp [hBl, Try.t33]) (GS.keep [0] [] rfl (GS.done ⟨?_, rfl⟩))
        rw [hB, hBl]
        rfl

end Go.Proofs.Ytncnnbjhginpfaa
