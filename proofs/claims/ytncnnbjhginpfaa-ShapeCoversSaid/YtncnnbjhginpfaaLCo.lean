/- The law ShapeCovers holds of the program, whatever the input. Conditions: none. -/
import Derived.Test.YtncnnbjhginpfaaA24
import Derived.Test.YtncnnbjhginpfaaA27
import Derived.Test.YtncnnbjhginpfaaA25
import Derived.Test.YtncnnbjhginpfaaRows
import Derived.Test.YtncnnbjhginpfaaA30
namespace Go.Proofs.Ytncnnbjhginpfaa
set_option linter.unusedVariables false
set_option linter.unusedSimpArgs false
set_option linter.unnecessarySimpa false
open Go.Proofs
set_option maxRecDepth 100000

/-! ### One unknown is told -/
theorem openS_single_go {ys : List Int} {x : Int} (h0 : inS ys x = false) : ∀ (eq out : List Int), (∀ y ∈ eq, y ≠ x → inS ys y = true) → (out = [] ∨ out = [x]) →
    eq.foldl (openStep ys) out = if out = [x] ∨ x ∈ eq then [x] else [] := by
  intro eq
  induction eq with
  | nil => intro out _ h; rcases h with rfl | rfl <;> simp
  | cons z eq ih =>
    intro out hy ho
    rw [List.foldl_cons]
    have hy' : ∀ y ∈ eq, y ≠ x → inS ys y = true := fun y h => hy y (by simp [h])
    by_cases hz : z = x
    · subst hz
      rcases ho with rfl | rfl
      · have e : openStep ys [] z = [z] := by rw [openStep, if_pos ⟨h0, rfl⟩]; rfl
        rw [e, ih [z] hy' (.inr rfl)]; simp
      · have e : openStep ys [z] z = [z] := by rw [openStep, if_neg (by simp [inS])]
        rw [e, ih [z] hy' (.inr rfl)]; simp
    · have e : openStep ys out z = out := by rw [openStep, if_neg (by simp [hy z (by simp) hz])]
      rw [e, ih out hy' ho]
      have : x ∈ z :: eq ↔ x ∈ eq := by simp [show ¬ x = z from fun h => hz h.symm]
      simp [this]
theorem openS_single {ys eq : List Int} {x : Int} (h0 : inS ys x = false) (hx : x ∈ eq) (hy : ∀ y ∈ eq, y ≠ x → inS ys y = true) : openS ys eq = [x] := by
  rw [openS, openS_single_go h0 eq [] hy (.inl rfl), if_pos (.inr hx)]
theorem passStep_grows (A ts eq : List Int) : ∃ zs, passStep A ts eq = ts ++ zs := by
  unfold passStep
  split
  · exact ⟨_, rfl⟩
  · exact ⟨[], by simp⟩
theorem pass_grows (A : List Int) : ∀ (eqs : List (List Int)) (ts : List Int), ∃ zs, eqs.foldl (passStep A) ts = ts ++ zs := by
  intro eqs
  induction eqs with
  | nil => intro ts; exact ⟨[], by simp⟩
  | cons e eqs ih =>
    intro ts
    obtain ⟨z1, h1⟩ := passStep_grows A ts e
    obtain ⟨z2, h2⟩ := ih (passStep A ts e)
    exact ⟨z1 ++ z2, by rw [List.foldl_cons, h2, h1, List.append_assoc]⟩
theorem pass_hit {A eq : List Int} {x : Int} (hx : x ∈ eq) (hy : ∀ y ∈ eq, y ≠ x → inS A y = true) : ∀ (eqs : List (List Int)) (ts : List Int), eq ∈ eqs → inS (A ++ eqs.foldl (passStep A) ts) x = true := by
  intro eqs
  induction eqs with
  | nil => intro ts h; cases h
  | cons e eqs ih =>
    intro ts he
    rw [List.foldl_cons]
    rcases List.mem_cons.1 he with rfl | he
    · obtain ⟨z2, h2⟩ := pass_grows A eqs (passStep A ts eq)
      rw [h2, ← List.append_assoc, inS_append]
      have : inS (A ++ passStep A ts eq) x = true := by
        cases h0 : inS (A ++ ts) x with
        | true =>
          obtain ⟨z1, h1⟩ := passStep_grows A ts eq
          rw [h1, ← List.append_assoc, inS_append, h0]; rfl
        | false =>
          rw [passStep_one (openS_single h0 hx fun y hy1 hy2 => by rw [inS_append, hy y hy1 hy2]; rfl), inS_append, inS_append]
          simp [inS]
      rw [this]; rfl
    · exact ih _ he
theorem peelGo_keeps (eqs : List (List Int)) : ∀ (f : Nat) (A : List Int), ∃ T, peelGo eqs f A = A ++ T := by
  intro f
  induction f with
  | zero => intro A; exact ⟨[], by simp [peelGo]⟩
  | succ f ih =>
    intro A
    unfold peelGo
    split
    · exact ⟨[], by simp⟩
    · obtain ⟨T, h⟩ := ih (A ++ passS A eqs)
      exact ⟨passS A eqs ++ T, by rw [h, List.append_assoc]⟩
theorem peelS_keeps (eqs : List (List Int)) (A : List Int) : ∃ T, peelS eqs A = A ++ T := peelGo_keeps eqs _ A
theorem peelS_hit {A eq : List Int} {eqs : List (List Int)} {x : Int} (he : eq ∈ eqs) (hx : x ∈ eq) (hy : ∀ y ∈ eq, y ≠ x → inS A y = true) : inS (peelS eqs A) x = true := by
  have h := pass_hit hx hy eqs [] he
  by_cases hp : passS A eqs = []
  · rw [peelS_stop hp]
    rw [show eqs.foldl (passStep A) [] = [] from hp, List.append_nil] at h
    exact h
  · rw [peelS_go hp]
    obtain ⟨T, hT⟩ := peelS_keeps eqs (A ++ passS A eqs)
    rw [hT, inS_append, show inS (A ++ passS A eqs) x = true from h]; rfl

theorem inS_rest (lost all : List Int) (y : Int) : inS (restS lost all) y = (inS all y && !inS lost y) := by
  rw [Bool.eq_iff_iff, inS_iff, restS, List.mem_filter]
  simp [inS_iff]
theorem peelable_hit {lost all : List Int} {F : List (List Int)} (h : ∀ x ∈ lost, ∃ eq ∈ F, x ∈ eq ∧ ∀ y ∈ eq, y ≠ x → inS all y = true ∧ inS lost y = false) : peelableS lost all F = true := by
  rw [peelableS, List.all_eq_true]
  intro x hx
  obtain ⟨eq, he, hxe, hy⟩ := h x hx
  exact peelS_hit he hxe fun y h1 h2 => by rw [inS_rest, (hy y h1 h2).1, (hy y h1 h2).2]; rfl
theorem inS_upto (k : Nat) (y : Int) : inS (upto k) y = (decide (0 ≤ y) && decide (y < k)) := by
  rw [Bool.eq_iff_iff, inS_iff]
  simp only [upto, List.mem_map, List.mem_range, Bool.and_eq_true, decide_eq_true_eq]
  constructor
  · rintro ⟨a, h1, rfl⟩; omega
  · rintro ⟨h1, h2⟩; exact ⟨y.toNat, by omega, by omega⟩
theorem surv_hit {F : List (List Int)} {k r : Nat} (hr : r ≤ k) (hin : ∀ row ∈ F, ∀ y ∈ row, 0 ≤ y ∧ y < (k : Int))
    (h : ∀ (q : Nat) (x : Int), q + r ≤ k → inW q r x = true → ∃ eq ∈ F, x ∈ eq ∧ ∀ y ∈ eq, y ≠ x → inW q r y = false) : survS F k r = true := by
  rw [survS, List.all_eq_true]
  intro q hq
  have hq' : q + r ≤ k := by simp at hq; omega
  refine peelable_hit fun x hx => ?_
  have hw := inS_win hq' x
  rw [inS_iff.2 hx] at hw
  obtain ⟨eq, he, hxe, hy⟩ := h q x hq' hw.symm
  refine ⟨eq, he, hxe, fun y h1 h2 => ⟨?_, ?_⟩⟩
  · rw [inS_upto]; have := hin eq he y h1; simp; omega
  · rw [inS_win hq', hy y h1 h2]

/-! ### At most one place for each row -/
def unk (A eq : List Int) : Bool := eq.any fun y => !inS A y
def cntU (F : List (List Int)) (A : List Int) : Nat := (F.filter (unk A)).length
theorem filter_less {α : Type} {p q : α → Bool} {l : List α} (h : ∀ e, p e = true → q e = true) : (l.filter p).length ≤ (l.filter q).length := by
  induction l with
  | nil => simp
  | cons a l ih =>
    cases hp : p a with
    | true => simp [hp, h a hp]; exact ih
    | false => cases hq : q a <;> simp [hp, hq] <;> omega
theorem filter_lt {α : Type} {p q : α → Bool} {l : List α} (h : ∀ e, p e = true → q e = true) {a : α} (ha : a ∈ l) (h1 : q a = true) (h2 : p a = false) : (l.filter p).length + 1 ≤ (l.filter q).length := by
  induction l with
  | nil => cases ha
  | cons b l ih =>
    rcases List.mem_cons.1 ha with rfl | ha
    · have := filter_less (l := l) h
      simp [h1, h2]; omega
    · have := ih ha
      cases hp : p b with
      | true => simp [hp, h b hp]; omega
      | false => cases hq : q b <;> simp [hp, hq] <;> omega
theorem unk_mono {A B : List Int} (h : ∀ y, inS A y = true → inS B y = true) (eq : List Int) : unk B eq = true → unk A eq = true := by
  simp only [unk, List.any_eq_true]
  rintro ⟨y, h1, h2⟩
  refine ⟨y, h1, ?_⟩
  cases ha : inS A y with
  | false => rfl
  | true => rw [h y ha] at h2; exact h2
theorem step_less {F : List (List Int)} {A ts eq : List Int} (he : eq ∈ F) : (passStep A ts eq).length + cntU F (A ++ passStep A ts eq) ≤ ts.length + cntU F (A ++ ts) := by
  unfold passStep
  split
  · rename_i x hx
    have hm := openS_mem (show x ∈ openS (A ++ ts) eq by rw [hx]; simp)
    have hb : unk (A ++ (ts ++ [x])) eq = false := by
      rw [unk, List.any_eq_false]
      intro y hy
      cases hA : inS (A ++ ts) y with
      | true => rw [← List.append_assoc, inS_append, hA]; simp
      | false =>
        have h1 : inS (openS (A ++ ts) eq) y = true := by rw [openS_mem_iff, inS_iff.2 hy, hA]; rfl
        rw [hx] at h1
        rw [← List.append_assoc, inS_append, h1]; simp
    have ha : unk (A ++ ts) eq = true := by
      rw [unk, List.any_eq_true]
      exact ⟨x, hm.1, by rw [hm.2]; rfl⟩
    have := filter_lt (p := unk (A ++ (ts ++ [x]))) (q := unk (A ++ ts)) (l := F) (unk_mono fun y hy => by rw [← List.append_assoc, inS_append, hy]; rfl) he ha hb
    simp only [cntU, List.length_append, List.length_cons, List.length_nil]
    omega
  · exact Nat.le_refl _
theorem pass_less {F : List (List Int)} {A : List Int} : ∀ (eqs : List (List Int)) (ts : List Int), (∀ e ∈ eqs, e ∈ F) →
    (eqs.foldl (passStep A) ts).length + cntU F (A ++ eqs.foldl (passStep A) ts) ≤ ts.length + cntU F (A ++ ts) := by
  intro eqs
  induction eqs with
  | nil => intro ts _; exact Nat.le_refl _
  | cons e eqs ih =>
    intro ts h
    rw [List.foldl_cons]
    exact Nat.le_trans (ih _ fun e' he' => h e' (by simp [he'])) (step_less (h e (by simp)))
theorem peelGo_less (F : List (List Int)) : ∀ (f : Nat) (A : List Int), (peelGo F f A).length + cntU F (peelGo F f A) ≤ A.length + cntU F A := by
  intro f
  induction f with
  | zero => intro A; exact Nat.le_refl _
  | succ f ih =>
    intro A
    unfold peelGo
    split
    · exact Nat.le_refl _
    · refine Nat.le_trans (ih _) ?_
      have := pass_less (F := F) (A := A) F [] fun _ h => h
      rw [List.append_nil] at this
      simp only [List.length_append, passS]
      simp only [List.length_nil] at this
      omega
theorem peelS_less (F : List (List Int)) (A : List Int) : (peelS F A).length ≤ A.length + F.length := by
  have h1 := peelGo_less F (remS F A + 1) A
  have h2 : cntU F A ≤ F.length := List.length_filter_le _ _
  unfold peelS; omega
theorem nodup_le {α : Type} [DecidableEq α] : ∀ (l T : List α), l.Nodup → (∀ x ∈ l, x ∈ T) → l.length ≤ T.length := by
  intro l
  induction l with
  | nil => intro T _ _; simp
  | cons x l ih =>
    intro T hn hs
    obtain ⟨h1, h2⟩ := List.nodup_cons.1 hn
    have hx := hs x (by simp)
    have := ih (T.erase x) h2 fun y hy => (List.mem_erase_of_ne (fun (e : y = x) => h1 (by rw [← e]; exact hy))).2 (hs y (by simp [hy]))
    rw [List.length_erase_of_mem hx] at this
    have : 0 < T.length := List.length_pos_of_mem hx
    simp; omega
theorem upto_nodup (m : Nat) : (upto m).Nodup := by
  rw [upto, List.Nodup, List.pairwise_map]
  exact (List.nodup_range (n := m)).imp fun h e => h (Int.ofNat.inj e)
theorem win_zero {k r : Nat} (h : r ≤ k) : win k 0 r = upto r := by
  rw [win, List.drop_zero, upto, upto, ← List.map_take, List.take_range]
  congr 2; omega
theorem surv_not {F : List (List Int)} {k r : Nat} (hr : r ≤ k) (h : F.length < r) : survS F k r = false := by
  cases hs : survS F k r with
  | false => rfl
  | true =>
    rw [survS, List.all_eq_true] at hs
    have h0 := hs 0 (by simp)
    rw [win_zero hr, peelableS, List.all_eq_true] at h0
    obtain ⟨T, hT⟩ := peelS_keeps F (restS (upto r) (upto k))
    have hl := peelS_less F (restS (upto r) (upto k))
    rw [hT, List.length_append] at hl
    have hsub : ∀ x ∈ upto r, x ∈ T := fun x hx => by
      have h1 := h0 x hx
      rw [hT, inS_append, inS_rest, inS_iff.2 hx] at h1
      simpa [inS_iff] using h1
    have := nodup_le _ _ (upto_nodup r) hsub
    rw [upto_len] at this
    omega

/-! ### Burst -/
theorem burst_up (F : List (List Int)) (k : Nat) : ∀ (f r : Nat), r ≤ burstGo F k f r ∧ burstGo F k f r ≤ r + f := by
  intro f
  induction f with
  | zero => intro r; simp [burstGo]
  | succ f ih =>
    intro r
    unfold burstGo
    split
    · have := ih (r + 1); omega
    · omega
theorem burst_ge {F : List (List Int)} {k R : Nat} (h : ∀ r, 1 ≤ r → r ≤ R → survS F k r = true) : ∀ (f r : Nat), r ≤ R → R ≤ r + f → R ≤ burstGo F k f r := by
  intro f
  induction f with
  | zero => intro r h1 h2; simp [burstGo]; omega
  | succ f ih =>
    intro r h1 h2
    rcases Nat.eq_or_lt_of_le h1 with rfl | h1
    · exact (burst_up F k _ _).1
    · unfold burstGo
      rw [if_pos (h (r + 1) (by omega) (by omega))]
      exact ih (r + 1) (by omega) (by omega)
theorem burst_le {F : List (List Int)} {k R : Nat} (h : survS F k (R + 1) = false) : ∀ (f r : Nat), r ≤ R → burstGo F k f r ≤ R := by
  intro f
  induction f with
  | zero => intro r h1; simpa [burstGo] using h1
  | succ f ih =>
    intro r h1
    unfold burstGo
    split
    · rename_i hs
      rcases Nat.eq_or_lt_of_le h1 with rfl | h1
      · rw [h] at hs; cases hs
      · exact ih (r + 1) (by omega)
    · exact h1
end Go.Proofs.Ytncnnbjhginpfaa

namespace Go.Proofs.Ytncnnbjhginpfaa
set_option linter.unusedVariables false
set_option linter.unusedSimpArgs false
set_option linter.unnecessarySimpa false
open Go.Proofs
set_option maxRecDepth 100000

/-! ### Rows of a plain choice -/
theorem rowGo_filter (f : Int → Int → Bool) (has : Has) (hh : ∀ s i p, has s i p = (f i p, s)) (i s : Int) : ∀ m : Nat, (rowGo has i m s) = ((upto m).filter (f i), s) := by
  intro m
  induction m with
  | zero => simp [rowGo, upto]
  | succ m ih =>
    rw [rowGo_succ, ih, rowStep, upto_succ, List.filter_append]
    simp only [hh]
    cases h : f i m <;> simp [h]
theorem fillGo_map (f : Int → Int → Bool) (has : Has) (hh : ∀ s i p, has s i p = (f i p, s)) (k : Nat) (s : Int) : ∀ n : Nat, fillGo has k n s = ((upto n).map fun i => (upto k).filter (f i), s) := by
  intro n
  induction n with
  | zero => simp [fillGo, upto]
  | succ n ih => rw [fillGo_succ, ih, fillStep, upto_succ, List.map_append, rowGo_filter f has hh]; rfl
theorem runS_eq {k n : Int} (h : okB k n = true) : runS k n = (upto (minS k n).toNat).map fun i => (upto k.toNat).filter (runB k (minS k n) i) := by
  rw [runS, if_pos h, fillGo_map (runB k (minS k n)) (runHas k (minS k n)) (fun _ _ _ => rfl)]
theorem spreadS_eq {k n : Int} (h : okB k n = true) : spreadS k n = (upto (minS k n).toNat).map fun i => (upto k.toNat).filter (spreadB (minS k n) i) := by
  rw [spreadS, if_pos h, fillGo_map (spreadB (minS k n)) (spreadHas (minS k n)) (fun _ _ _ => rfl)]

/-- A shape of N rows over the places 0 to k. -/
structure Good (F : List (List Int)) (k N : Nat) : Prop where
  len : F.length = N
  rise : ∀ r ∈ F, r.Pairwise (· < ·)
  inn : ∀ r ∈ F, ∀ y ∈ r, 0 ≤ y ∧ y < (k : Int)
  full : ∀ r ∈ F, r ≠ []
  cov : ∀ p : Nat, p < k → ∃ r ∈ F, (p : Int) ∈ r

theorem upto_rise (m : Nat) : (upto m).Pairwise (· < ·) := by
  rw [upto, List.pairwise_map]
  exact (List.pairwise_lt_range (n := m)).imp fun h => Int.ofNat_lt.2 h
theorem mem_upto {m : Nat} {y : Int} : y ∈ upto m ↔ 0 ≤ y ∧ y < m := by
  have := inS_upto m y
  rw [Bool.eq_iff_iff, inS_iff] at this
  simpa using this
theorem good_filter (f : Int → Int → Bool) (k N : Nat) (hfull : ∀ i : Nat, i < N → ∃ p : Nat, p < k ∧ f i p = true) (hcov : ∀ p : Nat, p < k → ∃ i : Nat, i < N ∧ f i p = true) : Good ((upto N).map fun i => (upto k).filter (f i)) k N where
  len := by simp [upto_len]
  rise := by
    intro r hr
    obtain ⟨i, _, rfl⟩ := List.mem_map.1 hr
    exact (upto_rise k).sublist List.filter_sublist
  inn := by
    intro r hr y hy
    obtain ⟨i, _, rfl⟩ := List.mem_map.1 hr
    exact mem_upto.1 (List.mem_filter.1 hy).1
  full := by
    intro r hr
    obtain ⟨i, hi, rfl⟩ := List.mem_map.1 hr
    obtain ⟨h1, h2⟩ := mem_upto.1 hi
    obtain ⟨p, hp, hf⟩ := hfull i.toNat (by omega)
    rw [show ((i.toNat : Nat) : Int) = i by omega] at hf
    exact List.ne_nil_of_mem (List.mem_filter.2 ⟨mem_upto.2 ⟨by omega, by omega⟩, hf⟩)
  cov := by
    intro p hp
    obtain ⟨i, hi, hf⟩ := hcov p hp
    exact ⟨_, List.mem_map.2 ⟨(i : Int), mem_upto.2 ⟨by omega, by omega⟩, rfl⟩, List.mem_filter.2 ⟨mem_upto.2 ⟨by omega, by omega⟩, hf⟩⟩
theorem Good.covers {F : List (List Int)} {k N : Nat} (h : Good F k N) (hk : k ≤ 48) : coversS F k = true := by
  rw [covers_eq, rcoversS, coversTo, List.all_eq_true]
  intro p hp
  obtain ⟨r, hr, hpr⟩ := h.cov p (by simp at hp; omega)
  rw [hasS, List.any_eq_true]
  exact ⟨r, hr, inS_iff.2 hpr⟩
theorem Good.burst {F : List (List Int)} {k N : Nat} (h : Good F k N) (hN : 1 ≤ N) (hNk : N ≤ k) (hk : k ≤ 48) : 1 ≤ burstS F k ∧ burstS F k ≤ N := by
  rw [burstS, if_neg (by omega), Int.toNat_natCast]
  constructor
  · have : 1 ≤ burstGo F k k 0 := burst_ge (R := 1) (fun r h1 h2 => by
      obtain rfl : r = 1 := by omega
      refine surv_hit (by omega) h.inn fun q x hq hx => ?_
      have hxq : x = q := by simp [inW] at hx; omega
      subst hxq
      obtain ⟨r, hr, hpr⟩ := h.cov q (by omega)
      exact ⟨r, hr, hpr, fun y hy hne => by simp [inW]; omega⟩) k 0 (by omega) (by omega)
    omega
  · have : burstGo F k k 0 ≤ N := by
      rcases Nat.eq_or_lt_of_le hNk with rfl | hlt
      · have := (burst_up F N N 0).2; omega
      · exact burst_le (surv_not hlt (by rw [h.len]; omega)) k 0 (by omega)
    omega

/-! ### Spread -/
theorem tmodN {p n : Nat} : (p : Int).tmod n = ((p % n : Nat) : Int) := by rw [Int.ofNat_tmod]
theorem spread_good {k N : Nat} (hN : 1 ≤ N) (hNk : N ≤ k) : Good ((upto N).map fun i => (upto k).filter (spreadB N i)) k N :=
  good_filter _ k N (fun i hi => ⟨i, by omega, by rw [spreadB, tmodN, Nat.mod_eq_of_lt hi]; simp⟩) (fun p hp => ⟨p % N, Nat.mod_lt _ (by omega), by rw [spreadB, tmodN]; simp⟩)
theorem spread_burst {k N : Nat} (hN : 1 ≤ N) (hNk : N ≤ k) (hk : k ≤ 48) : burstS ((upto N).map fun i => (upto k).filter (spreadB N i)) k = N := by
  have hg := spread_good hN hNk
  have h2 := hg.burst hN hNk hk
  have : N ≤ burstGo ((upto N).map fun i => (upto k).filter (spreadB N i)) k k 0 := burst_ge (R := N) (fun r h1 hr => by
    refine surv_hit (by omega) hg.inn fun q x hq hx => ?_
    have hx' : (q : Int) ≤ x ∧ x < (q : Int) + r := by simp [inW] at hx; omega
    obtain ⟨X, rfl⟩ : ∃ X : Nat, x = X := ⟨x.toNat, by omega⟩
    refine ⟨_, List.mem_map.2 ⟨((X % N : Nat) : Int), mem_upto.2 ⟨by omega, by have := Nat.mod_lt X (show N > 0 by omega); omega⟩, rfl⟩, List.mem_filter.2 ⟨mem_upto.2 ⟨by omega, by omega⟩, by rw [spreadB, tmodN]; simp⟩, fun y hy hne => ?_⟩
    obtain ⟨hy1, hy2⟩ := List.mem_filter.1 hy
    obtain ⟨hy3, hy4⟩ := mem_upto.1 hy1
    obtain ⟨Y, rfl⟩ : ∃ Y : Nat, y = Y := ⟨y.toNat, by omega⟩
    rw [spreadB, tmodN] at hy2
    have hmod : Y % N = X % N := Int.ofNat.inj (eq_of_beq hy2)
    cases hw : inW q r (Y : Int) with
    | false => rfl
    | true =>
      exfalso
      have hy5 : (q : Int) ≤ Y ∧ (Y : Int) < (q : Int) + r := by simp [inW] at hw; omega
      apply hne
      have e1 := Nat.div_add_mod Y N
      have e2 := Nat.div_add_mod X N
      rcases Nat.lt_trichotomy (Y / N) (X / N) with hl | hl | hl
      · have : N * (Y / N + 1) ≤ N * (X / N) := Nat.mul_le_mul_left _ hl
        rw [Nat.mul_add] at this; omega
      · rw [hl] at e1; omega
      · have : N * (X / N + 1) ≤ N * (Y / N) := Nat.mul_le_mul_left _ hl
        rw [Nat.mul_add] at this; omega) k 0 (by omega) (by omega)
  have e : burstS ((upto N).map fun i => (upto k).filter (spreadB N i)) k = (burstGo ((upto N).map fun i => (upto k).filter (spreadB N i)) k k 0 : Int) := by
    rw [burstS, if_neg (by omega), Int.toNat_natCast]
  rw [e] at h2 ⊢
  omega
end Go.Proofs.Ytncnnbjhginpfaa

namespace Go.Proofs.Ytncnnbjhginpfaa
set_option linter.unusedVariables false
set_option linter.unusedSimpArgs false
set_option linter.unnecessarySimpa false
open Go.Proofs
set_option maxRecDepth 100000

theorem runB_nat {K N i p : Nat} (hK : K ≤ 48) (hN : N ≤ 48) (hi : i < N) : runB K N i p = (decide (i * K / N ≤ p) && decide (p < (i + 1) * K / N)) := by
  have h1 : i * K ≤ 48 * 48 := Nat.mul_le_mul (by omega) hK
  have h2 : (i + 1) * K ≤ 48 * 48 := Nat.mul_le_mul (by omega) hK
  have h3 : i * K / N ≤ i * K := Nat.div_le_self _ _
  have h4 : (i + 1) * K / N ≤ (i + 1) * K := Nat.div_le_self _ _
  have e1 : ((i : Int) * K) = ((i * K : Nat) : Int) := by simp
  have e2 : (((i : Int) + 1) * K) = (((i + 1) * K : Nat) : Int) := by simp
  obtain ⟨A, hA⟩ : ∃ A, i * K / N = A := ⟨_, rfl⟩
  obtain ⟨B, hB⟩ : ∃ B, (i + 1) * K / N = B := ⟨_, rfl⟩
  have e3 : ((i * K : Nat) : Int).tdiv N = (A : Int) := by rw [← hA, ← Int.ofNat_tdiv]
  have e4 : (((i + 1) * K : Nat) : Int).tdiv N = (B : Int) := by rw [← hB, ← Int.ofNat_tdiv]
  rw [hA] at h3
  rw [hB] at h4
  rw [hA, hB]
  unfold runB
  rw [w64 (x := (i : Int) + 1) (by omega) (by omega), e1, e2, w64 (x := ((i * K : Nat) : Int)) (by omega) (by omega), w64 (x := (((i + 1) * K : Nat) : Int)) (by omega) (by omega), e3, e4, w64 (x := (A : Int)) (by omega) (by omega), w64 (x := (B : Int)) (by omega) (by omega)]
  rw [Bool.eq_iff_iff]
  simp only [Bool.and_eq_true, decide_eq_true_eq]
  omega
theorem between (g : Nat → Nat) (p : Nat) (h0 : g 0 ≤ p) : ∀ n : Nat, p < g n → ∃ i, i < n ∧ g i ≤ p ∧ p < g (i + 1) := by
  intro n
  induction n with
  | zero => intro h; omega
  | succ n ih =>
    intro h
    by_cases hn : p < g n
    · obtain ⟨i, h1, h2⟩ := ih hn; exact ⟨i, by omega, h2⟩
    · exact ⟨n, by omega, by omega, h⟩
theorem run_good {K N : Nat} (hN : 1 ≤ N) (hNk : N ≤ K) (hK : K ≤ 48) : Good ((upto N).map fun i => (upto K).filter (runB K N i)) K N := by
  refine good_filter _ K N (fun i hi => ?_) (fun p hp => ?_)
  · have h1 : i * K / N + 1 ≤ (i + 1) * K / N := by
      rw [← Nat.add_div_right _ (show 0 < N by omega)]
      refine Nat.div_le_div_right ?_
      rw [Nat.add_mul]; omega
    have h2 : (i + 1) * K / N ≤ K := by
      refine Nat.le_trans (Nat.div_le_div_right (Nat.mul_le_mul_right K (show i + 1 ≤ N by omega))) ?_
      rw [Nat.mul_div_cancel_left _ (show 0 < N by omega)]; exact Nat.le_refl _
    refine ⟨i * K / N, by omega, ?_⟩
    rw [runB_nat hK (by omega) hi]
    simp; omega
  · obtain ⟨i, h1, h2, h3⟩ := between (fun i => i * K / N) p (by simp) N (by show p < N * K / N; rw [Nat.mul_div_cancel_left _ (show 0 < N by omega)]; exact hp)
    refine ⟨i, h1, ?_⟩
    rw [runB_nat hK (by omega) h1]
    simp only [Bool.and_eq_true, decide_eq_true_eq]
    exact ⟨h2, h3⟩

/-! ### Random -/
theorem row_rise (has : Has) (i : Int) (s : Int) : ∀ m : Nat, (rowGo has i m s).1.Pairwise (· < ·) := by
  intro m
  induction m with
  | zero => simp [rowGo, upto]
  | succ m ih =>
    have hb := (rowGo_row has i s m).2
    rw [rowGo_succ, rowStep]
    simp only
    split
    · refine List.pairwise_append.2 ⟨ih, by simp, fun a ha b hb' => ?_⟩
      simp at hb'; subst hb'; exact (hb a ha).2
    · exact ih
theorem fill_rise (has : Has) (k n : Nat) (s : Int) : ∀ r ∈ (fillGo has k n s).1, r.Pairwise (· < ·) := by
  induction n with
  | zero => simp [fillGo, upto]
  | succ n ih =>
    rw [fillGo_succ, fillStep]
    intro r hr
    simp only [List.mem_append, List.mem_singleton] at hr
    rcases hr with hr | rfl
    · exact ih r hr
    · exact row_rise has n _ k
structure Half (F : List (List Int)) (k : Nat) : Prop where
  rise : ∀ r ∈ F, r.Pairwise (· < ·)
  inn : ∀ r ∈ F, ∀ y ∈ r, 0 ≤ y ∧ y < (k : Int)
theorem hasS_iff {F : List (List Int)} {x : Int} : hasS F x = true ↔ ∃ r ∈ F, x ∈ r := by
  simp only [hasS, List.any_eq_true, inS_iff]
theorem sort_rise {r : List Int} {p : Int} (h : r.Pairwise (· < ·)) (hp : p ∉ r) : (sortS (r ++ [p])).Pairwise (· < ·) := by
  have h1 := sortS_sorted (r ++ [p])
  have h2 : (sortS (r ++ [p])).Nodup := by
    refine (sortS_perm _).nodup_iff.2 ?_
    rw [List.nodup_append]
    refine ⟨h.imp fun h => by omega, by simp, fun a ha b hb => ?_⟩
    simp at hb; subst hb
    rintro rfl; exact hp ha
  exact (List.Pairwise.and h1 h2).imp fun ⟨a, b⟩ => by omega
theorem mem_sort {r : List Int} {p y : Int} : y ∈ sortS (r ++ [p]) ↔ y ∈ r ∨ y = p := by
  rw [(sortS_perm _).mem_iff]; simp
theorem give_get {F : List (List Int)} {i : Nat} {p : Int} {r : List Int} (hr : r ∈ giveS F i p) : r ∈ F ∨ (i < F.length ∧ r = sortS ((F[i]?).getD [] ++ [p])) := by
  obtain ⟨j, hj⟩ := List.mem_iff_getElem?.1 hr
  rw [giveS, List.getElem?_set] at hj
  split at hj
  · split at hj
    · rename_i h1 h2; exact .inr ⟨by omega, by cases hj; rfl⟩
    · cases hj
  · exact .inl (List.mem_of_getElem? hj)
theorem getD_mem {F : List (List Int)} {i : Nat} (h : i < F.length) : (F[i]?).getD [] ∈ F := by
  rw [List.getElem?_eq_getElem h]; exact List.getElem_mem h
theorem give_half {F : List (List Int)} {k i : Nat} {p : Int} (h : Half F k) (hp : 0 ≤ p ∧ p < (k : Int)) (hn : p ∉ (F[i]?).getD []) : Half (giveS F i p) k where
  rise := fun r hr => by
    rcases give_get hr with hr | ⟨hi, rfl⟩
    · exact h.rise r hr
    · exact sort_rise (h.rise _ (getD_mem hi)) hn
  inn := fun r hr y hy => by
    rcases give_get hr with hr | ⟨hi, rfl⟩
    · exact h.inn r hr y hy
    · rcases mem_sort.1 hy with hy | rfl
      · exact h.inn _ (getD_mem hi) y hy
      · exact hp
theorem give_has {F : List (List Int)} {i : Nat} {p y : Int} (hi : i < F.length) (h : hasS F y = true ∨ y = p) : hasS (giveS F i p) y = true := by
  rw [hasS_iff]
  have hself : sortS ((F[i]?).getD [] ++ [p]) ∈ giveS F i p := by
    refine List.mem_iff_getElem?.2 ⟨i, ?_⟩
    rw [giveS, List.getElem?_set, if_pos rfl, if_pos hi]
  rcases h with h | rfl
  · obtain ⟨r, hr, hy⟩ := hasS_iff.1 h
    obtain ⟨j, hj⟩ := List.mem_iff_getElem?.1 hr
    by_cases hij : i = j
    · subst hij
      refine ⟨_, hself, mem_sort.2 (.inl ?_)⟩
      rw [hj]; exact hy
    · refine ⟨r, List.mem_iff_getElem?.2 ⟨j, ?_⟩, hy⟩
      rw [giveS, List.getElem?_set, if_neg hij]; exact hj
  · exact ⟨_, hself, mem_sort.2 (.inr rfl)⟩
theorem lacks_good {k n : Nat} (hn : 1 ≤ n) : ∀ (ps : List Nat) (F : List (List Int)), (∀ p ∈ ps, p < k) → F.length = n → Half F k →
    (ps.foldl (lackS n) F).length = n ∧ Half (ps.foldl (lackS n) F) k ∧ (∀ y, hasS F y = true → hasS (ps.foldl (lackS n) F) y = true) ∧ ∀ p ∈ ps, hasS (ps.foldl (lackS n) F) p = true := by
  intro ps
  induction ps with
  | nil => intro F _ h1 h2; exact ⟨h1, h2, fun _ h => h, fun p hp => by cases hp⟩
  | cons p ps ih =>
    intro F hps h1 h2
    rw [List.foldl_cons]
    have hp := hps p (by simp)
    have hlt : p % n < F.length := by rw [h1]; exact Nat.mod_lt _ (by omega)
    have key : (lackS n F p).length = n ∧ Half (lackS n F p) k ∧ (∀ y, hasS F y = true → hasS (lackS n F p) y = true) ∧ hasS (lackS n F p) p = true := by
      unfold lackS
      split
      · rename_i hh; exact ⟨h1, h2, fun _ h => h, hh⟩
      · rename_i hh
        refine ⟨by rw [giveS_len, h1], give_half h2 ⟨by omega, by omega⟩ (fun hm => hh (hasS_iff.2 ⟨_, getD_mem hlt, hm⟩)), fun y hy => give_has hlt (.inl hy), give_has hlt (.inr rfl)⟩
    obtain ⟨k1, k2, k3, k4⟩ := key
    obtain ⟨i1, i2, i3, i4⟩ := ih _ (fun q hq => hps q (by simp [hq])) k1 k2
    refine ⟨i1, i2, fun y hy => i3 y (k3 y hy), fun q hq => ?_⟩
    rcases List.mem_cons.1 hq with rfl | hq
    · exact i3 _ k4
    · exact i4 q hq
theorem bares_good {k n : Nat} (hk : 1 ≤ k) : ∀ (is : List Nat) (F : List (List Int)), (∀ i ∈ is, i < n) → F.length = n → Half F k →
    (is.foldl (bareS k) F).length = n ∧ Half (is.foldl (bareS k) F) k ∧ (∀ y, hasS F y = true → hasS (is.foldl (bareS k) F) y = true) ∧
      (∀ j, j < n → (F[j]?).getD [] ≠ [] ∨ j ∈ is → ((is.foldl (bareS k) F)[j]?).getD [] ≠ []) := by
  intro is
  induction is with
  | nil => intro F _ h1 h2; exact ⟨h1, h2, fun _ h => h, fun j _ h => h.elim (fun h => h) fun h => by cases h⟩
  | cons i is ih =>
    intro F his h1 h2
    rw [List.foldl_cons]
    have hi := his i (by simp)
    have key : (bareS k F i).length = n ∧ Half (bareS k F i) k ∧ (∀ y, hasS F y = true → hasS (bareS k F i) y = true) ∧ (∀ j, j < n → (F[j]?).getD [] ≠ [] ∨ j = i → ((bareS k F i)[j]?).getD [] ≠ []) := by
      unfold bareS
      split
      · rename_i hh
        have hm := Nat.mod_lt i (show k > 0 by omega)
        refine ⟨by rw [giveS_len, h1], give_half h2 ⟨by omega, by omega⟩ (by rw [hh]; simp), fun y hy => give_has (by omega) (.inl hy), fun j hj hor => ?_⟩
        rw [giveS, List.getElem?_set]
        by_cases hij : i = j
        · rw [if_pos hij, if_pos (by omega)]
          intro e
          have := sortS_len ((F[i]?).getD [] ++ [((i % k : Nat) : Int)])
          simp only [Option.getD_some] at e
          rw [e] at this; simp at this
        · rw [if_neg hij]
          exact hor.resolve_right fun e => hij e.symm
      · rename_i hh
        exact ⟨h1, h2, fun _ h => h, fun j hj hor => hor.elim (fun h => h) fun e => by rw [e]; exact hh⟩
    obtain ⟨k1, k2, k3, k4⟩ := key
    obtain ⟨i1, i2, i3, i4⟩ := ih _ (fun q hq => his q (by simp [hq])) k1 k2
    refine ⟨i1, i2, fun y hy => i3 y (k3 y hy), fun j hj hor => i4 j hj ?_⟩
    rcases hor with hor | hor
    · exact .inl (k4 j hj (.inl hor))
    · rcases List.mem_cons.1 hor with rfl | hor
      · exact .inl (k4 j hj (.inr rfl))
      · exact .inr hor
theorem random_good {s : Int} {K N : Nat} (hN : 1 ≤ N) (hK : 1 ≤ K) : Good (baresGo K N (lacksGo N K (fillGo lotHas K N s).1)) K N := by
  have h0 : Half (fillGo lotHas K N s).1 K := by
    constructor
    · intro r hr
      exact fill_rise lotHas K N s r hr
    · intro r hr
      exact (fillGo_rows lotHas K s N r hr).2
  obtain ⟨a1, a2, a3, a4⟩ := lacks_good hN (List.range K) _ (fun p hp => List.mem_range.1 hp) (fillGo_len lotHas K N s) h0
  obtain ⟨b1, b2, b3, b4⟩ := bares_good hK (List.range N) _ (fun p hp => List.mem_range.1 hp) a1 a2
  refine ⟨b1, b2.rise, b2.inn, fun r hr => ?_, fun p hp => hasS_iff.1 (b3 _ (a4 p (List.mem_range.2 hp)))⟩
  obtain ⟨j, hj⟩ := List.mem_iff_getElem?.1 hr
  have hjl : j < N := by
    have h1 := (List.getElem?_eq_some_iff.1 hj).1
    have h2 : (baresGo K N (lacksGo N K (fillGo lotHas K N s).1)).length = N := b1
    omega
  have h3 := b4 j hjl (.inr (List.mem_range.2 hjl))
  have h4 : ((baresGo K N (lacksGo N K (fillGo lotHas K N s).1))[j]?).getD [] ≠ [] := h3
  rw [hj] at h4; exact h4
end Go.Proofs.Ytncnnbjhginpfaa

namespace Go.Proofs.Ytncnnbjhginpfaa
set_option linter.unusedVariables false
set_option linter.unusedSimpArgs false
set_option linter.unnecessarySimpa false
open Go.Proofs
set_option maxHeartbeats 8000000
set_option cbv.maxSteps 1000000
set_option maxRecDepth 100000
set_option pp.maxSteps 900

/-- The shape of a kind, over k places, n rows. -/
theorem of_good {kind s k n : Int} {K N : Nat} (hk : k = K) (hn : minS k n = N) (h1 : 1 ≤ N) (h2 : N ≤ K) (h3 : K ≤ 48) (hok : okB k n = true) :
    Good (ofS kind s k n) K N ∧ (kind = 1 → burstS (ofS kind s k n) K = N) := by
  have e1 : k.toNat = K := by omega
  have e2 : (minS k n).toNat = N := by omega
  unfold ofS
  split
  · rw [spreadS_eq hok, e1, e2, hn]
    exact ⟨spread_good h1 h2, fun _ => spread_burst h1 h2 h3⟩
  · rename_i hne
    refine ⟨?_, fun h => absurd h hne⟩
    split
    · rw [randomS, if_pos hok, e1, e2]; exact random_good h1 (by omega)
    · rw [runS_eq hok, e1, e2, hk, ← hk, hn, hk]; exact run_good h1 h2 h3

theorem and_bound (x : Int) (m : Nat) (hm : m ≤ 1000) : ∃ z : Nat, bitsV .and .i64 x m = z ∧ z ≤ m := by
  have hz : (BitVec.ofInt 64 x &&& BitVec.ofInt 64 (m : Int)).toNat ≤ m := by
    rw [BitVec.toNat_and, BitVec.ofInt_natCast, BitVec.toNat_ofNat]
    exact Nat.le_trans Nat.and_le_right (Nat.mod_le _ _)
  refine ⟨_, ?_, hz⟩
  show IntKind.i64.wrap _ = _
  exact w64 (by show (-9223372036854775808 : Int) ≤ ((BitVec.ofInt 64 x &&& BitVec.ofInt 64 (m : Int)).toNat : Int); omega) (by show ((BitVec.ofInt 64 x &&& BitVec.ofInt 64 (m : Int)).toNat : Int) ≤ 9223372036854775807; omega)
theorem sizeK (x : Int) : ∃ K : Nat, IntKind.i64.wrap (1 + (bitsV .and .i64 x 31).tmod 24) = K ∧ 1 ≤ K ∧ K ≤ 24 := by
  obtain ⟨z, h1, h2⟩ := and_bound x 31 (by omega)
  refine ⟨1 + z % 24, ?_, by omega, by omega⟩
  rw [show bitsV .and .i64 x 31 = (z : Int) from h1, show ((z : Int).tmod 24) = ((z % 24 : Nat) : Int) from Int.ofNat_tmod z 24, w64 (by omega) (by omega)]
  omega
theorem sizeM (x : Int) : ∃ M : Nat, IntKind.i64.wrap (1 + bitsV .and .i64 x 31) = M ∧ 1 ≤ M ∧ M ≤ 32 := by
  obtain ⟨z, h1, h2⟩ := and_bound x 31 (by omega)
  refine ⟨1 + z, ?_, by omega, by omega⟩
  rw [show bitsV .and .i64 x 31 = (z : Int) from h1, w64 (by omega) (by omega)]
  omega

theorem Good.short {F : List (List Int)} {k N : Nat} (h : Good F k N) : ∀ r ∈ F, r.length ≤ k := fun r hr => by
  have := nodup_le r (upto k) ((h.rise r hr).imp fun h => by omega) fun y hy => mem_upto.2 (h.inn r hr y hy)
  rw [upto_len] at this; exact this
theorem sum_short {F : List (List Int)} {c : Nat} (h : ∀ r ∈ F, r.length ≤ c) : (F.map List.length).sum ≤ F.length * c := by
  induction F with
  | nil => simp
  | cons r F ih =>
    have h1 := ih fun q hq => h q (by simp [hq])
    have h2 := h r (by simp)
    simp only [List.map_cons, List.sum_cons, List.length_cons, Nat.add_mul]; omega
def lastOf (r : List Int) (j : Nat) : Int := match j with | 0 => -1 | j + 1 => (r[j]?).getD (-1)
theorem lastOf_succ {r : List Int} {j : Nat} {p : Int} (h : r[j]? = some p) : lastOf r (j + 1) = p := by simp [lastOf, h]
theorem lastOf_lt {r : List Int} {j : Nat} {p : Int} (h : r[j]? = some p) (hr : r.Pairwise (· < ·)) (hp : 0 ≤ p) : lastOf r j < p := by
  cases j with
  | zero => simp [lastOf]; omega
  | succ j =>
    obtain ⟨hl, hv⟩ := List.getElem?_eq_some_iff.1 h
    have := List.pairwise_iff_getElem.1 hr j (j + 1) (by omega) hl (by omega)
    simp [lastOf, List.getElem?_eq_getElem (show j < r.length by omega)]
    omega
theorem lastOf_end {r : List Int} (hne : r ≠ []) (hin : ∀ y ∈ r, 0 ≤ y) : 0 ≤ lastOf r r.length := by
  have hl : 0 < r.length := List.length_pos_iff.2 hne
  obtain ⟨n, hn⟩ : ∃ n, r.length = n + 1 := ⟨r.length - 1, by omega⟩
  rw [hn]
  simp only [lastOf, List.getElem?_eq_getElem (show n < r.length by omega), Option.getD_some]
  exact hin _ (List.getElem_mem _)
attribute [cbv_opaque] lastOf
@[cbv_eval] theorem lastOf0 (r : List Int) : lastOf r 0 = -1 := rfl

theorem covers_law_ok (kind s k n : Int) : ACalls Try.prog 5 [.int .i64 kind, .int .u64 s, .int .i64 k, .int .i64 n] [] (Ret (.bool true) []) := by
  obtain ⟨K, hK, hK1, hK2⟩ := sizeK k
  obtain ⟨M, hM, hM1, hM2⟩ := sizeM n
  obtain ⟨kd, hkd⟩ : ∃ kd, heldS kind 0 2 = kd := ⟨_, rfl⟩
  have hheld := held_ok kind 0 2
  rw [hkd] at hheld
  obtain ⟨N, hN, hN1, hN2, hN3⟩ : ∃ N : Nat, minS K M = N ∧ 1 ≤ N ∧ N ≤ K ∧ (if (M : Int) < K then (M : Int) else K) = N := by
    unfold minS
    rcases Nat.lt_or_ge K M with h | h
    · exact ⟨K, by rw [if_pos (by omega)], hK1, Nat.le_refl _, by rw [if_neg (by omega)]⟩
    · rcases Nat.eq_or_lt_of_le h with rfl | h
      · exact ⟨M, by rw [if_neg (by omega)], hM1, Nat.le_refl _, by rw [if_neg (by omega)]⟩
      · exact ⟨M, by rw [if_neg (by omega)], hM1, by omega, by rw [if_pos (by omega)]⟩
  have hokB : okB K M = true := by simp [okB]; omega
  obtain ⟨hg, hb⟩ := of_good (kind := kd) (s := s) (k := K) (n := M) rfl hN hN1 hN2 (by omega) hokB
  have c1 := of_ok kd s K M
  generalize ofS kd s K M = F at c1 hg hb
  have hcov := hg.covers (by omega)
  have hsh := hg.short
  have hsum : (F.map List.length).sum ≤ 1000 := by
    have h1 := sum_short hsh
    have h2 : F.length * K ≤ 24 * 24 := Nat.mul_le_mul (by rw [hg.len]; omega) hK2
    omega
  have hm : ∀ eq ∈ F, eq.length ≤ 1000 := fun r hr => Nat.le_trans (hsh r hr) (by omega)
  have c2 := covers_ok F K (by omega)
  rw [hcov] at c2
  have c3 := burst_ok F K (by rw [hg.len]; omega) hsum hm
  have hbb := hg.burst hN1 hN2 (by omega)
  generalize burstS F K = B at c3 hb hbb
  refine ACalls.of_vc (fn := Try.f5) rfl rfl mixed ?_
  cbv
  refine callVC.pure alive_ok rfl rfl ?_
  cbv
  rw [hK, hM]
  refine callVC.pure hheld rfl rfl ?_
  cbv
  refine callVC.pure c1 rfl rfl ?_
  have hN4 : (if (NatCast.natCast K : Int) < NatCast.natCast M then (NatCast.natCast K : Int) else NatCast.natCast M) = NatCast.natCast N := hN
  have hFl := hg.len
  cbv
  rw [hN4]
  refine pcase.mk (fun h1 => ?_) (fun h1 => (h1 (by rw [hFl])).elim)
  cbv
  refine callVC.pure c2 rfl rfl ?_
  cbv
  refine ⟨fun z st => ∃ i : Nat, i ≤ F.length ∧ z = F.length - i ∧ st = ⟨mk 89 [(0, .int .i64 kd), (2, .int .i64 K), (3, .int .i64 N), (8, .bool false), (9, lists F), (45, lists F), (46, .int .i64 F.length), (47, .int .i64 i)], []⟩, GS.keep [0,2,3,8,9,45,46,47] [] rfl (GS.done ⟨_, 0, by omega, rfl, ?_⟩), ?_⟩
  · cbv
  rintro z st ⟨i, h5, rfl, rfl⟩
  cbv
  refine pcase.mk (fun h6 => ?_) (fun h6 => ?_)
  · have hi := nlt h6
    obtain ⟨r, hr⟩ := get_some hi
    have hrm := List.mem_of_getElem? hr
    have r1 := hg.rise r hrm
    have r2 := hg.inn r hrm
    have hrl := hsh r hrm
    have r3 := lastOf_end (hg.full r hrm) fun y hy => (r2 y hy).1
    cbv
    refine ⟨h6, atK.mk (ints r) (map_get hr) ?_⟩
    cbv
    refine ⟨fun z st => ∃ j : Nat, j ≤ r.length ∧ z = r.length - j ∧ st = ⟨mk 89 [(0, .int .i64 kd), (2, .int .i64 K), (3, .int .i64 N), (8, .bool false), (9, lists F), (12, .int .i64 (lastOf r j)), (45, lists F), (46, .int .i64 F.length), (47, .int .i64 i), (51, ints r), (52, .int .i64 r.length), (53, .int .i64 j)], []⟩, GS.keep [0,2,3,8,9,12,45,46,47,51,52,53] [] rfl (GS.done ⟨_, 0, by omega, rfl, ?_⟩), ?_⟩
    · cbv
    rintro z st ⟨j, h7, rfl, rfl⟩
    cbv
    refine pcase.mk (fun h8 => ?_) (fun h8 => ?_)
    · have hj := nlt h8
      obtain ⟨p, hp⟩ := get_some hj
      have p1 := r2 p (List.mem_of_getElem? hp)
      have p2 := lastOf_lt hp r1 p1.1
      have p3 := lastOf_succ hp
      cbv
      refine ⟨h8, atK.mk (.int .i64 p) (map_int_get hp) ?_⟩
      cbv
      refine pcase.mk (fun h9 => (by omega : False).elim) (fun h9 => ?_)
      cbv
      refine pcase.mk (fun h10 => (by have : (K : Int) ≤ p := h10; omega : False).elim) (fun h10 => ?_)
      cbv
      refine GS.keep [0,2,3,8,9,12,45,46,47,51,52,53] [] rfl (GS.done ⟨r.length - (j + 1), by omega, j + 1, by omega, rfl, ?_⟩)
      rw [w64n (by omega), p3]
      cbv
    · have hj : j = r.length := by have := nge h8; omega
      subst hj
      cbv
      refine pcase.mk (fun h9 => (by omega : False).elim) (fun h9 => ?_)
      cbv
      refine GS.keep [0,2,3,8,9,45,46,47] [] rfl (GS.done ⟨F.length - (i + 1), by omega, i + 1, by omega, rfl, ?_⟩)
      rw [w64n (by omega)]
      cbv
  · have hB1 : B ≤ NatCast.natCast N := hbb.2
    have hB2 : kd = 1 → B = NatCast.natCast N := hb
    cbv
    refine callVC.pure c3 rfl rfl ?_
    cbv
    refine pcase.mk (fun _ => ?_) (fun h => absurd hbb.1 h)
    cbv
    refine pcase.mk (fun _ => ?_) (fun h => absurd hB1 h)
    cbv
    by_cases h1 : kd = 1
    · subst h1
      rw [hB2 rfl]
      cbv
      refine pcase.mk (fun _ => ?_) (fun h => (h trivial).elim)
      cbv
      rw [beq_self_eq_true]
      exact GS.keep [0] [] rfl (GS.done ⟨rfl, rfl⟩)
    · refine pcase.mk (fun h => absurd h h1) (fun _ => ?_)
      cbv
      exact GS.keep [0] [] rfl (GS.done ⟨rfl, rfl⟩)
end Go.Proofs.Ytncnnbjhginpfaa

namespace Go.Proofs.Ytncnnbjhginpfaa.shapeCovers
set_option linter.unusedVariables false
set_option linter.unusedSimpArgs false
set_option linter.unnecessarySimpa false
open Go.ChangeShapes Go.WideShapes Go.ChangeAt Go.RowKit

theorem own : ownKnob Try.prog.godebug = none := by kernel_rfl

set_option maxRecDepth 100000 in
theorem lifted (os : Os) (started : os.Started) (H : Type) (enc : TypeId × Value → H) :
    ReturnsInHanded {} Try.checked os 5 .any (Rows.shapeCoversSpec.pre6 enc Try.prog Try.f5 Rows.shapeCoversRow.domain false) (Rows.shapeCoversSpec.post enc Try.prog Try.f5 false true false false) := by
  refine returnsInHanded_of_change (C := Try.checked) own started (by kernel_rfl) Try.func5
    (ChangeSpec.witness6 (enc := enc) (C := Try.checked) false ⟨#[], #[.int .i64 0, .int .u64 0, .int .i64 0, .int .i64 0], []⟩ 8 (by kernel_rfl) (by kernel_rfl) (by kernel_rfl) (by kernel_rfl)) ?_
  intro W base args ds gs before hval0 hW hcnd _
  have hval : ∀ (j : Nat) t v, Try.f5.params[j]? = some t → args[j]? = some v → Value.okWide Try.prog W .any base t v := hval0
  have hW' := hW
  obtain ⟨p, q, hA0, hV, rfl, hfz, hnd⟩ := hW
  have hA : DataW.TrodAll enc Try.prog W 0 (fun _ => true) true Try.f5.params.toList args.toList ds p := hA0
  rw [Try.params5] at hA hval
  obtain ⟨v0, vs0, d0, ds0, p0, q0, hargs, rfl, rfl, h0, r0⟩ := trodAll_cons hA
  obtain ⟨v1, vs1, d1, ds1, p1, q1, rfl, rfl, rfl, h1, r1⟩ := trodAll_cons r0
  obtain ⟨v2, vs2, d2, ds2, p2, q2, rfl, rfl, rfl, h2, r2⟩ := trodAll_cons r1
  obtain ⟨v3, vs3, d3, ds3, p3, q3, rfl, rfl, rfl, h3, r3⟩ := trodAll_cons r2
  obtain ⟨rfl, rfl, rfl⟩ := trodAll_nil r3
  obtain rfl : args = #[v0, v1, v2, v3] := by cases args; simp_all
  obtain ⟨rfl, rfl⟩ := trodVars_none hV
  obtain ⟨a0, rfl, rfl, rfl, w0⟩ := open_int Try.underlying3 (hval 0 3 v0 rfl rfl) h0
  obtain ⟨a1, rfl, rfl, rfl, w1⟩ := open_int Try.underlying22 (hval 1 22 v1 rfl rfl) h1
  obtain ⟨a2, rfl, rfl, rfl, w2⟩ := open_int Try.underlying3 (hval 2 3 v2 rfl rfl) h2
  obtain ⟨a3, rfl, rfl, rfl, w3⟩ := open_int Try.underlying3 (hval 3 3 v3 rfl rfl) h3
  clear hA0 hval0
  simp only [List.append_nil] at hW'
  refine (ACalls.law (covers_law_ok a0 a1 a2 a3) W [.int .i64 a0, .int .u64 a1, .int .i64 a2, .int .i64 a3] (by simp [RVs, RV])).mono fun e W' ⟨he, hg⟩ => ?_
  subst he
  exact ⟨_, rfl, post_same0 (pa := []) (pv := []) hW' (fun _ _ _ => (trodAll_cons_mk (shut_bool Try.underlying4 _) trodAll_mk0)) (fun sp _ => (trodAll_cons_mk (shut_int Try.underlying3 w0) (trodAll_cons_mk (shut_int Try.underlying22 w1) (trodAll_cons_mk (shut_int Try.underlying3 w2) (trodAll_cons_mk (shut_int Try.underlying3 w3) trodAll_mk0))))) (fun _ _ => rfl) hg⟩

theorem over : Rows.shapeCoversRow.holds Try.pinned (OpenSpec.ofChange Rows.shapeCoversSpec) :=
  OpenClaim.holds_of_wide 5 Try.f5 rfl rfl rfl rfl rfl rfl rfl ⟨rfl, rfl, rfl, rfl, rfl⟩ rfl rfl rfl rfl rfl (by kernel_rfl) Try.func5 (by kernel_rfl)
    (of_decide_eq_true (by kernel_rfl)) (by unfold Func.isWrapper; first | (rw [if_pos (by decide +kernel)]; kernel_rfl) | (rw [if_neg (by decide +kernel)]; exact ⟨rfl, rfl⟩))
    (fun os started H enc _ => lifted os started H enc)

theorem proved : Rows.ShapeCoversSaid :=
  over
end Go.Proofs.Ytncnnbjhginpfaa.shapeCovers
