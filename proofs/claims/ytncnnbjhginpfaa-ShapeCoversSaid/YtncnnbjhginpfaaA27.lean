/- Plain laws: the two ways to say a shape are one. Conditions: none; plain lemmas. -/
import Derived.Test.YtncnnbjhginpfaaA13
namespace Go.Proofs.Ytncnnbjhginpfaa
set_option linter.unusedVariables false
set_option linter.unusedSimpArgs false
set_option linter.unnecessarySimpa false
open Go.Proofs
set_option maxRecDepth 100000

abbrev Srt (l : List Int) : Prop := l.Pairwise (· ≤ ·)
def insR (x : Int) : List Int → List Int | [] => [x] | y :: ys => if y > x then x :: y :: ys else y :: insR x ys
theorem insStep_true (x : Int) : ∀ (ys acc : List Int), ys.foldl (insStep x) (acc, true) = (acc ++ ys, true) := by
  intro ys
  induction ys with
  | nil => intro acc; simp
  | cons y ys ih => intro acc; rw [List.foldl_cons, insStep, if_neg (by simp), ih]; simp
def outI (x : Int) : List Int × Bool → List Int | (l, true) => l | (l, false) => l ++ [x]
theorem insStep_all (x : Int) : ∀ (ys acc : List Int), outI x (ys.foldl (insStep x) (acc, false)) = acc ++ insR x ys := by
  intro ys
  induction ys with
  | nil => intro acc; simp [insR, outI]
  | cons y ys ih =>
    intro acc
    rw [List.foldl_cons]
    by_cases h : y > x
    · have e : insStep x (acc, false) y = (acc ++ [x, y], true) := if_pos (And.intro rfl h)
      rw [e, insStep_true, insR, if_pos h]; simp [outI]
    · have e : insStep x (acc, false) y = (acc ++ [y], false) := if_neg (fun hh => h hh.2)
      rw [e, ih, insR, if_neg h]; simp
theorem insertS_eq (xs : List Int) (x : Int) : insertS xs x = insR x xs := by
  have := insStep_all x xs []
  rw [List.nil_append] at this
  rw [← this, insertS, insGo]
  cases h : xs.foldl (insStep x) ([], false) with
  | mk l b => cases b <;> simp [outI]
theorem insR_perm (x : Int) : ∀ ys : List Int, (insR x ys).Perm (x :: ys) := by
  intro ys
  induction ys with
  | nil => exact .refl _
  | cons y ys ih =>
    unfold insR
    split
    · exact .refl _
    · exact (ih.cons y).trans (.swap x y ys)
theorem insR_sorted (x : Int) : ∀ {ys : List Int}, Srt ys → Srt (insR x ys) := by
  intro ys
  induction ys with
  | nil => intro _; simp [insR, Srt]
  | cons y ys ih =>
    intro h
    obtain ⟨h1, h2⟩ := List.pairwise_cons.1 h
    unfold insR
    split
    · rename_i hx
      refine List.pairwise_cons.2 ⟨fun z hz => ?_, h⟩
      rcases List.mem_cons.1 hz with rfl | hz
      · omega
      · have := h1 z hz; omega
    · rename_i hx
      refine List.pairwise_cons.2 ⟨fun z hz => ?_, ih h2⟩
      rcases List.mem_cons.1 ((insR_perm x ys).subset hz) with rfl | hz
      · omega
      · exact h1 z hz
theorem sortS_perm (xs : List Int) : (sortS xs).Perm xs := List.mergeSort_perm _ _
theorem sortS_sorted (xs : List Int) : Srt (sortS xs) := by
  have := List.pairwise_mergeSort (le := fun (x y : Int) => decide (x ≤ y)) (fun a b c h1 h2 => by simp at *; omega) (fun a b => by simp; omega) xs
  exact this.imp fun h => by simpa using h
theorem sort_insert {xs : List Int} (h : Srt xs) (x : Int) : sortS (xs ++ [x]) = insertS xs x := by
  rw [insertS_eq]
  refine List.Perm.eq_of_pairwise (le := fun (x y : Int) => x ≤ y) (fun a b _ _ h1 h2 => by omega) (sortS_sorted _) (insR_sorted x h) ?_
  exact ((sortS_perm _).trans (List.perm_append_comm)).trans (insR_perm x xs).symm

def AllS (F : List (List Int)) : Prop := ∀ r ∈ F, Srt r
theorem AllS.get {F : List (List Int)} (h : AllS F) (i : Nat) : Srt ((F[i]?).getD []) := by
  cases hi : F[i]? with
  | none => simp [Srt]
  | some r => exact h r (List.mem_of_getElem? hi)
theorem AllS.set {F : List (List Int)} (h : AllS F) (i : Nat) {r : List Int} (hr : Srt r) : AllS (F.set i r) := by
  intro q hq
  rcases List.mem_or_eq_of_mem_set hq with hq | rfl
  · exact h q hq
  · exact hr
theorem giveS_sorted {F : List (List Int)} (h : AllS F) (i : Nat) (p : Int) : AllS (giveS F i p) := h.set i (sortS_sorted _)
theorem give_ins {F : List (List Int)} (h : AllS F) (i : Nat) (p : Int) : giveS F i p = F.set i (insertS ((F[i]?).getD []) p) := by
  rw [giveS, sort_insert (h.get i)]
theorem lacks_eq (n : Nat) : ∀ (ps : List Nat) (F : List (List Int)), AllS F → AllS (ps.foldl (lackS n) F) ∧ ps.foldl (lackS n) F = ps.foldl (rlackS n) F := by
  intro ps
  induction ps with
  | nil => intro F h; exact ⟨h, rfl⟩
  | cons p ps ih =>
    intro F h
    rw [List.foldl_cons, List.foldl_cons]
    have e : lackS n F p = rlackS n F p := by unfold lackS rlackS; split; rfl; exact give_ins h _ _
    have h2 : AllS (lackS n F p) := by unfold lackS; split; exact h; exact giveS_sorted h _ _
    rw [← e]; exact ih _ h2
theorem bares_eq (k : Nat) : ∀ (ps : List Nat) (F : List (List Int)), AllS F → AllS (ps.foldl (bareS k) F) ∧ ps.foldl (bareS k) F = ps.foldl (rbareS k) F := by
  intro ps
  induction ps with
  | nil => intro F h; exact ⟨h, rfl⟩
  | cons p ps ih =>
    intro F h
    rw [List.foldl_cons, List.foldl_cons]
    have e : bareS k F p = rbareS k F p := by unfold bareS rbareS; split; exact give_ins h _ _; rfl
    have h2 : AllS (bareS k F p) := by unfold bareS; split; exact giveS_sorted h _ _; exact h
    rw [← e]; exact ih _ h2

theorem rowGo_row (has : Has) (i : Int) (s : Int) : ∀ m : Nat, Srt (rowGo has i m s).1 ∧ (∀ y ∈ (rowGo has i m s).1, 0 ≤ y ∧ y < m) := by
  intro m
  induction m with
  | zero => simp [rowGo, upto, Srt]
  | succ m ih =>
    rw [rowGo_succ, rowStep]
    obtain ⟨h1, h2⟩ := ih
    simp only
    split
    · refine ⟨List.pairwise_append.2 ⟨h1, by simp, fun a ha b hb => ?_⟩, fun y hy => ?_⟩
      · simp at hb; subst hb; have := h2 a ha; omega
      · rcases List.mem_append.1 hy with hy | hy
        · have := h2 y hy; omega
        · simp at hy; subst hy; omega
    · exact ⟨h1, fun y hy => by have := h2 y hy; omega⟩
theorem fillGo_rows (has : Has) (k : Nat) (s : Int) : ∀ n : Nat, ∀ r ∈ (fillGo has k n s).1, Srt r ∧ ∀ y ∈ r, 0 ≤ y ∧ y < k := by
  intro n
  induction n with
  | zero => simp [fillGo, upto]
  | succ n ih =>
    rw [fillGo_succ, fillStep]
    intro r hr
    simp only [List.mem_append, List.mem_singleton] at hr
    rcases hr with hr | rfl
    · exact ih r hr
    · exact rowGo_row has n _ k
theorem row_pure (f : Int → Int → Bool) (has : Has) (hh : ∀ s i p, has s i p = (f i p, s)) (i s t : Int) (m : Nat) : (rowGo has i m s).1 = (rowGo has i m t).1 ∧ (rowGo has i m s).2 = s := by
  induction m with
  | zero => simp [rowGo, upto]
  | succ m ih =>
    rw [rowGo_succ, rowGo_succ, rowStep, rowStep]
    simp only [hh]
    exact ⟨by rw [ih.1], ih.2⟩
theorem fill_pure (f : Int → Int → Bool) (has : Has) (hh : ∀ s i p, has s i p = (f i p, s)) (k : Nat) (s t : Int) (n : Nat) : (fillGo has k n s).1 = (fillGo has k n t).1 := by
  induction n with
  | zero => rfl
  | succ n ih =>
    rw [fillGo_succ, fillGo_succ, fillStep, fillStep]
    simp only
    rw [ih, (row_pure f has hh n _ ((fillGo has k n t).2) k).1]
theorem lot_high : lotHas = highHas := by
  funext s i p
  have h : 0 ≤ nextS s ∧ nextS s < 18446744073709551616 := by
    unfold nextS
    generalize IntKind.u64.wrap (s * 6364136223846793005) + 1442695040888963407 = z
    rw [IntKind.wrap_u64]
    omega
  unfold lotHas highHas lotB
  congr 1
  rw [Bool.eq_iff_iff]
  simp only [beq_iff_eq, decide_eq_true_eq]
  rw [Int.fdiv_eq_ediv_of_nonneg _ (by decide)]
  omega
theorem of_eq (kind s k n : Int) : ofS kind s k n = rofS kind s k n := by
  cases hb : okB k n with
  | false => simp [ofS, rofS, runS, spreadS, randomS, hb]
  | true =>
    unfold ofS rofS runS spreadS randomS
    simp only [hb, if_true]
    split
    · exact fill_pure _ _ (fun _ _ _ => rfl) _ _ _ _
    · split
      · rw [lot_high]
        have h0 : AllS (fillGo highHas k.toNat (minS k n).toNat s).1 := fun r hr => (fillGo_rows highHas _ _ _ r hr).1
        obtain ⟨h1, e1⟩ := lacks_eq (minS k n).toNat (List.range k.toNat) _ h0
        obtain ⟨h2, e2⟩ := bares_eq k.toNat (List.range (minS k n).toNat) _ h1
        unfold lacksGo rlacksGo baresGo rbaresGo
        rw [← e1, ← e2]
      · exact fill_pure _ _ (fun _ _ _ => rfl) _ _ _ _
end Go.Proofs.Ytncnnbjhginpfaa
