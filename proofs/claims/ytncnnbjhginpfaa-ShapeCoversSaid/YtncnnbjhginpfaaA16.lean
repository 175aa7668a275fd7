/- What a round of telling tells; what is told at last: plain lists. Conditions: none; plain lemmas. -/
import Derived.Test.YtncnnbjhginpfaaA15
namespace Go.Proofs.Ytncnnbjhginpfaa
set_option linter.unusedVariables false
set_option linter.unusedSimpArgs false
set_option linter.unnecessarySimpa false
open Go.Proofs

theorem inS_iff {xs : List Int} {x : Int} : inS xs x = true ↔ x ∈ xs := by simp [inS]
theorem inS_append (a b : List Int) (x : Int) : inS (a ++ b) x = (inS a x || inS b x) := by
  rw [Bool.eq_iff_iff]; simp [inS_iff]
theorem openStep_cong {ys ys' : List Int} (h : ∀ x, inS ys x = inS ys' x) (out : List Int) (x : Int) : openStep ys out x = openStep ys' out x := by unfold openStep; rw [h]
theorem openS_cong {ys ys' : List Int} (h : ∀ x, inS ys x = inS ys' x) (eq : List Int) : openS ys eq = openS ys' eq := by
  unfold openS
  congr 1
  funext out x
  exact openStep_cong h out x
theorem openS_mem {ys eq : List Int} {x : Int} (h : x ∈ openS ys eq) : x ∈ eq ∧ inS ys x = false := by
  have key : ∀ (eq' : List Int), (∀ y ∈ eq', y ∈ eq) → ∀ (out : List Int), (∀ y ∈ out, y ∈ eq ∧ inS ys y = false) → ∀ y ∈ eq'.foldl (openStep ys) out, y ∈ eq ∧ inS ys y = false := by
    intro eq'
    induction eq' with
    | nil => intro _ out ho; exact ho
    | cons z eq' ih =>
      intro hs out ho
      rw [List.foldl_cons]
      refine ih (fun y hy => hs y (by simp [hy])) _ ?_
      intro y hy
      unfold openStep at hy
      split at hy
      · rename_i hc
        simp at hy
        rcases hy with hy | rfl
        · exact ho y hy
        · exact ⟨hs _ (by simp), hc.1⟩
      · exact ho y hy
  exact key eq (fun _ h => h) [] (by simp) x h

def passStep (all ts eq : List Int) : List Int := match openS (all ++ ts) eq with | [x] => ts ++ [x] | _ => ts
def passTo (all : List Int) (eqs : List (List Int)) (k : Nat) : List Int := (eqs.take k).foldl (passStep all) []
def passS (all : List Int) (eqs : List (List Int)) : List Int := eqs.foldl (passStep all) []
def remS (eqs : List (List Int)) (all : List Int) : Nat := (eqs.flatten.filter fun x => !inS all x).length
def peelGo (eqs : List (List Int)) : Nat → List Int → List Int
  | 0, all => all
  | f + 1, all => if passS all eqs = [] then all else peelGo eqs f (all ++ passS all eqs)
def peelS (eqs : List (List Int)) (all : List Int) : List Int := peelGo eqs (remS eqs all + 1) all

theorem passTo_succ {all : List Int} {eqs : List (List Int)} {k : Nat} {eq : List Int} (h : eqs[k]? = some eq) : passTo all eqs (k + 1) = passStep all (passTo all eqs k) eq := by simp [passTo, List.take_add_one, h]
theorem passTo_all (all : List Int) (eqs : List (List Int)) : passTo all eqs eqs.length = passS all eqs := by simp [passTo, passS]
theorem passStep_one {all ts eq : List Int} {x : Int} (h : openS (all ++ ts) eq = [x]) : passStep all ts eq = ts ++ [x] := by unfold passStep; rw [h]
theorem passStep_no {all ts eq : List Int} (h : (openS (all ++ ts) eq).length ≠ 1) : passStep all ts eq = ts := by
  unfold passStep
  split
  · rename_i x hx; rw [hx] at h; exact absurd rfl h
  · rfl
theorem passTo_len (all : List Int) (eqs : List (List Int)) (k : Nat) : (passTo all eqs k).length ≤ k := by
  induction k with
  | zero => simp [passTo]
  | succ k ih =>
    cases h : eqs[k]? with
    | none =>
      have : passTo all eqs (k + 1) = passTo all eqs k := by simp [passTo, List.take_add_one, h]
      rw [this]; omega
    | some eq =>
      rw [passTo_succ h, passStep]
      split
      · simp; omega
      · omega

theorem rem_snoc {eqs : List (List Int)} {all : List Int} {x : Int} (hx : x ∈ eqs.flatten) (hn : inS all x = false) : remS eqs (all ++ [x]) + 1 ≤ remS eqs all := by
  have e : (eqs.flatten.filter fun y => !inS (all ++ [x]) y) = (eqs.flatten.filter fun y => !inS all y).filter fun y => y != x := by
    rw [List.filter_filter]
    congr 1
    funext y
    rw [inS_append, Bool.eq_iff_iff]
    simp [inS_iff, inS]
    constructor <;> rintro ⟨h1, h2⟩ <;> exact ⟨h2, h1⟩
  unfold remS
  rw [e]
  have : ((eqs.flatten.filter fun y => !inS all y).filter fun y => y != x).length < (eqs.flatten.filter fun y => !inS all y).length := by
    rw [List.length_filter_lt_length_iff_exists]
    exact ⟨x, by rw [List.mem_filter]; exact ⟨hx, by simp [hn]⟩, by simp⟩
  omega

theorem rem_passTo (all : List Int) (eqs : List (List Int)) (k : Nat) : remS eqs (all ++ passTo all eqs k) + (passTo all eqs k).length ≤ remS eqs all := by
  induction k with
  | zero => simp [passTo]
  | succ k ih =>
    cases h : eqs[k]? with
    | none =>
      have : passTo all eqs (k + 1) = passTo all eqs k := by simp [passTo, List.take_add_one, h]
      rw [this]; exact ih
    | some eq =>
      rw [passTo_succ h]
      by_cases hx : ∃ x, openS (all ++ passTo all eqs k) eq = [x]
      · obtain ⟨x, hx⟩ := hx
        rw [passStep_one hx]
        have hm := openS_mem (x := x) (by rw [hx]; simp)
        have := rem_snoc (eqs := eqs) (all := all ++ passTo all eqs k) (x := x) (List.mem_flatten.2 ⟨eq, List.mem_of_getElem? h, hm.1⟩) hm.2
        rw [← List.append_assoc]
        simp only [List.length_append, List.length_singleton]
        omega
      · have : passStep all (passTo all eqs k) eq = passTo all eqs k := by
          unfold passStep
          split
          · rename_i x hx'; exact absurd ⟨x, hx'⟩ hx
          · rfl
        rw [this]; exact ih

theorem rem_pass (all : List Int) (eqs : List (List Int)) : remS eqs (all ++ passS all eqs) + (passS all eqs).length ≤ remS eqs all := by
  rw [← passTo_all]; exact rem_passTo all eqs _

theorem peelGo_fuel (eqs : List (List Int)) : ∀ (f g : Nat) (all : List Int), remS eqs all < f → remS eqs all < g → peelGo eqs f all = peelGo eqs g all := by
  intro f
  induction f with
  | zero => intro g all h; omega
  | succ f ih =>
    intro g all h1 h2
    cases g with
    | zero => omega
    | succ g =>
      simp only [peelGo]
      split
      · rfl
      · rename_i hne
        have hr := rem_pass all eqs
        have hl : 0 < (passS all eqs).length := List.length_pos_iff.2 hne
        exact ih g _ (by omega) (by omega)

theorem peelS_stop {eqs : List (List Int)} {all : List Int} (h : passS all eqs = []) : peelS eqs all = all := by
  unfold peelS; rw [peelGo, if_pos h]
theorem peelS_go {eqs : List (List Int)} {all : List Int} (h : passS all eqs ≠ []) : peelS eqs all = peelS eqs (all ++ passS all eqs) := by
  have hr := rem_pass all eqs
  have hl : 0 < (passS all eqs).length := List.length_pos_iff.2 h
  unfold peelS
  conv => lhs; rw [peelGo, if_neg h]
  exact peelGo_fuel _ _ _ _ (by omega) (by omega)
theorem rem_le (eqs : List (List Int)) (all : List Int) : remS eqs all ≤ (eqs.map List.length).sum := by
  unfold remS
  refine Nat.le_trans (List.length_filter_le _ _) ?_
  rw [List.length_flatten]; exact Nat.le_refl _
theorem passS_cong {all all' : List Int} (h : ∀ x, inS all x = inS all' x) (eqs : List (List Int)) : passS all eqs = passS all' eqs := by
  unfold passS
  congr 1
  funext ts eq
  unfold passStep
  rw [openS_cong (ys := all ++ ts) (ys' := all' ++ ts) fun x => by rw [inS_append, inS_append, h]]

end Go.Proofs.Ytncnnbjhginpfaa
