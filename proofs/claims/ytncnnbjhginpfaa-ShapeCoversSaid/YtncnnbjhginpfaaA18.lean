/- Sets of numbers as maps; contracts: set, open. Conditions: few numbers. -/
import Derived.Test.YtncnnbjhginpfaaA17
namespace Go.Proofs.Ytncnnbjhginpfaa
set_option linter.unusedVariables false
set_option linter.unusedSimpArgs false
set_option linter.unnecessarySimpa false
open Go.Proofs
set_option maxHeartbeats 8000000
set_option cbv.maxSteps 1000000
set_option maxRecDepth 100000
set_option pp.maxSteps 900

def mpG (ys : List Int) (n : Nat) : MapL := (ys.zipIdx n).map fun p => (.int .i64 p.1, .bool true, p.2)
def mpL (ys : List Int) : MapL := mpG ys 0
def mpO (ys : List Int) : Ob := .map (mpL ys) ys.length
theorem mpL_snoc (ys : List Int) (x : Int) : mpL (ys ++ [x]) = mpL ys ++ [(.int .i64 x, .bool true, ys.length)] := by simp [mpL, mpG, List.zipIdx_append]
theorem mpL_len (ys : List Int) : (mpL ys).length = ys.length := by simp [mpL, mpG]
theorem mfind_mpG (x : Int) : ∀ (ys : List Int) (n i : Nat), mfind (.int .i64 x) (mpG ys n) i = some (if inS ys x then some (i + ys.idxOf x, .bool true) else none) := by
  intro ys
  induction ys with
  | nil => intro n i; simp [mpG, mfind, inS]
  | cons y ys ih =>
    intro n i
    have := ih (n + 1) (i + 1)
    simp only [mpG, List.zipIdx_cons, List.map_cons, mfind, keq, if_true] at this ⊢
    by_cases h : x = y
    · subst h; simp [inS]
    · rw [show (x == y) = false by simpa using h]
      simp only
      rw [this]
      have e1 : inS (y :: ys) x = inS ys x := by simp [inS, h]
      have e2 : (y :: ys).idxOf x = ys.idxOf x + 1 := by rw [List.idxOf_cons]; simp [show (y == x) = false by simpa using fun e => h e.symm]
      rw [e1, e2]
      split <;> simp; omega
def mpR (b : Bool) (i : Nat) : Option (Option (Nat × V)) := match b with | true => some (some (i, .bool true)) | false => some none
@[cbv_eval] theorem mfind_mp (x : Int) (ys : List Int) : mfind (.int .i64 x) (mpL ys) 0 = mpR (inS ys x) (ys.idxOf x) := by
  rw [mpL, mfind_mpG, Nat.zero_add]; cases inS ys x <;> rfl
theorem mpL_set {ys : List Int} {x : Int} (h : inS ys x = true) : (mpL ys).set (ys.idxOf x) (.int .i64 x, .bool true, (((mpL ys)[ys.idxOf x]?).map (fun e => e.2.2)).getD 0) = mpL ys := by
  have hi : ys.idxOf x < ys.length := List.idxOf_lt_length_of_mem (inS_iff.1 h)
  have hg : (mpL ys)[ys.idxOf x]? = some (.int .i64 x, .bool true, ys.idxOf x) := by
    simp [mpL, mpG, hi]
  rw [hg]
  simp only [Option.map_some, Option.getD_some]
  apply List.ext_getElem?
  intro j
  rw [List.getElem?_set]
  split
  · rename_i e; rw [← e, hg]; simp [mpL_len, hi]
  · rfl
theorem mpL_set' (ys : List Int) (x : Int) : (mpL ys).set (ys.idxOf x) (.int .i64 x, .bool true, (((mpL ys)[ys.idxOf x]?).map (fun e => e.2.2)).getD 0) = mpL ys := by
  cases h : inS ys x with
  | true => exact mpL_set h
  | false =>
    have : ¬ x ∈ ys := by intro hm; rw [inS_iff.2 hm] at h; cases h
    rw [List.set_eq_of_length_le]
    rw [mpL_len]; exact Nat.le_of_not_lt fun hl => this (List.idxOf_lt_length_iff.1 hl)
@[cbv_eval] theorem mset_old (ys : List Int) (x : Int) (c : Nat) (v : V) : mset (mpL ys) c (some (ys.idxOf x, v)) (.int .i64 x) (.bool true) = (mpL ys, c) := by
  show ((mpL ys).set _ _, c) = _
  rw [mpL_set']
def mpP (ys : List Int) (c : Nat) (x : Int) : MapL := mpL ys ++ [(.int .i64 x, .bool true, c)]
@[cbv_eval] theorem mset_new (ys : List Int) (x : Int) (c : Nat) : mset (mpL ys) c none (.int .i64 x) (.bool true) = (mpP ys c x, c + 1) := rfl
@[cbv_eval] theorem mpL_snoc' (ys : List Int) (x : Int) : mpL (ys ++ [x]) = mpP ys ys.length x := by rw [mpL_snoc, mpP]
@[cbv_eval] theorem len_snoc (ys : List Int) (x : Int) : (ys ++ [x]).length = ys.length + 1 := by simp
attribute [cbv_opaque] mpL mpP zeroV List.idxOf mset
@[cbv_eval] theorem zv4 : zeroV Try.prog 4 = some (.bool false) := by kernel_rfl

def addS (ys : List Int) (x : Int) : List Int := if inS ys x then ys else ys ++ [x]
def ddS (xs : List Int) : List Int := xs.foldl addS []
def ddTo (xs : List Int) (k : Nat) : List Int := ddS (xs.take k)
theorem ddTo_succ {xs : List Int} {k : Nat} {x : Int} (h : xs[k]? = some x) : ddTo xs (k + 1) = addS (ddTo xs k) x := by simp [ddTo, ddS, List.take_add_one, h]
theorem inS_add (ys : List Int) (x y : Int) : inS (addS ys x) y = (inS ys y || y == x) := by
  unfold addS
  split
  · rename_i h
    rw [Bool.eq_iff_iff]; simp [inS_iff] at h ⊢
    rintro rfl; exact h
  · rw [inS_append]; congr 1; rw [Bool.eq_iff_iff]; simp [inS]
theorem inS_dd (xs : List Int) (y : Int) : inS (ddS xs) y = inS xs y := by
  have key : ∀ (xs acc : List Int), inS (xs.foldl addS acc) y = (inS acc y || inS xs y) := by
    intro xs
    induction xs with
    | nil => intro acc; simp [inS]
    | cons x xs ih => intro acc; rw [List.foldl_cons, ih, inS_add]; rw [Bool.or_assoc]; congr 1
  simpa [ddS, inS] using key xs []
theorem dd_len (xs : List Int) : (ddS xs).length ≤ xs.length := by
  have key : ∀ (xs acc : List Int), (xs.foldl addS acc).length ≤ acc.length + xs.length := by
    intro xs
    induction xs with
    | nil => intro acc; simp
    | cons x xs ih =>
      intro acc; rw [List.foldl_cons]
      have := ih (addS acc x)
      have h2 : (addS acc x).length ≤ acc.length + 1 := by unfold addS; split <;> simp
      simp; omega
  simpa [ddS] using key xs []
theorem ddTo_len (xs : List Int) (k : Nat) : (ddTo xs k).length ≤ k := by have := dd_len (xs.take k); simp at this; simp only [ddTo]; omega
theorem openS_mem_iff {ys eq : List Int} {x : Int} : inS (openS ys eq) x = (inS eq x && !inS ys x) := by
  have key : ∀ (eq out : List Int), inS (eq.foldl (openStep ys) out) x = (inS out x || (inS eq x && !inS ys x)) := by
    intro eq
    induction eq with
    | nil => intro out; simp [inS]
    | cons z eq ih =>
      intro out
      rw [List.foldl_cons, ih]
      have e : inS (openStep ys out z) x = (inS out x || (x == z && !inS ys x)) := by
        unfold openStep
        by_cases hz : x = z
        · subst hz
          cases h1 : inS ys x <;> cases h2 : inS out x <;> simp [h1, h2, inS_append]
          simp [inS]
        · have hb : (x == z) = false := by simpa using hz
          rw [hb, Bool.false_and, Bool.or_false]
          split
          · rw [inS_append]; simp [inS, hz]
          · rfl
      have e2 : inS (z :: eq) x = (x == z || inS eq x) := by rw [Bool.eq_iff_iff]; simp [inS]
      rw [e, e2]
      cases inS out x <;> cases (x == z) <;> cases inS ys x <;> cases inS eq x <;> rfl
  simpa [openS, inS] using key eq []
attribute [cbv_opaque] addS ddS ddTo

theorem set_ok (xs : List Int) (hl : xs.length ≤ 100000) : ACalls Try.prog 50 [ints xs] [] (Ret (.mp 0) [mpO (ddS xs)]) := by
  have hX : ddTo xs xs.length = ddS xs := by rw [ddTo, List.take_length]
  generalize ddS xs = X at hX
  refine ACalls.of_vc (fn := Try.f50) rfl rfl mixed ?_
  cbv
  refine ⟨fun z st => ∃ (k : Nat) (G : List Int), ddTo xs k = G ∧ k ≤ xs.length ∧ z = xs.length - k ∧ st = ⟨mk 17 [(2, .nilm), (3, .mp 0), (7, ints xs), (8, .int .i64 xs.length), (9, .int .i64 k)], [mpO G]⟩, GS.keep [2,3,7,8,9] [0] rfl (GS.done ⟨_, 0, [], rfl, by omega, rfl, rfl⟩), ?_⟩
  rintro z st ⟨k, G, hG, h2, rfl, rfl⟩
  cbv
  refine pcase.mk (fun h4 => ?_) (fun h4 => ?_)
  · have hk := nlt h4
    obtain ⟨x, hx⟩ := get_some hk
    have e1 := ddTo_succ hx
    rw [hG] at e1
    cbv
    refine ⟨h4, atK.mk (.int .i64 x) (map_int_get hx) ?_⟩
    cbv
    cases h5 : inS G x with
    | true =>
      have e2 : ddTo xs (k + 1) = G := by rw [e1, addS, h5]; rfl
      cbv
      refine GS.keep [2,3,7,8,9] [0] rfl (GS.done ⟨xs.length - (k + 1), by omega, k + 1, _, e2, by omega, rfl, ?_⟩)
      rw [w64n (by omega)]
      cbv
    | false =>
      have e2 : ddTo xs (k + 1) = G ++ [x] := by rw [e1, addS, h5]; rfl
      cbv
      refine GS.keep [2,3,7,8,9] [0] rfl (GS.done ⟨xs.length - (k + 1), by omega, k + 1, _, e2, by omega, rfl, ?_⟩)
      rw [w64n (by omega)]
      cbv
  · have hk : k = xs.length := by have := nge h4; omega
    subst hk
    obtain rfl : X = G := by rw [← hX, hG]
    cbv
    refine GS.keep [0] [0] rfl (GS.done ⟨rfl, rfl⟩)

end Go.Proofs.Ytncnnbjhginpfaa
