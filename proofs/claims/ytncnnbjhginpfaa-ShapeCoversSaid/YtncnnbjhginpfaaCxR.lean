/- How far terms are reckoned out: what stays folded, and the rules for lists and cases. Conditions: none; plain lemmas. -/
import Derived.Test.YtncnnbjhginpfaaCxQr
namespace Go.Proofs.Ytncnnbjhginpfaa
set_option linter.unusedVariables false
set_option linter.unusedSimpArgs false
set_option linter.unnecessarySimpa false

attribute [cbv_opaque] HAdd.hAdd HSub.hSub HMul.hMul HMod.hMod HDiv.hDiv HPow.hPow LE.le LT.lt Decidable.decide BEq.beq NatCast.natCast Int.toNat Min.min Max.max
attribute [cbv_opaque] Int.tdiv Int.tmod Int.fdiv Int.neg Bool.not IntKind.wrap bitsV List.length List.map List.drop List.take List.set List.replicate HAppend.hAppend GetElem?.getElem? V.closeds
attribute [cbv_opaque] has atK bcase pcase sameK EqRun ACalls GS callVC roundVC ARound

section
variable {α β : Type}
@[cbv_eval] theorem cv_len0 : List.length ([] : List α) = 0 := rfl
@[cbv_eval] theorem cv_len1 (a : α) (l : List α) : List.length (a :: l) = List.length l + 1 := rfl
@[cbv_eval] theorem cv_map0 (f : α → β) : List.map f [] = [] := rfl
@[cbv_eval] theorem cv_map1 (f : α → β) (a : α) (l : List α) : List.map f (a :: l) = f a :: List.map f l := rfl
@[cbv_eval] theorem cv_lenmap (f : α → β) (l : List α) : List.length (List.map f l) = List.length l := List.length_map f
@[cbv_eval] theorem cv_lenset (l : List α) (i : Nat) (a : α) : List.length (List.set l i a) = List.length l := List.length_set
@[cbv_eval] theorem cv_drop0 (l : List α) : List.drop 0 l = l := rfl
@[cbv_eval] theorem cv_drop1 (n : Nat) (a : α) (l : List α) : List.drop (n + 1) (a :: l) = List.drop n l := rfl
@[cbv_eval] theorem cv_drop2 (n : Nat) : List.drop n ([] : List α) = [] := List.drop_nil
@[cbv_eval] theorem cv_take0 (l : List α) : List.take 0 l = [] := rfl
@[cbv_eval] theorem cv_take1 (n : Nat) (a : α) (l : List α) : List.take (n + 1) (a :: l) = a :: List.take n l := rfl
@[cbv_eval] theorem cv_take2 (n : Nat) : List.take n ([] : List α) = [] := List.take_nil
@[cbv_eval] theorem cv_set0 (a b : α) (l : List α) : List.set (a :: l) 0 b = b :: l := rfl
@[cbv_eval] theorem cv_set1 (n : Nat) (a b : α) (l : List α) : List.set (a :: l) (n + 1) b = a :: List.set l n b := rfl
@[cbv_eval] theorem cv_set2 (n : Nat) (b : α) : List.set [] n b = [] := List.set_nil
@[cbv_eval] theorem cv_rep0 (a : α) : List.replicate 0 a = [] := rfl
@[cbv_eval] theorem cv_rep1 (n : Nat) (a : α) : List.replicate (n + 1) a = a :: List.replicate n a := rfl
@[cbv_eval] theorem cv_app0 (l : List α) : ([] : List α) ++ l = l := rfl
@[cbv_eval] theorem cv_app1 (a : α) (l m : List α) : (a :: l) ++ m = a :: (l ++ m) := rfl
@[cbv_eval] theorem cv_get0 (a : α) (l : List α) : (a :: l)[0]? = some a := rfl
@[cbv_eval] theorem cv_get1 (n : Nat) (a : α) (l : List α) : (a :: l)[n + 1]? = l[n]? := rfl
@[cbv_eval] theorem cv_get2 (n : Nat) : ([] : List α)[n]? = none := rfl
end
@[cbv_eval] theorem cv_clo0 : V.closeds [] = true := by simp [V.closeds]
@[cbv_eval] theorem cv_clo1 (v : V) (vs : List V) : V.closeds (v :: vs) = (V.closed v && V.closeds vs) := by simp [V.closeds]

@[cbv_eval] theorem cv_not0 : (!true) = false := rfl
@[cbv_eval] theorem cv_not1 : (!false) = true := rfl
@[cbv_eval] theorem cv_bc0 (A B : Unit → Prop) : bcase true A B = A () := by simp [bcase]
@[cbv_eval] theorem cv_bc1 (A B : Unit → Prop) : bcase false A B = B () := by simp [bcase]
@[cbv_eval] theorem cv_bc2 (p : Prop) [inst : Decidable p] (A B : Unit → Prop) : bcase (@decide p inst) A B = pcase p A B := by simp [bcase, pcase]
@[cbv_eval] theorem cv_bc3 (t : Bool) (A B : Unit → Prop) : bcase (!t) A B = bcase t B A := by cases t <;> simp [bcase]
@[cbv_eval] theorem cv_bc4 (a b : Int) (A B : Unit → Prop) : bcase (a == b) A B = pcase (a = b) A B := by simp [bcase, pcase]
@[cbv_eval] theorem cv_sk (k : IntKind) (p : Prop) : sameK k k p = p := by simp [sameK]

def zeroT (z : Option Value) : Option (List V) := match z with | some z => if z.cells.toList.all (·.oneCell') then some (z.cells.toList.map V.ofC) else none | none => none

@[cbv_eval] theorem cv_atK (v : V) (k : V → Prop) : atK (some v) k = k v := by simp [atK]
@[cbv_eval] theorem cv_and (p : Prop) : (True ∧ p) = p := true_and p
@[cbv_eval] theorem cv_and2 (p : Prop) : (p ∧ True) = p := and_true p
@[cbv_eval] theorem cv_lerefl (n : Nat) : (n ≤ n) = True := eq_true (Nat.le_refl n)
@[cbv_eval] theorem cv_nat0 (k : Nat) : (0 ≤ (NatCast.natCast k : Int)) = True := by simpa using Int.natCast_nonneg k
@[cbv_eval] theorem cv_nat1 (k : Nat) : Int.toNat (NatCast.natCast k : Int) = k := Int.toNat_natCast k
@[cbv_eval] theorem cv_nat2 (k : Nat) : k * 1 = k := Nat.mul_one k
@[cbv_eval] theorem cv_nat3 (k : Nat) : 1 * k = k := Nat.one_mul k
@[cbv_eval] theorem cv_nat4 (k : Nat) : k + 0 = k := rfl
@[cbv_eval] theorem cv_nat5 (k : Nat) : 0 + k = k := Nat.zero_add k
@[cbv_eval] theorem cv_getd {α : Type} (l : List α) (n m : Nat) : (List.drop n l)[m]? = l[n + m]? := List.getElem?_drop

/-- Slots, those named; the others unknown. -/
def mk (m : Nat) (l : List (Nat × V)) : List V := l.foldl (fun s p => s.set p.1 p.2) (List.replicate m .undef)

end Go.Proofs.Ytncnnbjhginpfaa
