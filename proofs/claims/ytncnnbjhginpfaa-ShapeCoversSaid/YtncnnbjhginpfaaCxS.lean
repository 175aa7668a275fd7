/- Words that the functions' contracts share: lists of numbers as values, numbers in their range. Conditions: none; plain definitions and lemmas. -/
import Derived.Test.YtncnnbjhginpfaaCxR
import Derived.IntWalk
namespace Go.Proofs.Ytncnnbjhginpfaa
set_option linter.unusedVariables false
set_option linter.unusedSimpArgs false
set_option linter.unnecessarySimpa false

theorem nc1 (k : Nat) : (NatCast.natCast k : Int) = Int.ofNat k := rfl

def ints (xs : List Int) : V := .frz (xs.map (V.int .i64)) xs.length
def lists (xss : List (List Int)) : V := .frz (xss.map ints) xss.length

@[cbv_eval] theorem closeds_ints (k : IntKind) (xs : List Int) : V.closeds (xs.map (V.int k)) = true := by induction xs <;> simp_all [V.closeds, V.closed]
@[cbv_eval] theorem closeds_lists (xss : List (List Int)) : V.closeds (xss.map ints) = true := by induction xss <;> simp_all [V.closeds, V.closed, ints]
@[cbv_eval] theorem closeds_append (a b : List V) : V.closeds (a ++ b) = (V.closeds a && V.closeds b) := by induction a <;> simp_all [V.closeds, Bool.and_assoc]

theorem w64 {x : Int} (h1 : -9223372036854775808 ≤ x) (h2 : x ≤ 9223372036854775807) : IntKind.i64.wrap x = x := IntWalk.i64_in _ ⟨h1, h2⟩
/-- One more. -/
theorem w64s {k : Nat} (h : k < 9223372036854775807) : IntKind.i64.wrap ((k : Int) + 1) = ((k + 1 : Nat) : Int) := by rw [w64 (by omega) (by omega)]; omega

theorem get_some {α : Type} {xs : List α} {k : Nat} (h : k < xs.length) : ∃ x, xs[k]? = some x := ⟨_, List.getElem?_eq_getElem h⟩

end Go.Proofs.Ytncnnbjhginpfaa
