/- Words that the functions' contracts share: names that hold nothing yet, rows that are nil while they are empty. Conditions: none; plain definitions and lemmas. -/
import Derived.Test.YtncnnbjhginpfaaCxS
namespace Go.Proofs.Ytncnnbjhginpfaa
set_option linter.unusedVariables false
set_option linter.unusedSimpArgs false
set_option linter.unnecessarySimpa false
open Go.RowKit

section
variable {P : Program} {E : En} {M M' : Env} {st st' : St} {a : Act} {w w' : World} {X : Nat → Prop} {σ : List Ob} {n0 : Nat} {Φ : St → Prop}

theorem Sat.ghost (h : Sat P X M σ w) : Sat P X M (σ ++ [.gone]) w where
  ob := by
    intro n o ho
    rcases Nat.lt_or_ge n σ.length with hn | hn
    · rw [List.getElem?_append_left hn] at ho; exact h.ob n o ho
    · rw [List.getElem?_append_right hn] at ho
      rcases Nat.eq_zero_or_pos (n - σ.length) with e | e
      · rw [e] at ho; simp at ho; subst ho
        exact fun g => h.out n g hn
      · rw [List.getElem?_eq_none (by simp; omega)] at ho; cases ho
  dom := fun n hn => h.dom n (by simp at hn; omega)
  out := fun n g hn => h.out n g (by simp at hn; omega)
  disj := h.disj
  nX := h.nX
  lt := h.lt
  Xlt := h.Xlt

/-- A name that holds nothing yet. -/
theorem GS.ghost (hk : GS P n0 ⟨st.slots, st.σ ++ [.gone]⟩ Φ) : GS P n0 st Φ :=
  GS.step (st' := ⟨st.slots, st.σ ++ [.gone]⟩) (fun E M a w he hr => ⟨M, { sat := hr.sat.ghost, sl := hr.sl, sz := hr.sz, df := hr.df, fr := hr.fr, own := hr.own, lent := hr.lent, len := by have := hr.len; simp; omega }⟩) hk
theorem GS.weakSlot (t : Nat) (hk : GS P n0 ⟨st.slots.set t (st.slot t).weak, st.σ⟩ Φ) : GS P n0 st Φ :=
  GS.step (fun E M a w he hr => ⟨M, hr.learn (d := t) (hr.sl t).weak⟩) hk
theorem GS.weakFroz (n : Nat) (t : TypeId) (cs : List V) (hn : st.σ[n]? = some (.froz t cs)) (hk : GS P n0 (st.setOb n (.froz t (cs.map V.weak))) Φ) : GS P n0 st Φ := by
  refine GS.step (fun E M a w he hr => ⟨M, ?_⟩) hk
  obtain ⟨h0, g, cur, fr, h1, h2, h3, h4⟩ := hr.sat.ob n _ hn
  refine hr.step_same (hr.sat.update (List.getElem?_eq_some_iff.1 hn).1 (.froz t (cs.map V.weak)) (Turn.refl _ _) ⟨h0, g, cur, fr, h1, h2, h3, fun j v hv => ?_⟩) (Turn.refl _ _) (fun _ _ h => h) (fun n g h => .inl ⟨n, h⟩) (fun _ _ => rfl) (by simpa using hr.len)
  rw [List.getElem?_map] at hv
  cases hc : cs[j]? with
  | none => simp [hc] at hv
  | some v0 =>
    simp [hc] at hv; subst hv
    obtain ⟨u, e1, e2, e3⟩ := h4 j v0 hc
    exact ⟨u, e1, e2, e3.weak⟩

/-- A whole row in a slot is never to be written again. -/
theorem GS.closeFroz (t n len : Nat) (ow : Bool) (e : TypeId) (cs : List V) (ht : st.slot t = .sl ow n 0 len) (hn : st.σ[n]? = some (.froz e cs)) (hl : cs.length = len * P.cellsOf e) (hk : GS P n0 ⟨st.slots.set t (.frz cs len), st.σ⟩ Φ) : GS P n0 st Φ := by
  refine GS.closeSlot t ?_
  rw [ht]
  simp only [closeV, hn]
  rw [if_pos (by omega)]
  simp only [List.drop_zero]
  rw [List.take_of_length_le (by omega)]
  exact hk
theorem GS.closeArr (t n len : Nat) (ow : Bool) (e : TypeId) (cs : List V) (ht : st.slot t = .sl ow n 0 len) (hn : st.σ[n]? = some (.arr e cs)) (hl : cs.length = len * P.cellsOf e) (hk : GS P n0 ⟨st.slots.set t (.frz cs len), st.σ.set n (.froz e cs)⟩ Φ) : GS P n0 st Φ := by
  refine GS.closeSlot t ?_
  rw [ht]
  simp only [closeV, hn]
  rw [if_pos (by omega)]
  simp only [List.drop_zero]
  rw [List.take_of_length_le (by omega)]
  exact hk

end

theorem nlt {a b : Nat} (h : (NatCast.natCast a : Int) < NatCast.natCast b) : a < b := Int.ofNat_lt.1 h
theorem nge {a b : Nat} (h : ¬ (NatCast.natCast a : Int) < NatCast.natCast b) : b ≤ a := by have : ¬ a < b := fun hh => h (Int.ofNat_lt.2 hh); omega
theorem nle {a b : Nat} (h : (NatCast.natCast a : Int) ≤ NatCast.natCast b) : a ≤ b := Int.ofNat_le.1 h
theorem ngt {a b : Nat} (h : ¬ (NatCast.natCast a : Int) ≤ NatCast.natCast b) : b < a := by have : ¬ a ≤ b := fun hh => h (Int.ofNat_le.2 hh); omega
theorem w64n {k : Nat} (h : k < 9223372036854775807) : IntKind.i64.wrap ((NatCast.natCast k : Int) + 1) = NatCast.natCast (k + 1) := w64s h

/-- A row of one's own at a name; nil while nothing was put in. -/
def rowV (n len : Nat) : V := if len = 0 then .nils else .sl true n 0 len
def rowO (o : Ob) (len : Nat) : Ob := if len = 0 then .gone else o
/-- A row as it stands in a row of rows. -/
def rowT (t : TypeId) (cs : List V) (len : Nat) : V := if len = 0 then .nils else .tree t cs len

theorem ren_rowT {π : Nat → Option Nat} (t : TypeId) (cs : List V) (len : Nat) : V.ren π (rowT t cs len) = rowT t cs len := by unfold rowT; split <;> simp [V.ren]
theorem rens_rowT {α : Type} {π : Nat → Option Nat} (t : TypeId) (f : α → List V) (g : α → Nat) (l : List α) : V.rens π (l.map fun r => rowT t (f r) (g r)) = l.map fun r => rowT t (f r) (g r) := by
  rw [V.rens_eq, List.map_map]; exact List.map_congr_left fun r _ => ren_rowT t _ _
@[cbv_eval] theorem rens_append (π : Nat → Option Nat) (a b : List V) : V.rens π (a ++ b) = V.rens π a ++ V.rens π b := by simp [V.rens_eq]

@[cbv_eval] theorem rens_set (π : Nat → Option Nat) (l : List V) (i : Nat) (v : V) : V.rens π (l.set i v) = (V.rens π l).set i (V.ren π v) := by simp [V.rens_eq, List.map_set]
@[cbv_eval] theorem set_set' {α : Type} (l : List α) (i : Nat) (a b : α) : (l.set i a).set i b = l.set i b := List.set_set a
@[cbv_eval] theorem view_set (l : List V) (i : Nat) (v : V) : List.map V.view (l.set i v) = (List.map V.view l).set i v.view := List.map_set

/-- A name turned. -/
def rowM (len : Nat) : Option Nat → V
  | some m => rowV m len
  | none => if len = 0 then .nils else .undef
@[cbv_eval] theorem ren_rowV (π : Nat → Option Nat) (n len : Nat) : V.ren π (rowV n len) = rowM len (π n) := by
  unfold rowV rowM rowV; split <;> cases h : π n <;> simp [V.ren, h]
@[cbv_eval] theorem ren_rowO (π : Nat → Option Nat) (o : Ob) (len : Nat) : Ob.ren π (rowO o len) = rowO (Ob.ren π o) len := by unfold rowO; split <;> rfl
attribute [cbv_eval] ren_rowT
attribute [cbv_opaque] Ob.ren
@[cbv_eval] theorem obr_gone (π : Nat → Option Nat) : Ob.ren π .gone = .gone := rfl
@[cbv_eval] theorem obr_arr (π : Nat → Option Nat) (t : TypeId) (cs : List V) : Ob.ren π (.arr t cs) = .arr t cs := rfl
@[cbv_eval] theorem obr_var (π : Nat → Option Nat) (t : TypeId) (cs : List V) : Ob.ren π (.var t cs) = .var t (V.rens π cs) := rfl
@[cbv_eval] theorem obr_own (π : Nat → Option Nat) (t : TypeId) (cs : List V) : Ob.ren π (.own t cs) = .own t (V.rens π cs) := rfl
@[cbv_eval] theorem obr_froz (π : Nat → Option Nat) (t : TypeId) (cs : List V) : Ob.ren π (.froz t cs) = .froz t cs := rfl
@[cbv_eval] theorem obr_map (π : Nat → Option Nat) (es : List (V × V × Nat)) (c : Nat) : Ob.ren π (.map es c) = .map es c := rfl
@[cbv_eval] theorem obr_loop (π : Nat → Option Nat) (L : LoopD) : Ob.ren π (.loop L) = .loop { L with tmps := V.rens π L.tmps } := rfl
@[cbv_eval] theorem obr_res (π : Nat → Option Nat) (A : Res) : Ob.ren π (.res A) = .res A := rfl
attribute [cbv_opaque] rowV rowO rowT
@[cbv_eval] theorem rowVc0 (n : Nat) : rowV n 0 = .nils := rfl
@[cbv_eval] theorem rowOc0 (o : Ob) : rowO o 0 = .gone := rfl

theorem rowV0 (n : Nat) : rowV n 0 = .nils := rfl
theorem rowO0 (o : Ob) : rowO o 0 = .gone := rfl
theorem rowV1 {n len : Nat} (h : len ≠ 0) : rowV n len = .sl true n 0 len := if_neg h
theorem rowO1 {o : Ob} {len : Nat} (h : len ≠ 0) : rowO o len = o := if_neg h

end Go.Proofs.Ytncnnbjhginpfaa
