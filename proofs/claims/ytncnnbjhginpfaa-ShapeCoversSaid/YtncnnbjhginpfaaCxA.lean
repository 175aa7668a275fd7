/- Values by name, and what they say of a world. Conditions: none; plain definitions and lemmas. -/
import Derived.WalkKit
import Derived.CallsIn
namespace Go.Proofs.Ytncnnbjhginpfaa
set_option linter.unusedVariables false
set_option linter.unusedSimpArgs false
set_option linter.unnecessarySimpa false
open Go.RowKit

/-- Values as the proofs speak of them: blocks by name; 'frz', 'fptr': memory that is never written again, by what it holds. -/
inductive V where
  | undef
  | opq (u : Value)
  | bool (b : Bool)
  | int (k : IntKind) (n : Int)
  | str (s : ByteArray)
  | nilp | nils | nilm | nilf | nili | esl
  | ptr (n off : Nat)
  | sl (ow : Bool) (n off len : Nat)
  | mp (n : Nat)
  | yld (n : Nat)
  | frz (cs : List V) (len : Nat)
  | fptr (cs : List V)
  | tree (t : TypeId) (cs : List V) (len : Nat)
  | fn (f : Fn) (first cap : List V)
  | iface (t : TypeId) (v : V)
  | agg (cs : List V)
  | tup (vs : List V)

instance : Inhabited V := ⟨.undef⟩

def noρ : Nat → Option Nat := fun _ => none

def RoomAt (P : Program) (w : World) (g off cap : Nat) : Prop := ∃ t k, w.shape? g = some (t, k) ∧ off + cap * P.cellsOf t ≤ k

mutual
/-- Value u of world w is what v says; 'ok': the blocks that are never written again. -/
def RV (P : Program) (w : World) (ok : Nat → Prop) : V → (Nat → Option Nat) → Value → Prop
  | .undef, _, _ => True
  | .opq x, _, u => u = x
  | .bool b, _, u => u = .bool b
  | .int k n, _, u => u = .int k n
  | .str s, _, u => u = .string s
  | .nilp, _, u => u = .pointer none
  | .nils, _, u => u = .slice none 0 0
  | .nilm, _, u => u = .map none
  | .nilf, _, u => u = .nilFunc
  | .nili, _, u => u = .nilIface
  | .esl, _, u => ∃ A, u = .slice A 0 0
  | .ptr n off, ρ, u => ∃ g, ρ n = some g ∧ u = .pointer (some ⟨g, off, none⟩)
  | .sl ow n off len, ρ, u => ∃ g o cap, ρ n = some g ∧ u = .slice (some ⟨g, o, none⟩) len cap ∧ len ≤ cap ∧ cap ≤ maxLen ∧ (0 < cap → o = off) ∧ (ow = true → 0 < cap → RoomAt P w g off cap)
  | .mp n, ρ, u => ∃ g, ρ n = some g ∧ u = .map (some g)
  | .yld n, ρ, u => ∃ g, ρ n = some g ∧ u = .func (.yield g) #[] #[]
  | .frz cs len, _, u => ∃ A cap, u = .slice A len cap ∧ len ≤ cap ∧ cap ≤ maxLen ∧ (cs ≠ [] → ∃ a : Addr, A = some a ∧ ok a.block ∧ RCs P w ok cs a)
  | .fptr cs, _, u => ∃ a : Addr, u = .pointer (some a) ∧ (cs ≠ [] → ok a.block ∧ RCs P w ok cs a)
  | .tree _ _ _, _, _ => False
  | .fn f x y, ρ, u => ∃ us vs, u = .func f us vs ∧ RVs P w ok x ρ us.toList ∧ RVs P w ok y ρ vs.toList
  | .iface t v, ρ, u => ∃ u', u = .iface t u' ∧ RV P w ok v ρ u'
  | .agg cs, ρ, u => ∃ us, u = .agg us ∧ (∀ x ∈ us.toList, x.oneCell' = true) ∧ RVs P w ok cs ρ us.toList
  | .tup vs, ρ, u => ∃ us, u = .tuple us ∧ RVs P w ok vs ρ us.toList
def RVs (P : Program) (w : World) (ok : Nat → Prop) : List V → (Nat → Option Nat) → List Value → Prop
  | [], _, us => us = []
  | v :: vs, ρ, us => ∃ u us', us = u :: us' ∧ RV P w ok v ρ u ∧ RVs P w ok vs ρ us'
/-- The cells from a on hold cs. -/
def RCs (P : Program) (w : World) (ok : Nat → Prop) : List V → Addr → Prop
  | [], _ => True
  | v :: vs, a => (∃ u, w.cell? a = some u ∧ u.oneCell' = true ∧ RV P w ok v noρ u) ∧ RCs P w ok vs (a.add 1)
end

mutual
/-- Names turned by π; those that π lets go are unknown from then on. -/
def V.ren (π : Nat → Option Nat) : V → V
  | .ptr n off => match π n with | some m => .ptr m off | none => .undef
  | .sl ow n off len => match π n with | some m => .sl ow m off len | none => .undef
  | .mp n => match π n with | some m => .mp m | none => .undef
  | .yld n => match π n with | some m => .yld m | none => .undef
  | .fn f x y => .fn f (V.rens π x) (V.rens π y)
  | .iface t v => .iface t (V.ren π v)
  | .agg cs => .agg (V.rens π cs)
  | .tup vs => .tup (V.rens π vs)
  | .undef => .undef
  | .opq u => .opq u
  | .bool b => .bool b
  | .int k n => .int k n
  | .str s => .str s
  | .nilp => .nilp
  | .nils => .nils
  | .nilm => .nilm
  | .nilf => .nilf
  | .nili => .nili
  | .esl => .esl
  | .frz cs len => .frz cs len
  | .fptr cs => .fptr cs
  | .tree t cs len => .tree t cs len
def V.rens (π : Nat → Option Nat) : List V → List V
  | [] => []
  | v :: vs => V.ren π v :: V.rens π vs
end

mutual
/-- No name stands in it. -/
def V.closed : V → Bool
  | .ptr .. | .sl .. | .mp .. | .yld .. | .tree .. => false
  | .fn _ x y => V.closeds x && V.closeds y
  | .iface _ v => V.closed v
  | .agg cs => V.closeds cs
  | .tup vs => V.closeds vs
  | _ => true
def V.closeds : List V → Bool
  | [] => true
  | v :: vs => V.closed v && V.closeds vs
end

section
variable {P : Program} {w w' : World} {ok ok' : Nat → Prop} {ρ ρ' π : Nat → Option Nat}

theorem V.rens_eq (π : Nat → Option Nat) (vs : List V) : V.rens π vs = vs.map (V.ren π) := by
  induction vs with
  | nil => rfl
  | cons v vs ih => simp [V.rens, ih]

structure Later (w w' : World) (ok ok' : Nat → Prop) : Prop where
  blk : ∀ g cur t fr, ok g → w.heap[g]? = some (.cells cur t fr) → ok' g ∧ w'.heap[g]? = w.heap[g]?
  shape : ∀ g x, w.shape? g = some x → w'.shape? g = some x

theorem RoomAt.later (hs : ∀ g x, w.shape? g = some x → w'.shape? g = some x) {g off cap : Nat} (h : RoomAt P w g off cap) : RoomAt P w' g off cap := by
  obtain ⟨t, k, h1, h2⟩ := h
  exact ⟨t, k, hs _ _ h1, h2⟩

theorem cell_cells {a : Addr} {u : Value} (h : w.cell? a = some u) : ∃ cur t fr, w.heap[a.block]? = some (.cells cur t fr) := by
  unfold World.cell? at h
  cases hh : w.heap[a.block]? with
  | none => simp [hh] at h
  | some o => cases o <;> simp [hh] at h; exact ⟨_, _, _, rfl⟩

theorem RCs.cells {vs : List V} {a : Addr} (hne : vs ≠ []) (h : RCs P w ok vs a) : ∃ cur t fr, w.heap[a.block]? = some (.cells cur t fr) := by
  cases vs with
  | nil => exact absurd rfl hne
  | cons v vs => simp only [RCs] at h; obtain ⟨⟨u, h1, _⟩, _⟩ := h; exact cell_cells h1

theorem add1_block (a : Addr) : (a.add 1).block = a.block := by simp [Addr.add]

mutual
theorem RCs.later_ (hl : Later w w' ok ok') : ∀ (vs : List V) (a : Addr), ok a.block → RCs P w ok vs a → RCs P w' ok' vs a := by
  intro vs a ha h
  match vs with
  | [] => simp [RCs]
  | v :: vs =>
    simp only [RCs] at h ⊢
    obtain ⟨⟨u, h1, h2, h3⟩, h4⟩ := h
    refine ⟨⟨u, ?_, h2, RV.noren_ hl v u h3⟩, RCs.later_ hl vs (a.add 1) (by rw [add1_block]; exact ha) h4⟩
    obtain ⟨cur, t, fr, hc⟩ := cell_cells h1
    rw [World.cell?_of_block (hl.blk _ _ _ _ ha hc).2]; exact h1
/-- The same where no names are read. -/
theorem RV.noren_ (hl : Later w w' ok ok') : ∀ (v : V) (u : Value), RV P w ok v noρ u → RV P w' ok' v noρ u := by
  intro v u h
  match v with
  | .undef => simp [RV]
  | .opq x => simpa [RV] using h
  | .bool b => simpa [RV] using h
  | .int k n => simpa [RV] using h
  | .str s => simpa [RV] using h
  | .nilp => simpa [RV] using h
  | .nils => simpa [RV] using h
  | .nilm => simpa [RV] using h
  | .nilf => simpa [RV] using h
  | .nili => simpa [RV] using h
  | .esl => simpa [RV] using h
  | .ptr n off => simp [RV, noρ] at h
  | .sl ow n off len => simp [RV, noρ] at h
  | .mp n => simp [RV, noρ] at h
  | .yld n => simp [RV, noρ] at h
  | .tree _ _ _ => simp [RV] at h
  | .frz cs len =>
    simp only [RV] at h ⊢
    obtain ⟨A, cap, h1, h2, h3, h4⟩ := h
    refine ⟨A, cap, h1, h2, h3, fun hne => ?_⟩
    obtain ⟨a, ha, hb, hc⟩ := h4 hne
    obtain ⟨cur, t, fr, hcc⟩ := RCs.cells hne hc
    exact ⟨a, ha, (hl.blk _ _ _ _ hb hcc).1, RCs.later_ hl cs a hb hc⟩
  | .fptr cs =>
    simp only [RV] at h ⊢
    obtain ⟨a, ha, h4⟩ := h
    refine ⟨a, ha, fun hne => ?_⟩
    obtain ⟨hb, hc⟩ := h4 hne
    obtain ⟨cur, t, fr, hcc⟩ := RCs.cells hne hc
    exact ⟨(hl.blk _ _ _ _ hb hcc).1, RCs.later_ hl cs a hb hc⟩
  | .fn f x y =>
    simp only [RV] at h ⊢
    obtain ⟨us, vs, h1, h2, h3⟩ := h
    exact ⟨us, vs, h1, RVs.noren_ hl _ _ h2, RVs.noren_ hl _ _ h3⟩
  | .iface t v =>
    simp only [RV] at h ⊢
    obtain ⟨u', h1, h2⟩ := h
    exact ⟨u', h1, RV.noren_ hl _ _ h2⟩
  | .agg cs =>
    simp only [RV] at h ⊢
    obtain ⟨us, h1, h2, h3⟩ := h
    exact ⟨us, h1, h2, RVs.noren_ hl _ _ h3⟩
  | .tup vs =>
    simp only [RV] at h ⊢
    obtain ⟨us, h1, h2⟩ := h
    exact ⟨us, h1, RVs.noren_ hl _ _ h2⟩
theorem RVs.noren_ (hl : Later w w' ok ok') : ∀ (vs : List V) (us : List Value), RVs P w ok vs noρ us → RVs P w' ok' vs noρ us := by
  intro vs us h
  match vs with
  | [] => simpa [RVs] using h
  | v :: vs =>
    simp only [RVs] at h ⊢
    obtain ⟨u, us', h1, h2, h3⟩ := h
    exact ⟨u, us', h1, RV.noren_ hl v u h2, RVs.noren_ hl vs us' h3⟩
end

mutual
theorem RV.ren_ (hl : Later w w' ok ok') (hπ : ∀ n m g, π n = some m → ρ n = some g → ρ' m = some g) :
    ∀ (v : V) (u : Value), RV P w ok v ρ u → RV P w' ok' (v.ren π) ρ' u := by
  intro v u h
  match v with
  | .undef => simp [V.ren, RV]
  | .opq x => simpa [V.ren, RV] using h
  | .bool b => simpa [V.ren, RV] using h
  | .int k n => simpa [V.ren, RV] using h
  | .str s => simpa [V.ren, RV] using h
  | .nilp => simpa [V.ren, RV] using h
  | .nils => simpa [V.ren, RV] using h
  | .nilm => simpa [V.ren, RV] using h
  | .nilf => simpa [V.ren, RV] using h
  | .nili => simpa [V.ren, RV] using h
  | .esl => simpa [V.ren, RV] using h
  | .ptr n off =>
    simp only [V.ren]
    cases hn : π n with
    | none => simp [RV]
    | some m =>
      simp only [RV] at h ⊢
      obtain ⟨g, h1, h2⟩ := h
      exact ⟨g, hπ n m g hn h1, h2⟩
  | .sl ow n off len =>
    simp only [V.ren]
    cases hn : π n with
    | none => simp [RV]
    | some m =>
      simp only [RV] at h ⊢
      obtain ⟨g, o, cap, h1, h2, h3, h4, h5, h6⟩ := h
      exact ⟨g, o, cap, hπ n m g hn h1, h2, h3, h4, h5, fun ho hc => (h6 ho hc).later hl.shape⟩
  | .mp n =>
    simp only [V.ren]
    cases hn : π n with
    | none => simp [RV]
    | some m =>
      simp only [RV] at h ⊢
      obtain ⟨g, h1, h2⟩ := h
      exact ⟨g, hπ n m g hn h1, h2⟩
  | .yld n =>
    simp only [V.ren]
    cases hn : π n with
    | none => simp [RV]
    | some m =>
      simp only [RV] at h ⊢
      obtain ⟨g, h1, h2⟩ := h
      exact ⟨g, hπ n m g hn h1, h2⟩
  | .tree _ _ _ => simp [RV] at h
  | .frz cs len =>
    simp only [V.ren, RV] at h ⊢
    obtain ⟨A, cap, h1, h2, h3, h4⟩ := h
    refine ⟨A, cap, h1, h2, h3, fun hne => ?_⟩
    obtain ⟨a, ha, hb, hc⟩ := h4 hne
    obtain ⟨cur, t, fr, hcc⟩ := RCs.cells hne hc
    exact ⟨a, ha, (hl.blk _ _ _ _ hb hcc).1, RCs.later_ hl cs a hb hc⟩
  | .fptr cs =>
    simp only [V.ren, RV] at h ⊢
    obtain ⟨a, ha, h4⟩ := h
    refine ⟨a, ha, fun hne => ?_⟩
    obtain ⟨hb, hc⟩ := h4 hne
    obtain ⟨cur, t, fr, hcc⟩ := RCs.cells hne hc
    exact ⟨(hl.blk _ _ _ _ hb hcc).1, RCs.later_ hl cs a hb hc⟩
  | .fn f x y =>
    simp only [V.ren, RV] at h ⊢
    obtain ⟨us, vs, h1, h2, h3⟩ := h
    exact ⟨us, vs, h1, RVs.ren_ hl hπ _ _ h2, RVs.ren_ hl hπ _ _ h3⟩
  | .iface t v =>
    simp only [V.ren, RV] at h ⊢
    obtain ⟨u', h1, h2⟩ := h
    exact ⟨u', h1, RV.ren_ hl hπ _ _ h2⟩
  | .agg cs =>
    simp only [V.ren, RV] at h ⊢
    obtain ⟨us, h1, h2, h3⟩ := h
    exact ⟨us, h1, h2, RVs.ren_ hl hπ _ _ h3⟩
  | .tup vs =>
    simp only [V.ren, RV] at h ⊢
    obtain ⟨us, h1, h2⟩ := h
    exact ⟨us, h1, RVs.ren_ hl hπ _ _ h2⟩
theorem RVs.ren_ (hl : Later w w' ok ok') (hπ : ∀ n m g, π n = some m → ρ n = some g → ρ' m = some g) :
    ∀ (vs : List V) (us : List Value), RVs P w ok vs ρ us → RVs P w' ok' (V.rens π vs) ρ' us := by
  intro vs us h
  match vs with
  | [] => simpa [V.rens, RVs] using h
  | v :: vs =>
    simp only [V.rens, RVs] at h ⊢
    obtain ⟨u, us', h1, h2, h3⟩ := h
    exact ⟨u, us', h1, RV.ren_ hl hπ v u h2, RVs.ren_ hl hπ vs us' h3⟩
end

theorem Later.refl (w : World) (ok : Nat → Prop) : Later w w ok ok := ⟨fun _ _ _ _ h _ => ⟨h, rfl⟩, fun _ _ h => h⟩

mutual
theorem RV.of_closed : ∀ (v : V) (u : Value), v.closed = true → RV P w ok v ρ u → RV P w ok v ρ' u := by
  intro v u hc h
  match v with
  | .undef => simp [RV]
  | .opq x => simpa [RV] using h
  | .bool b => simpa [RV] using h
  | .int k n => simpa [RV] using h
  | .str s => simpa [RV] using h
  | .nilp => simpa [RV] using h
  | .nils => simpa [RV] using h
  | .nilm => simpa [RV] using h
  | .nilf => simpa [RV] using h
  | .nili => simpa [RV] using h
  | .esl => simpa [RV] using h
  | .ptr n off => simp [V.closed] at hc
  | .sl ow n off len => simp [V.closed] at hc
  | .mp n => simp [V.closed] at hc
  | .yld n => simp [V.closed] at hc
  | .tree _ _ _ => simp [RV] at h
  | .frz cs len => simpa [RV] using h
  | .fptr cs => simpa [RV] using h
  | .fn f x y =>
    simp only [V.closed, Bool.and_eq_true] at hc
    simp only [RV] at h ⊢
    obtain ⟨us, vs, h1, h2, h3⟩ := h
    exact ⟨us, vs, h1, RVs.of_closed _ _ hc.1 h2, RVs.of_closed _ _ hc.2 h3⟩
  | .iface t v =>
    simp only [V.closed] at hc
    simp only [RV] at h ⊢
    obtain ⟨u', h1, h2⟩ := h
    exact ⟨u', h1, RV.of_closed _ _ hc h2⟩
  | .agg cs =>
    simp only [V.closed] at hc
    simp only [RV] at h ⊢
    obtain ⟨us, h1, h2, h3⟩ := h
    exact ⟨us, h1, h2, RVs.of_closed _ _ hc h3⟩
  | .tup vs =>
    simp only [V.closed] at hc
    simp only [RV] at h ⊢
    obtain ⟨us, h1, h2⟩ := h
    exact ⟨us, h1, RVs.of_closed _ _ hc h2⟩
theorem RVs.of_closed : ∀ (vs : List V) (us : List Value), V.closeds vs = true → RVs P w ok vs ρ us → RVs P w ok vs ρ' us := by
  intro vs us hc h
  match vs with
  | [] => simpa [RVs] using h
  | v :: vs =>
    simp only [V.closeds, Bool.and_eq_true] at hc
    simp only [RVs] at h ⊢
    obtain ⟨u, us', h1, h2, h3⟩ := h
    exact ⟨u, us', h1, RV.of_closed v u hc.1 h2, RVs.of_closed vs us' hc.2 h3⟩
end

mutual
theorem RV.of_no : ∀ (v : V) (u : Value), RV P w ok v noρ u → RV P w ok v ρ u := by
  intro v u h
  match v with
  | .undef => simp [RV]
  | .opq x => simpa [RV] using h
  | .bool b => simpa [RV] using h
  | .int k n => simpa [RV] using h
  | .str s => simpa [RV] using h
  | .nilp => simpa [RV] using h
  | .nils => simpa [RV] using h
  | .nilm => simpa [RV] using h
  | .nilf => simpa [RV] using h
  | .nili => simpa [RV] using h
  | .esl => simpa [RV] using h
  | .ptr n off => simp [RV, noρ] at h
  | .sl ow n off len => simp [RV, noρ] at h
  | .mp n => simp [RV, noρ] at h
  | .yld n => simp [RV, noρ] at h
  | .tree _ _ _ => simp [RV] at h
  | .frz cs len => simpa [RV] using h
  | .fptr cs => simpa [RV] using h
  | .fn f x y =>
    simp only [RV] at h ⊢
    obtain ⟨us, vs, h1, h2, h3⟩ := h
    exact ⟨us, vs, h1, RVs.of_no _ _ h2, RVs.of_no _ _ h3⟩
  | .iface t v =>
    simp only [RV] at h ⊢
    obtain ⟨u', h1, h2⟩ := h
    exact ⟨u', h1, RV.of_no _ _ h2⟩
  | .agg cs =>
    simp only [RV] at h ⊢
    obtain ⟨us, h1, h2, h3⟩ := h
    exact ⟨us, h1, h2, RVs.of_no _ _ h3⟩
  | .tup vs =>
    simp only [RV] at h ⊢
    obtain ⟨us, h1, h2⟩ := h
    exact ⟨us, h1, RVs.of_no _ _ h2⟩
theorem RVs.of_no : ∀ (vs : List V) (us : List Value), RVs P w ok vs noρ us → RVs P w ok vs ρ us := by
  intro vs us h
  match vs with
  | [] => simpa [RVs] using h
  | v :: vs =>
    simp only [RVs] at h ⊢
    obtain ⟨u, us', h1, h2, h3⟩ := h
    exact ⟨u, us', h1, RV.of_no v u h2, RVs.of_no vs us' h3⟩
end

theorem RVs.len {vs : List V} {us : List Value} (h : RVs P w ok vs ρ us) : us.length = vs.length := by
  induction vs generalizing us with
  | nil => simp [RVs] at h; simp [h]
  | cons v vs ih =>
    simp only [RVs] at h
    obtain ⟨u, us', rfl, _, h3⟩ := h
    simp [ih h3]

theorem RVs.get {vs : List V} {us : List Value} (h : RVs P w ok vs ρ us) {i : Nat} {v : V} (hv : vs[i]? = some v) : ∃ u, us[i]? = some u ∧ RV P w ok v ρ u := by
  induction vs generalizing us i with
  | nil => simp at hv
  | cons x vs ih =>
    simp only [RVs] at h
    obtain ⟨u, us', rfl, h2, h3⟩ := h
    cases i with
    | zero => simp at hv; subst hv; exact ⟨u, by simp, h2⟩
    | succ i => simp at hv ⊢; exact ih h3 hv

theorem RVs.mk {vs : List V} {us : List Value} (hl : us.length = vs.length) (h : ∀ (i : Nat) v u, vs[i]? = some v → us[i]? = some u → RV P w ok v ρ u) : RVs P w ok vs ρ us := by
  induction vs generalizing us with
  | nil => simp at hl; simp [RVs, hl]
  | cons x vs ih =>
    cases us with
    | nil => simp at hl
    | cons u us =>
      simp only [RVs]
      exact ⟨u, us, rfl, h 0 x u (by simp) (by simp), ih (by simpa using hl) fun i v u hv hu => h (i + 1) v u (by simpa using hv) (by simpa using hu)⟩

theorem RVs.append {vs vs' : List V} {us us' : List Value} (h : RVs P w ok vs ρ us) (h' : RVs P w ok vs' ρ us') : RVs P w ok (vs ++ vs') ρ (us ++ us') := by
  induction vs generalizing us with
  | nil => simp [RVs] at h; simpa [h] using h'
  | cons x vs ih =>
    simp only [RVs] at h
    obtain ⟨u, us1, rfl, h2, h3⟩ := h
    simp only [List.cons_append, RVs]
    exact ⟨u, _, rfl, h2, ih h3⟩

/-- A cell of frozen memory. -/
theorem RCs.get {vs : List V} {a : Addr} (h : RCs P w ok vs a) {i : Nat} {v : V} (hv : vs[i]? = some v) : ∃ u, w.cell? (a.add i) = some u ∧ u.oneCell' = true ∧ RV P w ok v noρ u := by
  induction vs generalizing a i with
  | nil => simp at hv
  | cons x vs ih =>
    simp only [RCs] at h
    obtain ⟨⟨u, h1, h2, h3⟩, h4⟩ := h
    cases i with
    | zero => simp at hv; subst hv; exact ⟨u, by simpa [Addr.add] using h1, h2, h3⟩
    | succ i =>
      simp at hv
      obtain ⟨u', e1, e2, e3⟩ := ih h4 hv
      refine ⟨u', ?_, e2, e3⟩
      rw [← e1]
      congr 1
      unfold Addr.add
      by_cases hi : i = 0 <;> simp [hi]; omega

theorem RCs.mk {vs : List V} {a : Addr} (h : ∀ (i : Nat) v, vs[i]? = some v → ∃ u, w.cell? (a.add i) = some u ∧ u.oneCell' = true ∧ RV P w ok v noρ u) : RCs P w ok vs a := by
  induction vs generalizing a with
  | nil => simp [RCs]
  | cons x vs ih =>
    simp only [RCs]
    refine ⟨by simpa [Addr.add] using h 0 x (by simp), ih fun i v hv => ?_⟩
    obtain ⟨u, e1, e2, e3⟩ := h (i + 1) v (by simpa using hv)
    refine ⟨u, ?_, e2, e3⟩
    rw [← e1]
    congr 1
    unfold Addr.add
    by_cases hi : i = 0 <;> simp [hi]; omega

theorem RCs.drop {vs : List V} {a : Addr} (h : RCs P w ok vs a) (k : Nat) : RCs P w ok (vs.drop k) (a.add k) := by
  refine RCs.mk fun i v hv => ?_
  rw [List.getElem?_drop] at hv
  obtain ⟨u, e1, e2, e3⟩ := h.get hv
  refine ⟨u, ?_, e2, e3⟩
  rw [← e1]
  congr 1
  unfold Addr.add
  by_cases hi : i = 0 <;> by_cases hk : k = 0 <;> simp [hi, hk]; omega

theorem RCs.take {vs : List V} {a : Addr} (h : RCs P w ok vs a) (k : Nat) : RCs P w ok (vs.take k) a := by
  refine RCs.mk fun i v hv => ?_
  rw [List.getElem?_take] at hv
  split at hv
  · exact h.get hv
  · cases hv

theorem RV.one {v : V} {u : Value} (hv : match v with | .agg _ | .tup _ | .undef | .opq _ => False | _ => True) (h : RV P w ok v ρ u) : u.oneCell' = true := by
  cases v <;> simp only [RV] at h <;> first
    | exact hv.elim
    | exact h.elim
    | (subst h; rfl)
    | (obtain ⟨g, _, rfl⟩ := h; rfl)
    | (obtain ⟨g, o, cap, _, rfl, _⟩ := h; rfl)
    | (obtain ⟨g, o, rfl, _⟩ := h; rfl)
    | (obtain ⟨g, rfl, _⟩ := h; rfl)
    | (obtain ⟨g, rfl⟩ := h; rfl)

end
/-! ### Splits -/
def bcase (t : Bool) (A B : Unit → Prop) : Prop := (t = true → A ()) ∧ (t = false → B ())
def pcase (p : Prop) (A B : Unit → Prop) : Prop := (p → A ()) ∧ (¬ p → B ())
def sameK (i j : IntKind) (p : Prop) : Prop := i = j ∧ p
/-- What stands there, and what follows of it. -/
def atK (o : Option V) (k : V → Prop) : Prop := ∃ v, o = some v ∧ k v
/-- A type of the program. -/
def has (P : Program) (t : TypeId) : Prop := ∃ d, P.underlying t = some d
theorem atK.mk {o : Option V} {k : V → Prop} (v : V) (h : o = some v) (hk : k v) : atK o k := ⟨v, h, hk⟩
theorem bcase.mk {t : Bool} {A B : Unit → Prop} (h1 : t = true → A ()) (h2 : t = false → B ()) : bcase t A B := ⟨h1, h2⟩
theorem pcase.mk {p : Prop} {A B : Unit → Prop} (h1 : p → A ()) (h2 : ¬ p → B ()) : pcase p A B := ⟨h1, h2⟩

end Go.Proofs.Ytncnnbjhginpfaa
