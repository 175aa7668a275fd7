/- Rounds of a range over a function, by names: what a call of yield asks and gives. Conditions: none; plain definitions and lemmas. -/
import Derived.Test.YtncnnbjhginpfaaCxM
import Derived.RangeFuncRecord
namespace Go.Proofs.Ytncnnbjhginpfaa
set_option linter.unusedVariables false
set_option linter.unusedSimpArgs false
set_option linter.unnecessarySimpa false
open Go.RowKit

/-- Everywhere, in a round or none. -/
def FW (ro : Option Nat) : Fence := { fn := fun _ => True, depth := none, alive := false, round := ro }

/-- What a round of the loop whose record is object i does, asked with args. -/
def ARound (P : Program) (i : Nat) (args : List V) (σ : List Ob) (R : Out → List Ob → Prop) : Prop :=
  ∀ (X : Nat → Prop) (M : Env) (w : World) (us : List Value) (l : Nat), Sat P X M σ w → M.ρ i = some l → RVs P w (okW X M w) args M.ρ us →
    ∃ f tmps assign body, (Instr.yield l us.toArray).run P w = .ok (.round l f tmps assign body) w ∧ ∀ ro n, RoundIn (FW ro) n P l f tmps assign body w (AOut P X M σ.length w R)

section
variable {P : Program} {E : En} {M M' : Env} {st : St} {a : Act} {w w' : World} {X : Nat → Prop} {σ σ' : List Ob}

/-- A call of yield, by names: 'ns' is lent, the record is the i-th of it. -/
def roundVC (P : Program) (m : Nat) (args : List V) (st : St) (k kp : V → St → Prop) : Prop :=
  ∃ (ns : List Nat) (i : Nat) (R : Out → List Ob → Prop), ns.Nodup ∧ (∀ n ∈ ns, n < st.σ.length) ∧ ns[i]? = some m ∧ ARound P i (V.rens (idx ns) args) (sel ns st.σ) R ∧
    ∀ o σ', R o σ' → ns.length ≤ σ'.length → match o with
      | .ret v => k (v.ren (back ns st.σ.length)) { st with σ := merge ns st.σ σ' }
      | .pan v => kp (v.ren (back ns st.σ.length)) { st with σ := merge ns st.σ σ' }

theorem roundVC_sound (h : Rel P E M st a w) {m l : Nat} {args : List V} {us : List Value} {k kp : V → St → Prop} (hm : M.ρ m = some l) (hv : RVs P w (okW E.X M w) args M.ρ us) (hk : roundVC P m args st k kp) :
    ∃ f tmps assign body, (Instr.yield l us.toArray).run P w = .ok (.round l f tmps assign body) w ∧ ∀ ro n, RoundIn (FW ro) n P l f tmps assign body w fun e w' => match e with
      | .returned u => ∃ M' st' v, k v st' ∧ Rel P E M' st' a w' ∧ RV P w' (okW E.X M' w') v M'.ρ u
      | .panicked chain => ∃ M' st' v u, chain = [{ v := u, recovered := false }] ∧ kp v st' ∧ Rel P E M' st' a w' ∧ RV P w' (okW E.X M' w') v M'.ρ u
      | .outgrown => False := by
  obtain ⟨ns, i, R, hd, hlt, hi, hc, hk⟩ := hk
  have hl' : (M.sel ns).ρ i = some l := by simp only [Env.sel, hi, Option.bind_some]; exact hm
  obtain ⟨f, tmps, assign, body, h1, h2⟩ := hc (lendX E.X M ns) (M.sel ns) w us l (h.sat.lend hd) hl' (RVs.ren_ (later_lend ns) (idx_ren ns) _ _ hv)
  refine ⟨f, tmps, assign, body, h1, fun ro n => (h2 ro n).mono fun e w' hr => ?_⟩
  have hsl : (sel ns st.σ).length = ns.length := by simp [sel]
  rw [hsl] at hr
  cases e with
  | returned u =>
    obtain ⟨M', σ', v, g1, g2, g3, g4, g5⟩ := hr
    obtain ⟨r1, r2⟩ := h.merge hd hlt g2 g3 g4
    exact ⟨_, _, _, hk _ _ g1 g3, r1, r2 _ _ g5⟩
  | panicked c =>
    obtain ⟨M', σ', v, u, g0, g1, g2, g3, g4, g5⟩ := hr
    obtain ⟨r1, r2⟩ := h.merge hd hlt g2 g3 g4
    exact ⟨_, _, _, _, g0, hk _ _ g1 g3, r1, r2 _ _ g5⟩
  | outgrown => exact hr.elim

end
end Go.Proofs.Ytncnnbjhginpfaa
