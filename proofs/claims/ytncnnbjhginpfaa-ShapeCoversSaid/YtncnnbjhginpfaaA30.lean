/- The reading of rows of numbers that came in, by names. Conditions: none; plain lemmas. -/
import Derived.Test.YtncnnbjhginpfaaA13
import Derived.WalkKit
import Derived.ProofKit
import Derived.OpenShut
import Derived.LaidMore
import Derived.ChangeSlices
import Derived.WideKeyArgs
namespace Go.Proofs.Ytncnnbjhginpfaa
set_option linter.unusedVariables false
set_option linter.unusedSimpArgs false
set_option linter.unnecessarySimpa false
open Go.ChangeShapes Go.WideShapes Go.ChangeAt Go.RowKit

theorem sat_none (P : Program) (w : World) : Sat P (fun _ => False) noEnv [] w :=
  ⟨fun n o ho => by simp at ho, fun _ _ => rfl, fun _ _ _ h => h, fun _ _ _ h => h.elim, fun _ _ h => h.elim, fun _ _ h => h.elim, fun _ h => h.elim⟩
theorem ACalls.law {P : Program} {f : FuncId} {args : List V} (h : ACalls P f args [] (Ret (.bool true) [])) (w : World) (us : List Value) (hv : RVs P w (okW (fun _ => False) noEnv w) args noρ us) :
    Calls P f us.toArray w fun e w' => e = .returned (.bool true) ∧ w.keptBut w' fun _ => False := by
  refine (h.2 (fun _ => False) noEnv w us (sat_none P w) hv).mono fun e w' he => ?_
  cases e with
  | returned u =>
    obtain ⟨M', σ', v, ⟨r1, _⟩, _, _, hx, hr⟩ := he
    cases r1
    simp only [RV] at hr
    subst hr
    refine ⟨rfl, hx.turn.os, hx.turn.output, fun i hi => ?_⟩
    rw [hx.turn.blk i hi (by rintro ⟨_, hf⟩; exact hf)]
    exact (World.keptBut_refl w (fun _ => False)).2.2 i hi
  | panicked c => obtain ⟨M', σ', v, u, _, ⟨r1, _⟩, _⟩ := he; cases r1
  | outgrown => exact he.elim

theorem post_same0 {H : Type} {enc : TypeId × Value → H} {P : Program} {f : Func} {s : ChangeSpec} {apart fresh handsOn : Bool} {W W' : World} {args : Array Value} {v : Value} {ds gs : List (DataW H)} {before pa pv : List MemPlace}
    (hW : DataW.Whole enc P f.params.toList s.vars apart W args.toList ds gs before)
    (hres : ∀ (b : Nat) (sp : Nat → Bool) (hd : Bool), DataW.TrodAll enc P W' b sp hd f.resultTypes.toList (v.resultList f.resultTypes.size) (s.fn H (ds ++ gs)).results [])
    (hargs : ∀ sp : Nat → Bool, (∀ p ∈ before, sp p.block = true) → DataW.TrodAll enc P W' 0 sp true f.params.toList args.toList (s.fn H (ds ++ gs)).args pa)
    (hvars : ∀ sp : Nat → Bool, (∀ p ∈ before, sp p.block = true) → DataW.TrodVars enc P W' sp s.vars (s.fn H (ds ++ gs)).vars pv)
    (hk : W.keptBut W' fun _ => False) : s.post enc P f apart fresh handsOn false W args v W' := by
  have hold : ∀ p ∈ before, (fun b => decide (b < W.heap.size)) p.block = true := fun p hp => by simpa using hW.lt p hp
  exact ⟨ds, gs, before, [], pa, pv, hW, hres _ _ _, hargs _ hold, hvars _ hold, World.keptBut_mono (fun _ h => h.elim) hk, fun h => by cases h⟩
end Go.Proofs.Ytncnnbjhginpfaa

namespace Go.Proofs.Ytncnnbjhginpfaa
set_option linter.unusedVariables false
set_option linter.unusedSimpArgs false
set_option linter.unnecessarySimpa false
open Go.ChangeShapes Go.WideShapes Go.ChangeAt Go.RowKit

def ok0 (w : World) : Nat → Prop := okW (fun _ => False) noEnv w
theorem ok0_of {w : World} {a : Addr} {v : Value} (h : w.cell? a = some v) : ok0 w a.block := by
  refine ⟨?_, fun h => h, fun _ h => h⟩
  unfold World.cell? at h
  split at h
  · rename_i hh; exact heap_lt hh
  · cases h
theorem list_of {α : Type} {Q : Nat → α → Prop} : ∀ n : Nat, (∀ i, i < n → ∃ x, Q i x) → ∃ l : List α, l.length = n ∧ ∀ i x, l[i]? = some x → Q i x := by
  intro n
  induction n with
  | zero => intro _; exact ⟨[], rfl, fun i x h => by simp at h⟩
  | succ n ih =>
    intro h
    obtain ⟨l, h1, h2⟩ := ih fun i hi => h i (by omega)
    obtain ⟨x, hx⟩ := h n (by omega)
    refine ⟨l ++ [x], by simp [h1], fun i y hy => ?_⟩
    rw [List.getElem?_append] at hy
    split at hy
    · exact h2 i y hy
    · rename_i hi
      have : i = n := by
        have := (List.getElem?_eq_some_iff.1 hy).1
        simp at this; omega
      subst this
      rw [show i - l.length = 0 by omega] at hy
      simp at hy; subst hy; exact hx

theorem rv_ints {H : Type} {enc : TypeId × Value → H} {w : World} {fuel : Nat} {u : Value} {x : DataW H × List MemPlace} (h : DataW.trod enc Try.prog w 0 (fun _ => true) true fuel 33 [u] = some x) :
    ∃ zs : List Int, RV Try.prog w (ok0 w) (ints zs) noρ u ∧ u.oneCell' = true := by
  rcases open_ints (e := 3) (k := .i64) Try.underlying33 Try.underlying3 (by kernel_rfl) h with ⟨h1, _⟩ | ⟨a, len, cap, zs, h1, _, h3, h4, h5, _, h7, _⟩
  · simp only [List.cons.injEq, and_true] at h1
    subst h1
    exact ⟨[], ⟨none, 0, rfl, by simp, by simp [maxLen], fun h => absurd rfl h⟩, rfl⟩
  · simp only [List.cons.injEq, and_true] at h1
    subst h1
    simp only [if_true] at h5
    refine ⟨zs.take len, ⟨some a, cap, by rw [List.length_take]; congr 1; omega, by rw [List.length_take]; omega, h4, fun hne => ⟨a, rfl, ?_, RCs.mk fun i v hv => ?_⟩⟩, rfl⟩
    · have hl : 0 < zs.length := by
        cases zs with
        | nil => simp at hne
        | cons z zs => simp
      have := h7 0 hl
      have hb := ok0_of this
      rwa [block_add] at hb
    · rw [List.getElem?_map] at hv
      cases hz : (zs.take len)[i]? with
      | none => simp [hz] at hv
      | some z =>
        simp [hz] at hv; subst hv
        rw [List.getElem?_take] at hz
        split at hz
        · have hi := (List.getElem?_eq_some_iff.1 hz).1
          refine ⟨_, h7 i hi, rfl, ?_⟩
          rw [List.getD_eq_getElem?_getD, hz]; rfl
        · cases hz

theorem rv_lists {H : Type} {enc : TypeId × Value → H} {w : World} {fuel : Nat} {v : Value} {x : DataW H × List MemPlace} (h : DataW.trod enc Try.prog w 0 (fun _ => true) true fuel 27 [v] = some x) :
    ∃ F : List (List Int), RV Try.prog w (ok0 w) (lists F) noρ v := by
  rcases DataW.trod_slice (e := 33) Try.underlying27 h with ⟨h1, _⟩ | ⟨a, len, cap, elems, rest, n, _, h1, _, _, h3, h4, h5, h6, _⟩
  · simp only [List.cons.injEq, and_true] at h1
    subst h1
    exact ⟨[], none, 0, rfl, by simp, by simp [maxLen], fun h => absurd rfl h⟩
  · simp only [List.cons.injEq, and_true] at h1
    subst h1
    have hc : Try.prog.cellsOf 33 = 1 := by kernel_rfl
    have each : ∀ i, i < len → ∃ zs : List Int, ∃ u, w.cell? (a.add i) = some u ∧ u.oneCell' = true ∧ RV Try.prog w (ok0 w) (ints zs) noρ u := fun i hi => by
      have hE := h6 i hi
      rw [hc, Nat.mul_one] at hE
      obtain ⟨y, hy⟩ : ∃ y, elems[i]? = some y := ⟨_, List.getElem?_eq_getElem (by omega)⟩
      rw [hy] at hE
      simp only [Option.bind_eq_some_iff] at hE
      obtain ⟨c1, hc1, hy1⟩ := hE
      have e0 : (a.add i).add 0 = a.add i := by simp [Addr.add]
      have : ∃ c, c1 = [c] ∧ w.cell? (a.add i) = some c := by
        unfold World.cells? at hc1
        split at hc1
        · simp only [List.range_succ, List.range_zero, List.nil_append, List.mapM_cons, List.mapM_nil, e0] at hc1
          cases hcc : w.cell? (a.add i) with
          | none => simp [hcc] at hc1
          | some c => simp [hcc] at hc1; exact ⟨c, hc1.symm, rfl⟩
        · cases hc1
      obtain ⟨c, rfl, hcell⟩ := this
      obtain ⟨zs, g1, g2⟩ := rv_ints hy1
      exact ⟨zs, c, hcell, g2, g1⟩
    obtain ⟨F, hF1, hF2⟩ := list_of len each
    refine ⟨F, some a, cap, by rw [hF1], by rw [hF1]; exact h3, h4, fun hne => ⟨a, rfl, ?_, RCs.mk fun i v hv => ?_⟩⟩
    · have hl : 0 < len := by
        cases F with
        | nil => simp at hne
        | cons z zs => simp at hF1; omega
      obtain ⟨_, u, hu, _⟩ := each 0 hl
      have hb := ok0_of hu
      rwa [block_add] at hb
    · rw [List.getElem?_map] at hv
      cases hz : F[i]? with
      | none => simp [hz] at hv
      | some zs =>
        simp [hz] at hv; subst hv
        exact hF2 i zs hz
theorem ACalls.law2 {P : Program} {f : FuncId} {args : List V} (h : ACalls P f args [] (Ret (.bool true) [])) (w : World) (us : List Value) (hv : RVs P w (ok0 w) args noρ us) :
    Calls P f us.toArray w fun e w' => e = .returned (.bool true) ∧ (w.keptBut w' fun _ => False) ∧ ∀ i, i < w.heap.size → w'.heap[i]? = w.heap[i]? := by
  refine (h.2 (fun _ => False) noEnv w us (sat_none P w) hv).mono fun e w' he => ?_
  cases e with
  | returned u =>
    obtain ⟨M', σ', v, ⟨r1, _⟩, _, _, hx, hr⟩ := he
    cases r1
    simp only [RV] at hr
    subst hr
    have hh : ∀ i, i < w.heap.size → w'.heap[i]? = w.heap[i]? := fun i hi => hx.turn.blk i hi (by rintro ⟨_, hf⟩; exact hf)
    refine ⟨rfl, ⟨hx.turn.os, hx.turn.output, fun i hi => ?_⟩, hh⟩
    rw [hh i hi]
    exact (World.keptBut_refl w (fun _ => False)).2.2 i hi
  | panicked c => obtain ⟨M', σ', v, u, _, ⟨r1, _⟩, _⟩ := he; cases r1
  | outgrown => exact he.elim
theorem same_at {w w' : World} (h : ∀ i, i < w.heap.size → w'.heap[i]? = w.heap[i]?) {p : MemPlace} (hp : p.block < w.heap.size) : w.sameAt w' p := by
  cases p with
  | cell b off =>
    show w'.cell? ⟨b, off, none⟩ = w.cell? ⟨b, off, none⟩
    unfold World.cell?
    rw [h b hp]
  | map b => exact h b hp
end Go.Proofs.Ytncnnbjhginpfaa
