/- Calls by names: what a call asks and gives, and how its answer is laid into the caller's store. Conditions: none; plain definitions and lemmas. -/
import Derived.Test.YtncnnbjhginpfaaCxL
namespace Go.Proofs.Ytncnnbjhginpfaa
set_option linter.unusedVariables false
set_option linter.unusedSimpArgs false
set_option linter.unnecessarySimpa false
open Go.RowKit

inductive Out where
  | ret (v : V)
  | pan (v : V)

def Out.ren (π : Nat → Option Nat) : Out → Out
  | .ret v => .ret (v.ren π)
  | .pan v => .pan (v.ren π)

structure Ext (M M' : Env) (n : Nat) (w w' : World) : Prop where
  turn : Turn (fun g => ∃ n, M.fp n g) w w'
  own : ∀ n g, M'.fp n g → (∃ m, M.fp m g) ∨ w.heap.size ≤ g
  lent : ∀ i, i < n → M'.ρ i = M.ρ i

/-- How a call ends, by names. -/
def AOut (P : Program) (X : Nat → Prop) (M : Env) (n : Nat) (w : World) (R : Out → List Ob → Prop) : Ending → World → Prop
  | .returned u, w' => ∃ M' σ' v, R (.ret v) σ' ∧ Sat P X M' σ' w' ∧ n ≤ σ'.length ∧ Ext M M' n w w' ∧ RV P w' (okW X M' w') v M'.ρ u
  | .panicked chain, w' => ∃ M' σ' v u, chain = [{ v := u, recovered := false }] ∧ R (.pan v) σ' ∧ Sat P X M' σ' w' ∧ n ≤ σ'.length ∧ Ext M M' n w w' ∧ RV P w' (okW X M' w') v M'.ρ u
  | .outgrown, _ => False

def Enters (P : Program) (f : FuncId) : Prop := ∃ fn, P.funcs[f]? = some fn ∧ fn.name ≠ "runtime.NumGoroutine" ∧ fn.body.isSome = true

/-- The contract of a function: of these arguments, in this store, it ends as R says. -/
def ACalls (P : Program) (f : FuncId) (args : List V) (σ : List Ob) (R : Out → List Ob → Prop) : Prop :=
  Enters P f ∧ ∀ (X : Nat → Prop) (M : Env) (w : World) (us : List Value), Sat P X M σ w → RVs P w (okW X M w) args M.ρ us → Calls P f us.toArray w (AOut P X M σ.length w R)

section
variable {P : Program} {E : En} {M M' : Env} {st : St} {a : Act} {w w' : World} {X : Nat → Prop} {σ σ' : List Ob} {R R' : Out → List Ob → Prop}

theorem AOut.mono {n : Nat} {e : Ending} (h : AOut P X M n w R e w') (hr : ∀ o σ, R o σ → R' o σ) : AOut P X M n w R' e w' := by
  cases e with
  | returned u => obtain ⟨M', σ', v, h1, h2⟩ := h; exact ⟨M', σ', v, hr _ _ h1, h2⟩
  | panicked c => obtain ⟨M', σ', v, u, h0, h1, h2⟩ := h; exact ⟨M', σ', v, u, h0, hr _ _ h1, h2⟩
  | outgrown => exact h

theorem ACalls.mono {f : FuncId} {args : List V} (h : ACalls P f args σ R) (hr : ∀ o σ, R o σ → R' o σ) : ACalls P f args σ R' :=
  ⟨h.1, fun X M w us hs hv cs => let ⟨e, w', fr, h1, h2⟩ := h.2 X M w us hs hv cs; ⟨e, w', fr, h1.mono hr, h2⟩⟩

/-- What the callee must not touch. -/
def lendX (X : Nat → Prop) (M : Env) (ns : List Nat) (g : Nat) : Prop := X g ∨ ∃ n, n ∉ ns ∧ M.fp n g

theorem later_lend (ns : List Nat) : Later w w (okW X M w) (okW (lendX X M ns) (M.sel ns) w) :=
  ⟨fun g _ _ _ hg _ => ⟨⟨hg.1, fun hx => hx.elim hg.2.1 fun ⟨n, _, hn⟩ => hg.2.2 n hn, fun m hm => by obtain ⟨n, _, hn⟩ := hm; exact hg.2.2 n hn⟩, rfl⟩, fun _ _ h => h⟩

theorem Sat.lend (h : Sat P X M σ w) {ns : List Nat} (hd : ns.Nodup) : Sat P (lendX X M ns) (M.sel ns) (Ytncnnbjhginpfaa.sel ns σ) w where
  ob := fun i o ho => by
    simp only [Ytncnnbjhginpfaa.sel, List.getElem?_map] at ho
    cases hi : ns[i]? with
    | none => simp [hi] at ho
    | some n =>
      simp [hi] at ho
      subst ho
      cases hn : σ[n]? with
      | none =>
        simp only [Option.getD_none, Ob.ren, OkOb, Env.sel]
        rintro g ⟨m, hm, hf⟩
        rw [hi] at hm; cases hm
        exact h.out n g (by simpa using hn) hf
      | some o' =>
        simp only [Option.getD_some]
        refine (h.ob n o' hn).keep (later_lend ns) (fun _ _ => rfl) (by simp [Env.sel, hi]) (fun g => ?_) (idx_ren ns)
        simp only [Env.sel, hi, Option.some.injEq]
        exact ⟨fun ⟨m, e, hf⟩ => by subst e; exact hf, fun hf => ⟨n, rfl, hf⟩⟩
  dom := (h.sel hd).dom
  out := (h.sel hd).out
  disj := (h.sel hd).disj
  nX := by
    rintro i g ⟨n, hn, hf⟩ (hx | ⟨m, hm, hf'⟩)
    · exact h.nX n g hf hx
    · have := h.disj n m g hf hf'
      subst this
      exact hm (List.mem_of_getElem? hn)
  lt := (h.sel hd).lt
  Xlt := by
    rintro g (hx | ⟨m, hm, hf'⟩)
    · exact h.Xlt g hx
    · exact h.lt m g hf'

/-- The callee's names, in the caller's words. -/
def back (ns : List Nat) (L : Nat) (i : Nat) : Option Nat := if i < ns.length then ns[i]? else some (L + (i - ns.length))
def backOb (ns : List Nat) (L : Nat) (σ' : List Ob) (i : Nat) : Ob := ((σ'[i]?).getD .gone).ren (back ns L)
/-- The caller's store after the call. -/
def mergeAt (ns : List Nat) (σ σ' : List Ob) (n : Nat) : Ob := match idx ns n with | some i => backOb ns σ.length σ' i | none => (σ[n]?).getD .gone
def merge (ns : List Nat) (σ σ' : List Ob) : List Ob :=
  ((List.range σ.length).map (mergeAt ns σ σ')) ++
    (σ'.drop ns.length).map (Ob.ren (back ns σ.length))
def Env.merge (M M' : Env) (ns : List Nat) (L : Nat) : Env :=
  ⟨fun n => if n < L then M.ρ n else M'.ρ (n - L + ns.length),
   fun n g => if n < L then (match idx ns n with | some i => M'.fp i g | none => M.fp n g) else M'.fp (n - L + ns.length) g⟩

theorem idx_none {ns : List Nat} {n : Nat} (h : idx ns n = none) : n ∉ ns := by
  unfold idx at h
  simpa using h

theorem idx_of {ns : List Nat} (hd : ns.Nodup) {n i : Nat} (h : ns[i]? = some n) : idx ns n = some i := by
  cases hi : idx ns n with
  | none => exact absurd (List.mem_of_getElem? h) (idx_none hi)
  | some j =>
    have := idx_some hi
    rw [(List.getElem?_inj (List.getElem?_eq_some_iff.1 this).1 hd).1 (this.trans h.symm)]

theorem merge_length (ns : List Nat) (σ σ' : List Ob) : (merge ns σ σ').length = σ.length + (σ'.length - ns.length) := by simp [merge]

theorem later_merge {ns : List Nat} (hs : Sat P X M σ w) (h : Sat P (lendX X M ns) M' σ' w') :
    Later w' w' (okW (lendX X M ns) M' w') (okW X (M.merge M' ns σ.length) w') := by
  refine ⟨fun g _ _ _ hg _ => ⟨⟨hg.1, fun hx => hg.2.1 (.inl hx), fun n hn => ?_⟩, rfl⟩, fun _ _ h => h⟩
  simp only [Env.merge] at hn
  split at hn
  · split at hn
    · exact hg.2.2 _ hn
    · rename_i hi; exact hg.2.1 (.inr ⟨n, idx_none hi, hn⟩)
  · exact hg.2.2 _ hn

theorem merge_own {ns : List Nat} (hs : Sat P X M σ w) (hx : Ext (M.sel ns) M' ns.length w w') :
    ∀ n g, (M.merge M' ns σ.length).fp n g → (∃ m, M.fp m g) ∨ w.heap.size ≤ g := by
  intro n g hn
  have key : ∀ i, M'.fp i g → (∃ m, M.fp m g) ∨ w.heap.size ≤ g := fun i hi => by
    rcases hx.own i g hi with ⟨m, k, hk, hf⟩ | h
    · exact .inl ⟨k, hf⟩
    · exact .inr h
  simp only [Env.merge] at hn
  split at hn
  · split at hn
    · exact key _ hn
    · exact .inl ⟨n, hn⟩
  · exact key _ hn

theorem merge_turn {ns : List Nat} (hx : Ext (M.sel ns) M' ns.length w w') : Turn (fun g => ∃ n, M.fp n g) w w' :=
  hx.turn.mono fun g ⟨_, k, _, hf⟩ => ⟨k, hf⟩

theorem back_ren {ns : List Nat} (hs : Sat P X M σ w) (hlt : ∀ n ∈ ns, n < σ.length) (hx : Ext (M.sel ns) M' ns.length w w') :
    ∀ i m g, back ns σ.length i = some m → M'.ρ i = some g → (M.merge M' ns σ.length).ρ m = some g := by
  intro i m g h1 h2
  unfold back at h1
  split at h1
  · rename_i hi
    have hm := hlt m (List.mem_of_getElem? h1)
    simp only [Env.merge, hm, if_true]
    rw [hx.lent i hi] at h2
    simpa [Env.sel, h1] using h2
  · rename_i hi
    cases h1
    simp only [Env.merge]
    rw [if_neg (by omega)]
    have : σ.length + (i - ns.length) - σ.length + ns.length = i := by omega
    rw [this]; exact h2

theorem Sat.merge (hs : Sat P X M σ w) {ns : List Nat} (hd : ns.Nodup) (hlt : ∀ n ∈ ns, n < σ.length) (h : Sat P (lendX X M ns) M' σ' w') (hl : ns.length ≤ σ'.length)
    (hx : Ext (M.sel ns) M' ns.length w w') : Sat P X (M.merge M' ns σ.length) (merge ns σ σ') w' where
  ob := by
    have hlat := later_merge (ns := ns) hs h
    have hbr := back_ren hs hlt hx
    intro n o ho
    simp only [Ytncnnbjhginpfaa.merge, List.getElem?_append, List.length_map, List.length_range] at ho
    split at ho
    · rename_i hn
      simp only [List.getElem?_map, List.getElem?_range hn, Option.map_some, Option.some.injEq, mergeAt] at ho
      cases hi : idx ns n with
      | some i =>
        simp only [hi] at ho
        subst ho
        have hni := idx_some hi
        have hil : i < ns.length := (List.getElem?_eq_some_iff.1 hni).1
        have hi' : i < σ'.length := by omega
        have ho' : σ'[i]? = some σ'[i] := List.getElem?_eq_getElem hi'
        simp only [backOb, ho', Option.getD_some]
        refine (h.ob i _ ho').keep hlat (fun _ _ => rfl) ?_ (fun g => by simp [Env.merge, hn, hi]) hbr
        rw [hx.lent i hil]
        simp [Env.merge, hn, Env.sel, hni]
      | none =>
        simp only [hi] at ho
        have ho' : σ[n]? = some σ[n] := List.getElem?_eq_getElem hn
        rw [ho'] at ho
        simp only [Option.getD_some] at ho
        subst ho
        have hsel : ∀ g, M.fp n g → ¬ ∃ m, (M.sel ns).fp m g := fun g hg ⟨m, k, hk, hf⟩ => by
          have := hs.disj n k g hg hf
          subst this
          exact idx_none hi (List.mem_of_getElem? hk)
        refine (hs.ob n _ ho').keep_same ⟨fun g _ _ _ hg _ => ⟨⟨Nat.lt_of_lt_of_le hg.1 hx.turn.size, hg.2.1, fun m hm => ?_⟩, hx.turn.blk g hg.1 fun ⟨m, k, _, hf⟩ => hg.2.2 k hf⟩, hx.turn.shape⟩
          (fun g hg => hx.turn.blk g (hs.lt n g hg) (hsel g hg)) (by simp [Env.merge, hn]) (fun g => by simp [Env.merge, hn, hi]) (fun m g hm => ?_)
        · rcases merge_own (ns := ns) hs hx m g hm with ⟨k, hk⟩ | h
          · exact hg.2.2 k hk
          · have := hg.1; omega
        · have : m < σ.length := by
            rcases Nat.lt_or_ge m σ.length with h | h
            · exact h
            · rw [hs.dom m h] at hm; cases hm
          simp [Env.merge, this]; exact hm
    · rename_i hn
      simp only [List.getElem?_map, List.getElem?_drop] at ho
      have hnn : n - σ.length + ns.length = ns.length + (n - σ.length) := by omega
      cases ho' : σ'[ns.length + (n - σ.length)]? with
      | none => simp [ho'] at ho
      | some o' =>
        simp [ho'] at ho
        subst ho
        refine (h.ob _ _ ho').keep hlat (fun _ _ => rfl) ?_ (fun g => ?_) hbr
        · simp [Env.merge, hn, hnn]
        · simp [Env.merge, hn, hnn]
  dom := fun n hn => by
    rw [merge_length] at hn
    simp only [Env.merge]
    rw [if_neg (by omega)]
    exact h.dom _ (by omega)
  out := fun n g hn => by
    rw [merge_length] at hn
    simp only [Env.merge]
    rw [if_neg (by omega)]
    exact h.out _ g (by omega)
  disj := fun n m g hn hm => by
    have key : ∀ n, (M.merge M' ns σ.length).fp n g → (∃ i, M'.fp i g ∧ back ns σ.length i = some n) ∨ (n < σ.length ∧ n ∉ ns ∧ M.fp n g) := fun n hn => by
      simp only [Env.merge] at hn
      split at hn
      · rename_i hnl
        split at hn
        · rename_i i hi
          refine .inl ⟨i, hn, ?_⟩
          have := idx_some hi
          unfold back; rw [if_pos (List.getElem?_eq_some_iff.1 this).1]; exact this
        · rename_i hi; exact .inr ⟨hnl, idx_none hi, hn⟩
      · rename_i hnl
        refine .inl ⟨_, hn, ?_⟩
        unfold back; rw [if_neg (by omega)]; congr 1; omega
    have apart : ∀ i n, M'.fp i g → n ∉ ns → M.fp n g → False := fun i n hi hn hf => h.nX i g hi (.inr ⟨n, hn, hf⟩)
    rcases key n hn with ⟨i, hi, e⟩ | ⟨hi, e, hf⟩ <;> rcases key m hm with ⟨j, hj, e'⟩ | ⟨hj, e', hf'⟩
    · have := h.disj i j g hi hj
      subst this
      rw [e] at e'; cases e'; rfl
    · exact (apart i m hi e' hf').elim
    · exact (apart j n hj e hf).elim
    · exact hs.disj n m g hf hf'
  nX := fun n g hn hx' => by
    simp only [Env.merge] at hn
    split at hn
    · split at hn
      · exact h.nX _ g hn (.inl hx')
      · exact hs.nX _ g hn hx'
    · exact h.nX _ g hn (.inl hx')
  lt := fun n g hn => by
    simp only [Env.merge] at hn
    split at hn
    · split at hn
      · exact h.lt _ g hn
      · exact Nat.lt_of_lt_of_le (hs.lt _ g hn) hx.turn.size
    · exact h.lt _ g hn
  Xlt := fun g hg => h.Xlt g (.inl hg)

/-- After a call that was lent the objects 'ns'. -/
theorem Rel.merge (h : Rel P E M st a w) {ns : List Nat} (hd : ns.Nodup) (hlt : ∀ n ∈ ns, n < st.σ.length) (hs' : Sat P (lendX E.X M ns) M' σ' w') (hl : ns.length ≤ σ'.length)
    (hx : Ext (M.sel ns) M' ns.length w w') : Rel P E (M.merge M' ns st.σ.length) { st with σ := Ytncnnbjhginpfaa.merge ns st.σ σ' } a w' ∧
      ∀ v u, RV P w' (okW (lendX E.X M ns) M' w') v M'.ρ u → RV P w' (okW E.X (M.merge M' ns st.σ.length) w') (v.ren (back ns st.σ.length)) (M.merge M' ns st.σ.length).ρ u := by
  refine ⟨h.step_same (h.sat.merge hd hlt hs' hl hx) (merge_turn hx) (fun n g hn => ?_) (merge_own h.sat hx) (fun n hn => ?_) ?_, fun v u hv => RV.ren_ (later_merge h.sat hs') (back_ren h.sat hlt hx) v u hv⟩
  · have : n < st.σ.length := by
      rcases Nat.lt_or_ge n st.σ.length with h' | h'
      · exact h'
      · rw [h.sat.dom n h'] at hn; cases hn
    simp [Env.merge, this]; exact hn
  · have := h.len
    simp only [Env.merge]; rw [if_pos (by omega)]
  · have := h.len
    rw [merge_length]; omega

/-- A row with all that it owns is never to be written again. -/
def V.frzd (P : Program) : V → V
  | .tree t cs len => .frz (cs.take (len * P.cellsOf t)) len
  | v => v

theorem closeds_get {vs : List V} (h : V.closeds vs = true) {j : Nat} {v : V} (hv : vs[j]? = some v) : v.closed = true := by
  induction vs generalizing j with
  | nil => simp at hv
  | cons x vs ih =>
    simp only [V.closeds, Bool.and_eq_true] at h
    cases j with
    | zero => simp at hv; exact hv ▸ h.1
    | succ j => simp at hv; exact ih h.2 hv

/-- A number, a truth, a text. -/
def V.scalar : V → Bool
  | .bool _ | .int _ _ | .str _ => true
  | _ => false

/-- An empty slice, whichever. -/
def V.weak : V → V
  | .nils | .esl => .frz [] 0
  | v => v
theorem RV.weak {ok : Nat → Prop} {ρ : Nat → Option Nat} {v : V} {u : Value} (h : RV P w ok v ρ u) : RV P w ok v.weak ρ u := by
  cases v <;> simp only [V.weak] <;> first
    | exact h
    | (simp only [RV] at h ⊢; subst h; exact ⟨none, 0, rfl, Nat.le_refl _, by unfold maxLen; omega, fun hh => absurd rfl hh⟩)
    | (simp only [RV] at h ⊢; obtain ⟨A, rfl⟩ := h; exact ⟨A, 0, rfl, Nat.le_refl _, by unfold maxLen; omega, fun hh => absurd rfl hh⟩)

/-- A cell that is handed over to be read alone. -/
def cellB (P : Program) (b : V → V) : V → V
  | .tree t cs len => .frz (cs.take (len * P.cellsOf t)) len
  | v => (b v).weak

/-- What is handed over to be read alone. -/
def borrowN (P : Program) (σ : List Ob) : Nat → V → V
  | 0, v => v
  | f + 1, .sl ow n off len => (match σ[n]? with
    | some (.arr t cs) | some (.froz t cs) => if off + len * P.cellsOf t ≤ cs.length then .frz ((cs.drop off).take (len * P.cellsOf t)) len else .sl ow n off len
    | some (.own t cs) => if off + len * P.cellsOf t ≤ cs.length ∧ V.closeds (cs.map (cellB P (borrowN P σ f))) = true then .frz (((cs.map (cellB P (borrowN P σ f))).drop off).take (len * P.cellsOf t)) len else .sl ow n off len
    | _ => .sl ow n off len)
  | f + 1, .ptr n off => (match σ[n]? with
    | some (.arr _ cs) | some (.froz _ cs) => .fptr (cs.drop off)
    | some (.var _ cs) | some (.own _ cs) => if V.closeds (cs.map (cellB P (borrowN P σ f))) = true then .fptr ((cs.map (cellB P (borrowN P σ f))).drop off) else .ptr n off
    | _ => .ptr n off)
  | f + 1, .fn g x y => .fn g (x.map (borrowN P σ f)) (y.map (borrowN P σ f))
  | f + 1, .agg cs => .agg (cs.map (borrowN P σ f))
  | f + 1, .iface t v => .iface t (borrowN P σ f v)
  | _ + 1, v => v

def borrowV (P : Program) (σ : List Ob) (v : V) : V := borrowN P σ 4 v

/-- All that is handed over, to be read alone. -/
def BorrowTo (P : Program) (σ : List Ob) : List V → List V → Prop
  | [], bs => bs = []
  | a :: as, bs => ∃ b bs', bs = b :: bs' ∧ (b = borrowV P σ a ∨ b = (borrowV P σ a).weak) ∧ BorrowTo P σ as bs'

def noEnv : Env := ⟨noρ, fun _ _ => False⟩

theorem later_no : Later w w (okW X M w) (okW X noEnv w) := ⟨fun g _ _ _ hg _ => ⟨⟨hg.1, hg.2.1, fun _ h => h⟩, rfl⟩, fun _ _ h => h⟩

theorem closed_take {cs : List V} (h : V.closeds cs = true) : ∀ v ∈ cs, v.closed = true := by
  intro v hv
  obtain ⟨j, hj⟩ := List.mem_iff_getElem?.1 hv
  exact closeds_get h hj
theorem weak_closed {v : V} (h : v.weak.closed = true) : v.closed = true := by cases v <;> first | exact h | rfl

theorem borrowN_rv (h : Sat P X M σ w) : ∀ (f : Nat) (v : V) (u : Value), (borrowN P σ f v).closed = true → RV P w (okW X M w) v M.ρ u → RV P w (okW X noEnv w) (borrowN P σ f v) noρ u := by
  have hl : Later w w (okW X M w) (okW X noEnv w) := later_no
  have hok : ∀ n b, M.fp n b → okW X noEnv w b := fun n b hb => ⟨h.lt n b hb, h.nX n b hb, fun _ h => h⟩
  intro f
  induction f with
  | zero => intro v u hc hv; exact RV.noren_ hl _ _ (RV.of_closed _ _ hc hv)
  | succ f ih =>
    intro v u hc hv
    have ihs : ∀ (vs : List V) (us : List Value), V.closeds (vs.map (borrowN P σ f)) = true → RVs P w (okW X M w) vs M.ρ us → RVs P w (okW X noEnv w) (vs.map (borrowN P σ f)) noρ us := by
      intro vs
      induction vs with
      | nil => intro us _ hv; simpa [RVs] using hv
      | cons x vs ihv =>
        intro us hc hv
        simp only [RVs] at hv
        obtain ⟨u, us', rfl, h1, h2⟩ := hv
        simp only [List.map_cons, V.closeds, Bool.and_eq_true] at hc
        simp only [List.map_cons, RVs]
        exact ⟨u, us', rfl, ih _ _ hc.1 h1, ihv us' hc.2 h2⟩
    -- a row that is read
    have rd : ∀ (n : Nat) (t : TypeId) (cs : List V), ((σ[n]? = some (.arr t cs) ∨ σ[n]? = some (.froz t cs)) → ∃ g cur fr, M.ρ n = some g ∧ okW X noEnv w g ∧ w.heap[g]? = some (.cells cur t fr) ∧ CellsOk P w (okW X noEnv w) noρ cs cur) := by
      rintro n t cs (hn | hn)
      · obtain ⟨g, cur, fr, f1, f2, f3, f4, f5⟩ := h.ob n _ hn
        exact ⟨g, cur, fr, f1, hok n g ((f2 g).2 rfl), f3, f5.later_no hl⟩
      · obtain ⟨f0, g, cur, fr, f1, f2, f3, f5⟩ := h.ob n _ hn
        exact ⟨g, cur, fr, f1, ⟨f2.1, f2.2.1, fun _ h => h⟩, f3, f5.later_no hl⟩
    -- cells that are read, those at which what is handed over is closed
    have rdv : ∀ (n : Nat) (t : TypeId) (cs : List V), (σ[n]? = some (.var t cs) ∨ σ[n]? = some (.own t cs)) →
        ∃ g cur fr, M.ρ n = some g ∧ okW X noEnv w g ∧ w.heap[g]? = some (.cells cur t fr) ∧ ∀ (j : Nat) v, (cs.map (cellB P (borrowN P σ f)))[j]? = some v → v.closed = true → ∃ u, cur[j]? = some u ∧ u.oneCell' = true ∧ RV P w (okW X noEnv w) v noρ u := by
      rintro n t cs (hn | hn)
      · obtain ⟨g, cur, fr, f1, f2, f3, f4, f5⟩ := h.ob n _ hn
        refine ⟨g, cur, fr, f1, hok n g ((f2 g).2 rfl), f3, fun j v hv hcv => ?_⟩
        rw [List.getElem?_map] at hv
        cases hcj : cs[j]? with
        | none => simp [hcj] at hv
        | some v0 =>
          simp [hcj] at hv; subst hv
          obtain ⟨u, a1, a2, a3⟩ := f5 j v0 hcj
          refine ⟨u, a1, a2, ?_⟩
          have key : cellB P (borrowN P σ f) v0 = (borrowN P σ f v0).weak → RV P w (okW X noEnv w) (cellB P (borrowN P σ f) v0) noρ u := fun e => by
            rw [e] at hcv ⊢; exact (ih _ _ (weak_closed hcv) a3).weak
          cases v0 with
          | tree t' cs' len => exact a3.elim
          | _ => exact key rfl
      · obtain ⟨g, cur, fr, kid, f1, f2, f3, f4, f5, f6, f7⟩ := h.ob n _ hn
        refine ⟨g, cur, fr, f1, hok n g (f4 g (.inl rfl)), f2, fun j v hv hcv => ?_⟩
        rw [List.getElem?_map] at hv
        have h8 := f7 j
        cases hcj : cs[j]? with
        | none => simp [hcj] at hv
        | some v0 =>
          simp [hcj] at hv; subst hv
          rw [hcj] at h8
          obtain ⟨u, a1, a2, a3⟩ := h8
          refine ⟨u, a1, a2, ?_⟩
          have key : (kid j = none ∧ RV P w (okW X M w) v0 M.ρ u) → cellB P (borrowN P σ f) v0 = (borrowN P σ f v0).weak → RV P w (okW X noEnv w) (cellB P (borrowN P σ f) v0) noρ u := fun h e => by
            rw [e] at hcv ⊢; exact (ih _ _ (weak_closed hcv) h.2).weak
          cases v0 with
          | tree t' cs' len =>
            obtain ⟨g', o, cap, cur', fr', k1, k2, k3, k4, k5, k6, k7, k8, k9⟩ := a3
            simp only [cellB, RV]
            refine ⟨_, cap, k2, k3, k4, fun hne => ⟨_, rfl, hok n g' (f4 g' (.inr ⟨j, k1⟩)), ?_⟩⟩
            have hc : 0 < cap := by
              rcases Nat.eq_zero_or_pos cap with hz | hz
              · have : len = 0 := by omega
                subst this; simp at hne
              · exact hz
            rw [k5 hc]
            have := RCs_of_row (off := 0) k6 (k8.later_no hl) (len * P.cellsOf t')
            simpa using this
          | _ => exact key a3 rfl
    have rcs : ∀ (g o : Nat) (cur : Array Value) (t : TypeId) (fr : Nat × Nat) (cs : List V), w.heap[g]? = some (.cells cur t fr) → (∀ (j : Nat) v, cs[j]? = some v → ∃ u, cur[o + j]? = some u ∧ u.oneCell' = true ∧ RV P w (okW X noEnv w) v noρ u) → RCs P w (okW X noEnv w) cs ⟨g, o, none⟩ := by
      intro g o cur t fr cs hg hc
      refine RCs.mk fun i v hv => ?_
      obtain ⟨u, e1, e2, e3⟩ := hc i v hv
      exact ⟨u, by rw [add_plain, cell_of_heap hg]; exact e1, e2, e3⟩
    cases v with
    | sl ow n off len =>
      have same : borrowN P σ (f + 1) (.sl ow n off len) = .sl ow n off len → RV P w (okW X noEnv w) (borrowN P σ (f + 1) (.sl ow n off len)) noρ u := fun e => by rw [e] at hc; cases hc
      simp only [RV] at hv
      obtain ⟨g', o, cap, h1, rfl, h2, h3, h4, h5⟩ := hv
      have row : ∀ (cur : Array Value) (t : TypeId) (fr : Nat × Nat) (cs : List V), okW X noEnv w g' → w.heap[g']? = some (.cells cur t fr) → (∀ (j : Nat) v, ((cs.drop off).take (len * P.cellsOf t))[j]? = some v → ∃ u, cur[off + j]? = some u ∧ u.oneCell' = true ∧ RV P w (okW X noEnv w) v noρ u) →
          RV P w (okW X noEnv w) (.frz ((cs.drop off).take (len * P.cellsOf t)) len) noρ (.slice (some ⟨g', o, none⟩) len cap) := by
        intro cur t fr cs q1 q2 q3
        simp only [RV]
        refine ⟨_, cap, rfl, h2, h3, fun hne => ⟨_, rfl, q1, ?_⟩⟩
        have hc : 0 < cap := by
          rcases Nat.eq_zero_or_pos cap with hz | hz
          · have : len = 0 := by omega
            subst this; simp at hne
          · exact hz
        rw [h4 hc]
        exact rcs g' off cur t fr _ q2 q3
      have dt : ∀ (cs : List V) (k : Nat) (j : Nat) v, ((cs.drop off).take k)[j]? = some v → cs[off + j]? = some v := fun cs k j v hv => by
        rw [List.getElem?_take] at hv; split at hv
        · rw [List.getElem?_drop] at hv; exact hv
        · cases hv
      unfold borrowN at hc ⊢ same
      cases ho : σ[n]? with
      | none => rw [ho] at same; exact same rfl
      | some ob =>
        rw [ho] at hc same
        cases ob with
        | arr t cs | froz t cs =>
          simp only at hc same ⊢
          split
          · obtain ⟨g, cur, fr, f1, f2, f3, f4⟩ := rd n t cs (by first | exact .inl ho | exact .inr ho)
            rw [h1] at f1; cases f1
            exact row cur t fr cs f2 f3 fun j v hv => f4 (off + j) v (dt cs _ j v hv)
          · rename_i hle; rw [if_neg hle] at same; exact same rfl
        | own t cs =>
          simp only at hc same ⊢
          split
          · rename_i hle
            obtain ⟨g, cur, fr, f1, f2, f3, f4⟩ := rdv n t cs (.inr ho)
            rw [h1] at f1; cases f1
            exact row cur t fr (cs.map (cellB P (borrowN P σ f))) f2 f3 fun j v hv => f4 (off + j) v (dt _ _ j v hv) (closed_take hle.2 v (List.mem_of_getElem? (dt _ _ j v hv)))
          · rename_i hle; rw [if_neg hle] at same; exact same rfl
        | _ => exact same rfl
    | ptr n off =>
      have same : borrowN P σ (f + 1) (.ptr n off) = .ptr n off → RV P w (okW X noEnv w) (borrowN P σ (f + 1) (.ptr n off)) noρ u := fun e => by rw [e] at hc; cases hc
      simp only [RV] at hv
      obtain ⟨g', h1, rfl⟩ := hv
      have pt : ∀ (cur : Array Value) (t : TypeId) (fr : Nat × Nat) (cs : List V), okW X noEnv w g' → w.heap[g']? = some (.cells cur t fr) → (∀ (j : Nat) v, cs[j]? = some v → ∃ u, cur[j]? = some u ∧ u.oneCell' = true ∧ RV P w (okW X noEnv w) v noρ u) →
          RV P w (okW X noEnv w) (.fptr (cs.drop off)) noρ (.pointer (some ⟨g', off, none⟩)) := by
        intro cur t fr cs q1 q2 q3
        simp only [RV]
        exact ⟨_, rfl, fun _ => ⟨q1, rcs g' off cur t fr _ q2 fun j v hv => q3 (off + j) v (by rw [List.getElem?_drop] at hv; exact hv)⟩⟩
      unfold borrowN at hc ⊢ same
      cases ho : σ[n]? with
      | none => rw [ho] at same; exact same rfl
      | some ob =>
        rw [ho] at hc same
        cases ob with
        | arr t cs | froz t cs =>
          obtain ⟨g, cur, fr, f1, f2, f3, f4⟩ := rd n t cs (by first | exact .inl ho | exact .inr ho)
          rw [h1] at f1; cases f1
          exact pt cur t fr cs f2 f3 f4
        | var t cs | own t cs =>
          simp only at hc same ⊢
          split
          · rename_i hle
            obtain ⟨g, cur, fr, f1, f2, f3, f4⟩ := rdv n t cs (by first | exact .inl ho | exact .inr ho)
            rw [h1] at f1; cases f1
            exact pt cur t fr _ f2 f3 fun j v hv => f4 j v hv (closed_take hle v (List.mem_of_getElem? hv))
          · rename_i hle; rw [if_neg hle] at same; exact same rfl
        | _ => exact same rfl
    | fn g x y =>
      simp only [RV, borrowN] at hv ⊢
      simp only [borrowN, V.closed, Bool.and_eq_true] at hc
      obtain ⟨us, vs, h1, h2, h3⟩ := hv
      exact ⟨us, vs, h1, ihs _ _ hc.1 h2, ihs _ _ hc.2 h3⟩
    | agg cs =>
      simp only [RV, borrowN] at hv ⊢
      simp only [borrowN, V.closed] at hc
      obtain ⟨us, h1, h2, h3⟩ := hv
      exact ⟨us, h1, h2, ihs _ _ hc h3⟩
    | iface t v =>
      simp only [RV, borrowN] at hv ⊢
      simp only [borrowN, V.closed] at hc
      obtain ⟨u', h1, h2⟩ := hv
      exact ⟨u', h1, ih _ _ hc h2⟩
    | _ => exact RV.noren_ hl _ _ (RV.of_closed _ _ hc hv)

theorem borrow_rv {v : V} {u : Value} (h : Sat P X M σ w) (hc : (borrowV P σ v).closed = true) (hv : RV P w (okW X M w) v M.ρ u) : RV P w (okW X noEnv w) (borrowV P σ v) noρ u := borrowN_rv h 4 v u hc hv

theorem borrowTo_rvs (h : Sat P X M σ w) : ∀ (args bs : List V) (us : List Value), BorrowTo P σ args bs → V.closeds bs = true → RVs P w (okW X M w) args M.ρ us → RVs P w (okW X noEnv w) bs noρ us := by
  intro args
  induction args with
  | nil => intro bs us hb _ hv; simp only [BorrowTo] at hb; subst hb; simpa [RVs] using hv
  | cons x args ih =>
    intro bs us hb hc hv
    simp only [RVs] at hv
    obtain ⟨u, us', rfl, h1, h2⟩ := hv
    simp only [BorrowTo] at hb
    obtain ⟨b, bs', rfl, hb1, hb2⟩ := hb
    simp only [V.closeds, Bool.and_eq_true] at hc
    simp only [RVs]
    refine ⟨u, us', rfl, ?_, ih bs' us' hb2 hc.2 h2⟩
    rcases hb1 with rfl | rfl
    · exact borrow_rv h hc.1 h1
    · exact (borrow_rv h (weak_closed hc.1) h1).weak

/-- A call that is lent 'ns'. -/
def callL (P : Program) (f : FuncId) (args : List V) (st : St) (k kp : V → St → Prop) : Prop :=
  ∃ (ns : List Nat) (R : Out → List Ob → Prop), ns.Nodup ∧ (∀ n ∈ ns, n < st.σ.length) ∧ ACalls P f (V.rens (idx ns) args) (sel ns st.σ) R ∧
    ∀ o σ', R o σ' → ns.length ≤ σ'.length → match o with
      | .ret v => k (v.ren (back ns st.σ.length)) { st with σ := merge ns st.σ σ' }
      | .pan v => kp (v.ren (back ns st.σ.length)) { st with σ := merge ns st.σ σ' }

/-- A call, by names: it reads alone, or is lent names, or is handed rows that nobody writes any more. -/
def callVC (P : Program) (f : FuncId) (args : List V) (st : St) (k kp : V → St → Prop) : Prop :=
  (∃ bs v, BorrowTo P st.σ args bs ∧ V.closeds bs = true ∧ ACalls P f bs [] (fun o s => o = .ret v ∧ s = []) ∧ v.scalar = true ∧ k v st) ∨
  callL P f args st k kp ∨ callL P f (closeVs P args st.σ).1 { st with σ := (closeVs P args st.σ).2 } k kp

theorem callL_sound (h : Rel P E M st a w) {f : FuncId} {args : List V} {us : List Value} {k kp : V → St → Prop} (hv : RVs P w (okW E.X M w) args M.ρ us) (hk : callL P f args st k kp) :
    Enters P f ∧ Calls P f us.toArray w fun e w' => match e with
      | .returned u => ∃ M' st' v, k v st' ∧ Rel P E M' st' a w' ∧ RV P w' (okW E.X M' w') v M'.ρ u
      | .panicked chain => ∃ M' st' v u, chain = [{ v := u, recovered := false }] ∧ kp v st' ∧ Rel P E M' st' a w' ∧ RV P w' (okW E.X M' w') v M'.ρ u
      | .outgrown => False := by
  obtain ⟨ns, R, hd, hlt, hc, hk⟩ := hk
  refine ⟨hc.1, fun cs => ?_⟩
  obtain ⟨e, w', fr, h1, h2⟩ := hc.2 (lendX E.X M ns) (M.sel ns) w us (h.sat.lend hd) (RVs.ren_ (later_lend ns) (idx_ren ns) _ _ hv) cs
  refine ⟨e, w', fr, ?_, h2⟩
  have hsl : (sel ns st.σ).length = ns.length := by simp [sel]
  rw [hsl] at h1
  cases e with
  | returned u =>
    obtain ⟨M', σ', v, g1, g2, g3, g4, g5⟩ := h1
    obtain ⟨r1, r2⟩ := h.merge hd hlt g2 g3 g4
    exact ⟨_, _, _, hk _ _ g1 g3, r1, r2 _ _ g5⟩
  | panicked c =>
    obtain ⟨M', σ', v, u, g0, g1, g2, g3, g4, g5⟩ := h1
    obtain ⟨r1, r2⟩ := h.merge hd hlt g2 g3 g4
    exact ⟨_, _, _, _, g0, hk _ _ g1 g3, r1, r2 _ _ g5⟩
  | outgrown => exact h1.elim

theorem callVC_sound (h : Rel P E M st a w) {f : FuncId} {args : List V} {us : List Value} {k kp : V → St → Prop} (hv : RVs P w (okW E.X M w) args M.ρ us) (hk : callVC P f args st k kp) :
    Enters P f ∧ Calls P f us.toArray w fun e w' => match e with
      | .returned u => ∃ M' st' v, k v st' ∧ Rel P E M' st' a w' ∧ RV P w' (okW E.X M' w') v M'.ρ u
      | .panicked chain => ∃ M' st' v u, chain = [{ v := u, recovered := false }] ∧ kp v st' ∧ Rel P E M' st' a w' ∧ RV P w' (okW E.X M' w') v M'.ρ u
      | .outgrown => False := by
  rcases hk with ⟨bs, v, hbt, hcl, hc, hsc, hk⟩ | hk
  · have hl0 : Sat P E.X noEnv [] w := ⟨fun n o ho => by simp at ho, fun _ _ => rfl, fun _ _ _ h => h, fun _ _ _ h => h.elim, fun _ _ h => h.elim, fun _ _ h => h.elim, h.sat.Xlt⟩
    have hvs : RVs P w (okW E.X noEnv w) bs noEnv.ρ us := borrowTo_rvs h.sat args bs us hbt hcl hv
    refine ⟨hc.1, fun cs => ?_⟩
    obtain ⟨e, w', fr, h1, h2⟩ := hc.2 E.X noEnv w us hl0 hvs cs
    refine ⟨e, w', fr, ?_, h2⟩
    cases e with
    | returned u =>
      obtain ⟨M', σ', v', ⟨g1, g1'⟩, g2, g3, g4, g5⟩ := h1
      cases g1
      have ht : Turn (fun _ => False) w w' := g4.turn.mono fun _ ⟨_, hf⟩ => hf
      refine ⟨M, st, v, hk, h.step_same (h.sat.same ht) (ht.mono fun _ hf => hf.elim) (fun _ _ h => h) (fun n g hg => .inl ⟨n, hg⟩) (fun _ _ => rfl) h.len, ?_⟩
      cases v <;> simp only [V.scalar, Bool.false_eq_true] at hsc <;> simpa [RV] using g5
    | panicked c => obtain ⟨M', σ', v', u, g0, ⟨g1, _⟩, _⟩ := h1; cases g1
    | outgrown => exact h1.elim
  rcases hk with hk | hk
  · exact callL_sound h hv hk
  · obtain ⟨M', s1, s2, s3, s4, s5⟩ := close_rvs h.sat hv
    exact callL_sound (h.less s1 s2 s3 s4) s5 hk

end
end Go.Proofs.Ytncnnbjhginpfaa
