/- Steps of the account alone: what is known is put otherwise, no machine moves. Conditions: none; plain definitions and lemmas. -/
import Derived.Test.YtncnnbjhginpfaaCxOc
namespace Go.Proofs.Ytncnnbjhginpfaa
set_option linter.unusedVariables false
set_option linter.unusedSimpArgs false
set_option linter.unnecessarySimpa false
open Go.RowKit

/-- Of the slots those in 'live' are kept, of the objects 'ns'; what was lent stays. -/
def keepL (live ns : List Nat) : Nat → List V → List V
  | _, [] => []
  | t, v :: vs => (if live.contains t then v.ren (idx ns) else .undef) :: keepL live ns (t + 1) vs
def St.keep (live ns : List Nat) (st : St) : St := ⟨keepL live ns 0 st.slots, sel ns st.σ⟩
def nodupB : List Nat → Bool
  | [] => true
  | n :: ns => !ns.contains n && nodupB ns
def prefB : Nat → Nat → List Nat → Bool
  | _, 0, _ => true
  | _, _ + 1, [] => false
  | i, m + 1, n :: ns => n == i && prefB (i + 1) m ns
def nsOk (n0 : Nat) (ns : List Nat) : Bool := nodupB ns && prefB 0 n0 ns

/-- Put otherwise, the state is one of Φ. -/
def GS (P : Program) (n0 : Nat) (st : St) (Φ : St → Prop) : Prop :=
  ∀ (E : En) (M : Env) (a : Act) (w : World), E.n0 = n0 → Rel P E M st a w → ∃ M' st', Φ st' ∧ Rel P E M' st' a w

section
variable {P : Program} {E : En} {M M' : Env} {st st' : St} {a : Act} {w w' : World} {X : Nat → Prop} {σ : List Ob} {n0 : Nat} {Φ : St → Prop}

theorem keepL_get (live ns : List Nat) : ∀ (vs : List V) (k t : Nat), (keepL live ns k vs)[t]? = (vs[t]?).map fun v => if live.contains (k + t) then v.ren (idx ns) else .undef := by
  intro vs
  induction vs with
  | nil => intro k t; simp [keepL]
  | cons v vs ih =>
    intro k t
    cases t with
    | zero => simp [keepL]
    | succ t => simp only [keepL, List.getElem?_cons_succ, ih]; congr 2; funext v; congr 3; omega

theorem nodupB_spec {ns : List Nat} (h : nodupB ns = true) : ns.Nodup := by
  induction ns with
  | nil => exact List.nodup_nil
  | cons n ns ih =>
    simp only [nodupB, Bool.and_eq_true, Bool.not_eq_true'] at h
    refine List.nodup_cons.2 ⟨fun hm => ?_, ih h.2⟩
    have := List.contains_iff_mem.2 hm
    rw [h.1] at this; cases this

theorem prefB_spec : ∀ {m i : Nat} {ns : List Nat}, prefB i m ns = true → ∀ n, n < m → ns[n]? = some (i + n) := by
  intro m
  induction m with
  | zero => intro i ns _ n hn; omega
  | succ m ih =>
    intro i ns h n hn
    cases ns with
    | nil => cases h
    | cons a ns =>
      simp only [prefB, Bool.and_eq_true, beq_iff_eq] at h
      cases n with
      | zero => simp [h.1]
      | succ n =>
        rw [List.getElem?_cons_succ, ih h.2 n (by omega)]
        congr 1; omega

theorem Rel.keep (h : Rel P E M st a w) {live ns : List Nat} (hn : nsOk E.n0 ns = true) : Rel P E (M.sel ns) (st.keep live ns) a w := by
  simp only [nsOk, Bool.and_eq_true] at hn
  have hd := nodupB_spec hn.1
  have hp := prefB_spec hn.2
  refine ⟨h.sat.sel hd, fun t => ?_, ?_, h.df.step (Turn.refl _ _) (fun n g ⟨m, _, hf⟩ => .inl ⟨m, hf⟩), h.fr, fun n g ⟨m, _, hf⟩ => h.own m g hf, fun n hlt => ?_, ?_⟩
  · have h1 := h.sl t
    simp only [St.slot, St.keep, List.getD_eq_getElem?_getD, keepL_get] at h1 ⊢
    cases hc : st.slots[t]? with
    | none => simp [RV]
    | some v =>
      simp only [hc, Option.getD_some, Option.map_some] at h1 ⊢
      split
      · exact RV.ren_ (later_sel ns) (idx_ren ns) _ _ h1
      · simp [RV]
  · rw [h.sz]
    simp only [St.keep]
    apply Nat.le_antisymm
    · rcases Nat.lt_or_ge (keepL live ns 0 st.slots).length st.slots.length with hl | hl
      · have := keepL_get live ns st.slots 0 (keepL live ns 0 st.slots).length
        rw [List.getElem?_eq_none (Nat.le_refl _), List.getElem?_eq_getElem hl] at this
        cases this
      · exact hl
    · rcases Nat.lt_or_ge st.slots.length (keepL live ns 0 st.slots).length with hl | hl
      · have := keepL_get live ns st.slots 0 st.slots.length
        rw [List.getElem?_eq_none (Nat.le_refl _), List.getElem?_eq_getElem hl] at this
        cases this
      · exact hl
  · have := hp n hlt
    rw [Nat.zero_add] at this
    simp only [Env.sel, this, Option.bind_some]
    exact h.lent n hlt
  · simp only [St.keep, sel, List.length_map]
    rcases Nat.eq_zero_or_pos E.n0 with hz | hz
    · omega
    · have := hp (E.n0 - 1) (by omega)
      have := (List.getElem?_eq_some_iff.1 this).1
      omega

theorem Rel.learn (h : Rel P E M st a w) {d : Nat} {v : V} (hv : RV P w (okW E.X M w) v M.ρ (a.tmps.getD d undef)) : Rel P E M ⟨st.slots.set d v, st.σ⟩ a w := by
  refine ⟨h.sat, fun t => ?_, by simpa using h.sz, h.df, h.fr, h.own, h.lent, h.len⟩
  have h1 := h.sl t
  simp only [St.slot, List.getD_eq_getElem?_getD, List.getElem?_set] at h1 ⊢
  split
  · rename_i e
    subst e
    split
    · exact hv
    · simp [RV]
  · exact h1

theorem GS.done (h : Φ st) : GS P n0 st Φ := fun _ M _ _ _ hr => ⟨M, st, h, hr⟩
theorem GS.mono {Ψ : St → Prop} (h : GS P n0 st Φ) (hi : ∀ s, Φ s → Ψ s) : GS P n0 st Ψ := fun E M a w he hr => let ⟨M', st', h1, h2⟩ := h E M a w he hr; ⟨M', st', hi _ h1, h2⟩
theorem GS.step (h : ∀ (E : En) (M : Env) (a : Act) (w : World), E.n0 = n0 → Rel P E M st a w → ∃ M', Rel P E M' st' a w) (hk : GS P n0 st' Φ) : GS P n0 st Φ := fun E M a w he hr =>
  let ⟨M', h1⟩ := h E M a w he hr; hk E M' a w he h1
theorem GS.keep (live ns : List Nat) (hn : nsOk n0 ns = true) (hk : GS P n0 (st.keep live ns) Φ) : GS P n0 st Φ :=
  GS.step (fun E M a w he hr => ⟨_, hr.keep (by rw [he]; exact hn)⟩) hk

/-- A slot's row is never to be written again. -/
theorem GS.closeSlot (t : Nat) (hk : GS P n0 ⟨st.slots.set t (closeV P (st.slot t) st.σ).1, (closeV P (st.slot t) st.σ).2⟩ Φ) : GS P n0 st Φ := by
  refine GS.step (fun E M a w he hr => ?_) hk
  obtain ⟨M', s1, s2, s3, s4, s5⟩ := close_rv hr.sat (hr.sl t)
  have h1 := hr.less s1 s2 s3 s4
  exact ⟨M', h1.learn (d := t) s5⟩

/-- A row or a variable, as one that may own rows. -/
theorem GS.lift (n : Nat) (t : TypeId) (cs : List V) (ho : st.σ[n]? = some (.arr t cs) ∨ st.σ[n]? = some (.var t cs)) (hk : GS P n0 (st.setOb n (.own t cs)) Φ) : GS P n0 st Φ := by
  refine GS.step (fun E M a w he hr => ⟨M, ?_⟩) hk
  have key : ∀ o, st.σ[n]? = some o → (∃ g cur fr, M.ρ n = some g ∧ (∀ g', M.fp n g' ↔ g' = g) ∧ w.heap[g]? = some (.cells cur t fr) ∧ FrOk fr cur.size ∧ CellsOk P w (okW E.X M w) M.ρ cs cur) → Rel P E M (st.setOb n (.own t cs)) a w := fun o hn h => by
    obtain ⟨g, cur, fr, h1, h2, h3, h4, h5⟩ := h
    refine hr.step_same (hr.sat.update (List.getElem?_eq_some_iff.1 hn).1 (.own t cs) (Turn.refl _ _) ⟨g, cur, fr, fun _ => none, h1, h3, h4, fun b hb => (h2 b).2 (by simpa using hb), by simp, by simp, fun j => ?_⟩) (Turn.refl _ _) (fun _ _ h => h) (fun n g h => .inl ⟨n, h⟩) (fun _ _ => rfl) (by simpa using hr.len)
    cases hc : cs[j]? with
    | none => rfl
    | some v => obtain ⟨u, e1, e2, e3⟩ := h5 j v hc; exact ⟨u, e1, e2, OwnCell.ofRV e3⟩
  rcases ho with hn | hn
  · obtain ⟨g, cur, fr, h1, h2, h3, h4, h5⟩ := hr.sat.ob n _ hn
    exact key _ hn ⟨g, cur, fr, h1, h2, h3, h4, fun j v hv => by obtain ⟨u, e1, e2, e3⟩ := h5 j v hv; exact ⟨u, e1, e2, RV.of_no _ _ e3⟩⟩
  · exact key _ hn (hr.sat.ob n _ hn)

/-- A row that is owned gets the next name. -/
theorem GS.pluck (n j : Nat) (t t' : TypeId) (cs cs' : List V) (len : Nat) (hn : st.σ[n]? = some (.own t cs)) (hj : cs[j]? = some (.tree t' cs' len))
    (hk : GS P n0 ⟨st.slots, st.σ.set n (.own t (cs.set j (.sl true st.σ.length 0 len))) ++ [.arr t' cs']⟩ Φ) : GS P n0 st Φ := by
  refine GS.step (fun E M a w he hr => ?_) hk
  have hnl := (List.getElem?_eq_some_iff.1 hn).1
  have hjl := (List.getElem?_eq_some_iff.1 hj).1
  obtain ⟨g, cur, fr, kid, h1, h2, h3, h4, h5, h6, h7⟩ := hr.sat.ob n _ hn
  have h7j := h7 j
  rw [hj] at h7j
  obtain ⟨u, u1, u2, g', o, cap, cur', fr', k1, k2, k3, k4, k5, k6, k7, k8, k9⟩ := h7j
  have hfp' : M.fp n g' := h4 g' (.inr ⟨j, k1⟩)
  have hne : g' ≠ g := fun e => h5 j (e ▸ k1)
  let M' : Env := ⟨fun i => if i = st.σ.length then some g' else M.ρ i, fun i b => if i = st.σ.length then b = g' else if i = n then M.fp n b ∧ b ≠ g' else M.fp i b⟩
  have hρ : ∀ i b, M.ρ i = some b → M'.ρ i = some b := fun i b hi => by
    show (if i = st.σ.length then some g' else M.ρ i) = some b
    split
    · rename_i e; subst e; rw [hr.sat.dom _ (Nat.le_refl _)] at hi; cases hi
    · exact hi
  have hfp : ∀ i b, M'.fp i b → ∃ m, M.fp m b := fun i b hi => by
    simp only [M'] at hi
    split at hi
    · exact ⟨n, hi ▸ hfp'⟩
    · split at hi
      · exact ⟨n, hi.1⟩
      · exact ⟨i, hi⟩
  have hl : Later w w (okW E.X M w) (okW E.X M' w) := ⟨fun b _ _ _ hb _ => ⟨⟨hb.1, hb.2.1, fun i hi => by obtain ⟨m, hm⟩ := hfp i b hi; exact hb.2.2 m hm⟩, rfl⟩, fun _ _ h => h⟩
  have hs : Sat P E.X M' (st.σ.set n (.own t (cs.set j (.sl true st.σ.length 0 len))) ++ [.arr t' cs']) w := by
    refine ⟨fun i o' ho => ?_, fun i hi => ?_, fun i b hi => ?_, fun i m b h1' h2' => ?_, fun i b hi hx => ?_, fun i b hi => ?_, hr.sat.Xlt⟩
    · rw [List.getElem?_append] at ho
      simp only [List.length_set] at ho
      split at ho
      · rename_i hlt
        have hine : i ≠ st.σ.length := by omega
        by_cases e : i = n
        · subst e
          rw [List.getElem?_set_self hnl] at ho
          cases ho
          refine ⟨g, cur, fr, fun x => if x = j then none else kid x, hρ _ _ h1, h2, h3, fun b hbb => ?_, fun x => ?_, fun x y b hx hy => ?_, fun x => ?_⟩
          · simp only [M', hine, if_false, if_true]
            rcases hbb with hb | ⟨x, hx⟩
            · exact ⟨h4 b (.inl hb), by rw [hb]; exact fun e => hne e.symm⟩
            · by_cases e : x = j
              · simp [e] at hx
              · simp [e] at hx
                exact ⟨h4 b (.inr ⟨x, hx⟩), fun hb => e (h6 x j g' (hb ▸ hx) k1)⟩
          · by_cases e : x = j
            · simp [e]
            · simp [e]; exact h5 x
          · by_cases e : x = j
            · simp [e] at hx
            · by_cases e' : y = j
              · simp [e'] at hy
              · simp [e] at hx; simp [e'] at hy; exact h6 x y b hx hy
          · by_cases e : x = j
            · subst e
              rw [List.getElem?_set_self hjl]
              refine ⟨u, u1, u2, by simp, ?_⟩
              simp only [RV]
              refine ⟨g', o, cap, by simp [M'], k2, k3, k4, k5, fun _ hc => ⟨t', cur'.size, shape_cells k6, ?_⟩⟩
              have := k9 hc; omega
            · rw [List.getElem?_set_ne (fun h => e h.symm)]
              have h8 := h7 x
              simp only [e, if_false]
              cases hc : cs[x]? with
              | none => rw [hc] at h8; exact h8
              | some v =>
                rw [hc] at h8
                obtain ⟨u', a1, a2, a3⟩ := h8
                refine ⟨u', a1, a2, ?_⟩
                have := a3.keep (π := some) hl (fun _ _ => rfl) (ρ' := M'.ρ) (fun p q b e hb => by cases e; exact hρ p b hb)
                rwa [V.ren_some] at this
        · rw [List.getElem?_set_ne (fun h => e h.symm)] at ho
          exact (hr.sat.ob i o' ho).keep_same hl (fun _ _ => rfl) (by show (if i = st.σ.length then some g' else M.ρ i) = _; rw [if_neg hine]) (fun b => by simp [M', hine, e]) hρ
      · rename_i hge
        have e : i = st.σ.length := by
          have := (List.getElem?_eq_some_iff.1 ho).1
          simp at this; omega
        subst e
        simp at ho
        subst ho
        exact ⟨g', cur', fr', by simp [M'], fun b => by simp [M'], k6, k7, k8.later_no hl⟩
    · simp at hi
      show (if i = st.σ.length then some g' else M.ρ i) = none
      rw [if_neg (by omega)]; exact hr.sat.dom i (by omega)
    · simp at hi
      simp only [M']
      rw [if_neg (by omega), if_neg (by omega)]; exact hr.sat.out i b (by omega)
    · simp only [M'] at h1' h2'
      split at h1' <;> split at h2'
      · omega
      · split at h2'
        · exact absurd h1' h2'.2
        · rename_i hm; exact absurd (hr.sat.disj m n b h2' (h1' ▸ hfp')) hm
      · split at h1'
        · exact absurd h2' h1'.2
        · rename_i hm; exact absurd (hr.sat.disj i n b h1' (h2' ▸ hfp')) hm
      · split at h1' <;> split at h2'
        · omega
        · rename_i e _; rw [e]; exact hr.sat.disj n m b h1'.1 h2'
        · rename_i e; rw [e]; exact hr.sat.disj i n b h1' h2'.1
        · exact hr.sat.disj i m b h1' h2'
    · obtain ⟨m, hm⟩ := hfp i b hi; exact hr.sat.nX m b hm hx
    · obtain ⟨m, hm⟩ := hfp i b hi; exact hr.sat.lt m b hm
  refine ⟨M', hr.step_same hs (Turn.refl _ _) hρ (fun i b hi => .inl (hfp i b hi)) (fun i hi => ?_) (by have := hr.len; simp; omega)⟩
  show (if i = st.σ.length then some g' else M.ρ i) = _
  rw [if_neg (by have := hr.len; omega)]

/-- A row by name is owned by another from here on. -/
theorem GS.tuck (n j m : Nat) (t t' : TypeId) (cs cs' : List V) (len : Nat) (hn : st.σ[n]? = some (.own t cs)) (hj : cs[j]? = some (.sl true m 0 len)) (hm : st.σ[m]? = some (.arr t' cs')) (hnm : n ≠ m)
    (hk : GS P n0 ⟨st.slots, (st.σ.set n (.own t (cs.set j (.tree t' cs' len)))).set m .gone⟩ Φ) : GS P n0 st Φ := by
  refine GS.step (fun E M a w he hr => ?_) hk
  have hnl := (List.getElem?_eq_some_iff.1 hn).1
  have hml := (List.getElem?_eq_some_iff.1 hm).1
  have hjl := (List.getElem?_eq_some_iff.1 hj).1
  obtain ⟨g, cur, fr, kid, h1, h2, h3, h4, h5, h6, h7⟩ := hr.sat.ob n _ hn
  obtain ⟨g', cur', fr', m1, m2, m3, m4, m5⟩ := hr.sat.ob m _ hm
  have h7j := h7 j
  rw [hj] at h7j
  obtain ⟨u, u1, u2, u3⟩ := h7j
  obtain ⟨kj, u4⟩ := u3.plain (by simp)
  simp only [RV] at u4
  obtain ⟨g0, o, cap, v1, v2, v3, v4, v5, v6⟩ := u4
  rw [m1] at v1; cases v1
  have hfm : M.fp m g' := (m2 g').2 rfl
  have hfn : ¬ M.fp n g' := fun hf => hnm (hr.sat.disj n m g' hf hfm)
  let M' : Env := ⟨M.ρ, fun i b => if i = m then False else if i = n then M.fp n b ∨ b = g' else M.fp i b⟩
  have hfp : ∀ i b, M'.fp i b → ∃ m, M.fp m b := fun i b hi => by
    simp only [M'] at hi
    split at hi
    · exact hi.elim
    · split at hi
      · exact hi.elim (fun h => ⟨n, h⟩) fun h => ⟨m, h ▸ hfm⟩
      · exact ⟨i, hi⟩
  have hl : Later w w (okW E.X M w) (okW E.X M' w) := ⟨fun b _ _ _ hb _ => ⟨⟨hb.1, hb.2.1, fun i hi => by obtain ⟨m, hm⟩ := hfp i b hi; exact hb.2.2 m hm⟩, rfl⟩, fun _ _ h => h⟩
  have hs : Sat P E.X M' ((st.σ.set n (.own t (cs.set j (.tree t' cs' len)))).set m .gone) w := by
    refine ⟨fun i o' ho => ?_, fun i hi => hr.sat.dom i (by simpa using hi), fun i b hi => ?_, fun i k b h1' h2' => ?_, fun i b hi hx => ?_, fun i b hi => ?_, hr.sat.Xlt⟩
    · by_cases em : i = m
      · subst em
        rw [List.getElem?_set_self (by simpa using hml)] at ho
        cases ho
        simp [OkOb, M']
      · rw [List.getElem?_set_ne (fun h => em h.symm)] at ho
        by_cases e : i = n
        · subst e
          rw [List.getElem?_set_self hnl] at ho
          cases ho
          refine ⟨g, cur, fr, fun x => if x = j then some g' else kid x, h1, h2, h3, fun b hbb => ?_, fun x => ?_, fun x y b hx hy => ?_, fun x => ?_⟩
          · simp only [M', em, if_false, if_true]
            rcases hbb with hb | ⟨x, hx⟩
            · exact .inl (h4 b (.inl hb))
            · by_cases e : x = j
              · simp [e] at hx; exact .inr hx.symm
              · simp [e] at hx; exact .inl (h4 b (.inr ⟨x, hx⟩))
          · by_cases e : x = j
            · simp [e]; intro e'; exact hfn (h4 g' (.inl e'))
            · simp [e]; exact h5 x
          · by_cases e : x = j <;> by_cases e' : y = j
            · omega
            · simp [e] at hx; simp [e'] at hy
              exact absurd (h4 g' (.inr ⟨y, by rw [hx]; exact hy⟩)) hfn
            · simp [e] at hx; simp [e'] at hy
              exact absurd (h4 g' (.inr ⟨x, by rw [hy]; exact hx⟩)) hfn
            · simp [e] at hx; simp [e'] at hy; exact h6 x y b hx hy
          · by_cases e : x = j
            · subst e
              rw [List.getElem?_set_self hjl]
              refine ⟨u, u1, u2, g', o, cap, cur', fr', by simp, v2, v3, v4, v5, m3, m4, m5.later_no hl, fun hc => ?_⟩
              obtain ⟨t1, kk, q1, q2⟩ := v6 trivial hc
              rw [shape_cells m3] at q1; cases q1
              omega
            · rw [List.getElem?_set_ne (fun h => e h.symm)]
              have h8 := h7 x
              simp only [e, if_false]
              cases hc : cs[x]? with
              | none => rw [hc] at h8; exact h8
              | some v =>
                rw [hc] at h8
                obtain ⟨u', a1, a2, a3⟩ := h8
                refine ⟨u', a1, a2, ?_⟩
                have := a3.keep (π := some) hl (fun _ _ => rfl) (ρ' := M'.ρ) (fun p q b e hb => by cases e; exact hb)
                rwa [V.ren_some] at this
        · rw [List.getElem?_set_ne (fun h => e h.symm)] at ho
          exact (hr.sat.ob i o' ho).keep_same hl (fun _ _ => rfl) rfl (fun b => by simp [M', em, e]) (fun _ _ h => h)
    · simp at hi
      simp only [M']
      rw [if_neg (by omega), if_neg (by omega)]; exact hr.sat.out i b (by omega)
    · simp only [M'] at h1' h2'
      split at h1'
      · exact h1'.elim
      · split at h2'
        · exact h2'.elim
        · split at h1' <;> split at h2'
          · omega
          · rename_i e _
            rw [e]
            rcases h1' with h | h
            · exact hr.sat.disj n k b h h2'
            · exact absurd (hr.sat.disj k m b h2' (h ▸ hfm)) (by assumption)
          · rename_i e
            rw [e]
            rcases h2' with h | h
            · exact hr.sat.disj i n b h1' h
            · exact absurd (hr.sat.disj i m b h1' (h ▸ hfm)) (by assumption)
          · exact hr.sat.disj i k b h1' h2'
    · obtain ⟨k, hk⟩ := hfp i b hi; exact hr.sat.nX k b hk hx
    · obtain ⟨k, hk⟩ := hfp i b hi; exact hr.sat.lt k b hk
  exact ⟨M', hr.step_same hs (Turn.refl _ _) (fun _ _ h => h) (fun i b hi => .inl (hfp i b hi)) (fun _ _ => rfl) (by simpa using hr.len)⟩

theorem GS.freezeOwn (n : Nat) (t : TypeId) (cs : List V) (hn : st.σ[n]? = some (.own t cs)) (hc : V.closeds (cs.map (V.frzd P)) = true)
    (hk : GS P n0 (st.setOb n (.froz t (cs.map (V.frzd P)))) Φ) : GS P n0 st Φ := by
  refine GS.step (fun E M a w he hr => ⟨M.thaw n, ?_⟩) hk
  have hnl := (List.getElem?_eq_some_iff.1 hn).1
  obtain ⟨g, cur, fr, kid, h1, h2, h3, h4, h5, h6, h7⟩ := hr.sat.ob n _ hn
  have hok : ∀ b, M.fp n b → okW E.X (M.thaw n) w b := fun b hb => ⟨hr.sat.lt n b hb, hr.sat.nX n b hb, fun k hk => by
    simp only [Env.thaw] at hk
    split at hk
    · exact hk
    · rename_i hne; exact hne (hr.sat.disj k n b hk hb)⟩
  have hl : Later w w (okW E.X M w) (okW E.X (M.thaw n) w) := later_thaw n
  have hs : Sat P E.X (M.thaw n) (st.σ.set n (.froz t (cs.map (V.frzd P)))) w := by
    refine ⟨fun i o' ho => ?_, fun i hi => hr.sat.dom i (by simpa using hi), fun i b hi => ?_, fun i k b h1' h2' => ?_, fun i b hi hx => ?_, fun i b hi => ?_, hr.sat.Xlt⟩
    · by_cases e : i = n
      · subst e
        rw [List.getElem?_set_self hnl] at ho
        cases ho
        refine ⟨fun b => by simp [Env.thaw], g, cur, fr, h1, hok g (h4 g (.inl rfl)), h2, fun j v hv => ?_⟩
        have hcl := closeds_get hc hv
        rw [List.getElem?_map] at hv
        have h8 := h7 j
        cases hcj : cs[j]? with
        | none => simp [hcj] at hv
        | some v0 =>
          simp [hcj] at hv
          subst hv
          rw [hcj] at h8
          obtain ⟨u, a1, a2, a3⟩ := h8
          refine ⟨u, a1, a2, ?_⟩
          have key : (kid j = none ∧ RV P w (okW E.X M w) v0 M.ρ u) → V.frzd P v0 = v0 → RV P w (okW E.X (M.thaw i) w) (V.frzd P v0) noρ u := fun h e => by
            rw [e] at hcl ⊢
            exact RV.noren_ hl _ _ (RV.of_closed _ _ hcl h.2)
          cases v0 with
          | tree t' cs' len =>
            obtain ⟨g', o, cap, cur', fr', k1, k2, k3, k4, k5, k6, k7, k8, k9⟩ := a3
            simp only [V.frzd, RV]
            refine ⟨_, cap, k2, k3, k4, fun hne => ⟨_, rfl, hok g' (h4 g' (.inr ⟨j, k1⟩)), ?_⟩⟩
            have hc : 0 < cap := by
              rcases Nat.eq_zero_or_pos cap with hz | hz
              · have : len = 0 := by omega
                subst this; simp at hne
              · exact hz
            rw [k5 hc]
            have := RCs_of_row (off := 0) k6 (k8.later_no hl) (len * P.cellsOf t')
            simpa using this
          | _ => exact key a3 rfl
      · rw [List.getElem?_set_ne (fun h => e h.symm)] at ho
        exact (hr.sat.ob i o' ho).keep_same hl (fun _ _ => rfl) rfl (fun b => by simp [Env.thaw, e]) (fun _ _ h => h)
    · simp only [Env.thaw]; split
      · exact fun h => h
      · exact hr.sat.out i b (by simpa using hi)
    · simp only [Env.thaw] at h1' h2'
      split at h1'
      · exact h1'.elim
      · split at h2'
        · exact h2'.elim
        · exact hr.sat.disj i k b h1' h2'
    · simp only [Env.thaw] at hi; split at hi
      · exact hi.elim
      · exact hr.sat.nX i b hi hx
    · simp only [Env.thaw] at hi; split at hi
      · exact hi.elim
      · exact hr.sat.lt i b hi
  exact hr.step_same hs (Turn.refl _ _) (fun _ _ h => h) (fun i b hi => .inl ⟨i, by simp only [Env.thaw] at hi; split at hi; exact hi.elim; exact hi⟩) (fun _ _ => rfl) (by simpa using hr.len)

/-- A cell's row is never to be written again. -/
theorem GS.closeCell (n j : Nat) (t : TypeId) (cs : List V) (v : V) (hj : cs[j]? = some v) (hv : ∀ t cs len, v ≠ .tree t cs len) (hn : st.σ[n]? = some (.own t cs)) (hn' : (closeV P v st.σ).2[n]? = some (.own t cs))
    (hk : GS P n0 ⟨st.slots, (closeV P v st.σ).2.set n (.own t (cs.set j (closeV P v st.σ).1))⟩ Φ) : GS P n0 st Φ := by
  refine GS.step (fun E M a w he hr => ?_) hk
  have hjl := (List.getElem?_eq_some_iff.1 hj).1
  obtain ⟨g, cur, fr, kid, h1, h2, h3, h4, h5, h6, h7⟩ := hr.sat.ob n _ hn
  have h7j := h7 j
  rw [hj] at h7j
  obtain ⟨u, u1, u2, u3⟩ := h7j
  obtain ⟨kj, u4⟩ := u3.plain hv
  obtain ⟨M', s1, s2, s3, s4, s5⟩ := close_rv hr.sat u4
  have hr' := hr.less s1 s2 s3 s4
  have hnl := (List.getElem?_eq_some_iff.1 hn').1
  obtain ⟨g2, cur2, fr2, kid2, f1, f2, f3, f4, f5, f6, f7⟩ := s1.ob n _ hn'
  rw [s2, h1] at f1; cases f1
  rw [h2] at f2; cases f2
  have f7j := f7 j
  rw [hj] at f7j
  obtain ⟨u', q1, q2, q3⟩ := f7j
  obtain ⟨kj2, q4⟩ := q3.plain hv
  rw [u1] at q1; cases q1
  refine ⟨M', hr'.step_same (hr'.sat.update hnl (.own t (cs.set j (closeV P v st.σ).1)) (Turn.refl _ _) ⟨g, cur, fr, kid2, by rw [s2]; exact h1, h2, f3, f4, f5, f6, fun x => ?_⟩) (Turn.refl _ _) (fun _ _ h => h) (fun i b hi => .inl ⟨i, hi⟩) (fun _ _ => rfl) (by have := hr'.len; simpa using this)⟩
  by_cases e : x = j
  · subst e
    rw [List.getElem?_set_self hjl]
    exact ⟨u, u1, u2, by rw [kj2]; exact OwnCell.ofRV s5⟩
  · rw [List.getElem?_set_ne (fun h => e h.symm)]
    exact f7 x

end
end Go.Proofs.Ytncnnbjhginpfaa
