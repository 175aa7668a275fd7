/- A function's contract from what must be shown of its code. Conditions: none; plain definitions and lemmas. -/
import Derived.Test.YtncnnbjhginpfaaCxP
namespace Go.Proofs.Ytncnnbjhginpfaa
set_option linter.unusedVariables false
set_option linter.unusedSimpArgs false
set_option linter.unnecessarySimpa false
open Go.RowKit

/-- The results, read off. -/
def resL (P : Program) (st : St) (k : List V → Prop) : List ResultVar → List V → Prop
  | [], acc => k acc.reverse
  | .tmp t :: r, acc => resL P st k r (st.slot t :: acc)
  | .cell t ty :: r, acc => atVC P ty (st.slot t) st fun v _ => resL P st k r (v :: acc)

def resVC (P : Program) (rs : List ResultVar) (st : St) (k : V → Prop) : Prop :=
  resL P st (fun vs => match vs with | [v] => k v | vs => k (.tup vs)) rs []

/-- What must hold where a body ends. -/
def bodyK (P : Program) (n0 : Nat) (rs : List ResultVar) (R : Out → List Ob → Prop) : AEx → St → Prop
  | .norm, st => resVC P rs st fun v => GS P n0 ⟨[v], st.σ⟩ fun s => R (.ret (s.slot 0)) s.σ
  | .ret, st => resVC P rs st fun v => GS P n0 ⟨[v], st.σ⟩ fun s => R (.ret (s.slot 0)) s.σ
  | .pan v, st => GS P n0 ⟨[v], st.σ⟩ fun s => R (.pan (s.slot 0)) s.σ
  | .exit _, _ => False

/-- What must be shown of a function. -/
def fnVC (P : Program) (fn : Func) (args : List V) (σ : List Ob) (R : Out → List Ob → Prop) : Prop :=
  match fn.body with
  | some c => vc P σ.length c (bodyK P σ.length fn.results.toList R) ⟨args ++ List.replicate (fn.ntmps - args.length) .undef, σ⟩
  | none => False

/-- The same, put otherwise first. -/
def fnGS (P : Program) (fn : Func) (args : List V) (σ : List Ob) (R : Out → List Ob → Prop) : Prop :=
  match fn.body with
  | some c => GS P σ.length ⟨args ++ List.replicate (fn.ntmps - args.length) .undef, σ⟩ fun s => vc P σ.length c (bodyK P σ.length fn.results.toList R) s
  | none => False

/-- It returns v and leaves the store as told. -/
def Ret (v : V) (σ : List Ob) : Out → List Ob → Prop := fun o s => o = .ret v ∧ s = σ

section
variable {P : Program} {E : En} {M M' : Env} {st st' : St} {a : Act} {w w' : World} {X : Nat → Prop} {σ σ' : List Ob}

theorem at_ok (h : Rel P E M st a w) {t : TypeId} {v : V} {u : Value} {k : V → St → Prop} (hx : RV P w (okW E.X M w) v M.ρ u) (hk : atVC P t v st k) :
    ∃ ad u' v', u = .pointer (some ad) ∧ (loadVar t ad).run P w = .ok u' w ∧ k v' st ∧ RV P w (okW E.X M w) v' M.ρ u' := by
  unfold atVC at hk
  split at hk
  · rename_i n off
    simp only [RV] at hx
    obtain ⟨g, hg, hu⟩ := hx
    split at hk
    · rename_i cs hcs
      cases ho : st.σ[n]? with
      | none => simp [ho] at hcs
      | some o =>
        simp only [ho, Option.bind_some] at hcs
        obtain ⟨u, v, e1, e2, e3⟩ := run_load_of (ad := ⟨g, off, none⟩) h hk fun m hm => by
          obtain ⟨g', us, f0, f1, f2, f3, f4⟩ := h.sat.rd ho hcs hm
          rw [hg] at f0; cases f0
          exact ⟨us, f1, f2, f3, f4⟩
        exact ⟨_, u, v, hu, e1, e2, e3⟩
    · exact hk.elim
  · rename_i cs
    simp only [RV] at hx
    obtain ⟨ad, hu, hc⟩ := hx
    obtain ⟨u, v, e1, e2, e3⟩ := run_load_of (ad := ad) h hk fun m hm => by
      by_cases hne : cs = []
      · subst hne
        simp at hm; subst hm
        exact ⟨[], rfl, by simp, by simp, by simp [RVs]⟩
      · obtain ⟨us, f1, f2, f3, f4⟩ := RCs.range (ρ := M.ρ) (hc hne).2 (k := m) (by omega)
        exact ⟨us, f1, f2, f3, by simpa using f4⟩
    exact ⟨_, u, v, hu, e1, e2, e3⟩
  · exact hk.elim

def readRes (tmps : Array Value) : ResultVar → Sem Value
  | .tmp t => pure (tmps.getD t undef)
  | .cell a t => do loadVar t (← asAddr (tmps.getD a undef))

theorem resL_ok (h : Rel P E M st a w) {k : List V → Prop} : ∀ (rs : List ResultVar) (acc : List V) (accu : List Value), RVs P w (okW E.X M w) acc M.ρ accu → resL P st k rs acc →
    ∃ us vs, (rs.mapM (readRes a.tmps)).run P w = .ok us w ∧ k (acc.reverse ++ vs) ∧ RVs P w (okW E.X M w) vs M.ρ us := by
  intro rs
  induction rs with
  | nil => intro acc accu _ hk; exact ⟨[], [], by simp, by simpa [resL] using hk, by simp [RVs]⟩
  | cons r rs ih =>
    intro acc accu hacc hk
    cases r with
    | tmp t =>
      simp only [resL] at hk
      obtain ⟨us, vs, h1, h2, h3⟩ := ih (st.slot t :: acc) (a.tmps.getD t undef :: accu) (by simp only [RVs]; exact ⟨_, _, rfl, h.sl t, hacc⟩) hk
      refine ⟨a.tmps.getD t undef :: us, st.slot t :: vs, ?_, by simpa using h2, by simp only [RVs]; exact ⟨_, _, rfl, h.sl t, h3⟩⟩
      simp [List.mapM_cons, readRes, h1]
    | cell t ty =>
      simp only [resL] at hk
      obtain ⟨ad, u', v', e1, e2, e3, e4⟩ := at_ok h (h.sl t) hk
      obtain ⟨us, vs, h1, h2, h3⟩ := ih (v' :: acc) (u' :: accu) (by simp only [RVs]; exact ⟨_, _, rfl, e4, hacc⟩) e3
      refine ⟨u' :: us, v' :: vs, ?_, by simpa using h2, by simp only [RVs]; exact ⟨_, _, rfl, e4, h3⟩⟩
      simp [List.mapM_cons, readRes, e1, asAddr, e2, h1]

theorem resVC_ok (h : Rel P E M st a w) {fn : Func} {k : V → Prop} (hk : resVC P fn.results.toList st k) :
    ∃ u v, (results fn a.tmps).run P w = .ok u w ∧ k v ∧ RV P w (okW E.X M w) v M.ρ u := by
  obtain ⟨us, vs, h1, h2, h3⟩ := resL_ok h fn.results.toList [] [] (by simp [RVs]) hk
  have hr : (results fn a.tmps).run P w = .ok (if h : us.toArray.size = 1 then us.toArray[0] else .tuple us.toArray) w := by
    have e : (results fn a.tmps) = (do let vs ← fn.results.mapM (readRes a.tmps); pure (if h : vs.size = 1 then vs[0] else .tuple vs)) := rfl
    rw [e, Array.mapM_eq_mapM_toList]
    simp [h1]
  simp only [List.reverse_nil, List.nil_append] at h2
  rw [hr]
  match us, vs, h2, h3 with
  | us, [], h2, h3 =>
    simp only [RVs] at h3; subst h3
    exact ⟨_, _, rfl, h2, by simp [RV, RVs]⟩
  | us, [v], h2, h3 =>
    simp only [RVs] at h3
    obtain ⟨u, _, rfl, h4, rfl⟩ := h3
    exact ⟨_, _, rfl, h2, by simpa using h4⟩
  | us, v :: v2 :: vs, h2, h3 =>
    have h3' := h3
    simp only [RVs] at h3
    obtain ⟨u, _, rfl, h4, u2, us', rfl, h5⟩ := h3
    refine ⟨_, _, rfl, h2, ?_⟩
    simp only [RV]
    refine ⟨(u :: u2 :: us').toArray, by simp, by simpa using h3'⟩

theorem RVs.getD {vs : List V} {us : List Value} {ok : Nat → Prop} {ρ : Nat → Option Nat} (h : RVs P w ok vs ρ us) (t : Nat) (v : V) (hv : vs[t]? = some v) : ∃ u, us[t]? = some u ∧ RV P w ok v ρ u := h.get hv

theorem entry_rel {fn : Func} {args : List V} {us : List Value} (hs : Sat P X M σ w) (hv : RVs P w (okW X M w) args M.ρ us) (m : Nat) :
    Rel P ⟨X, fun g => ∃ n, M.fp n g, w, σ.length, M.ρ, []⟩ M ⟨args ++ List.replicate (m - args.length) .undef, σ⟩
      { tmps := us.toArray ++ Array.replicate (m - us.toArray.size) undef, defers := [] } w := by
  have hl := hv.len
  refine ⟨hs, fun t => ?_, by simp [hl], ⟨[], rfl, List.nodup_nil, fun D hD => by simp at hD⟩, Turn.refl _ _, fun n g hg => .inl ⟨n, hg⟩, fun _ _ => rfl, Nat.le_refl _⟩
  simp only [St.slot, List.getD_eq_getElem?_getD, Array.getD_eq_getD_getElem?, List.getElem?_append, Array.getElem?_append]
  by_cases ht : t < args.length
  · rw [if_pos ht, if_pos (by simp; omega), List.getElem?_eq_getElem ht]
    obtain ⟨u, e1, e2⟩ := hv.get (List.getElem?_eq_getElem ht)
    simp only [List.getElem?_toArray, e1, Option.getD_some]
    exact e2
  · rw [if_neg ht]
    have : ((List.replicate (m - args.length) V.undef)[t - args.length]?).getD V.undef = V.undef := by
      rw [List.getElem?_replicate]; split <;> rfl
    rw [this]; simp [RV]

/-- A mark's block is shut. -/
theorem Rel.putD (h : Rel P E M st a w) {D : Nat} (hD : w.heap[D]? = some (.deferred (some []))) (h0 : E.w0.heap.size ≤ D) (hf : ∀ n, ¬ M.fp n D) {ds : List Deferred} (hds : DefOk E M (w.putObj D (.deferred none)) ds) :
    Rel P E M st { a with defers := ds } (w.putObj D (.deferred none)) := by
  have hlt := heap_lt hD
  have hoth : ∀ g, g ≠ D → (w.putObj D (.deferred none)).heap[g]? = w.heap[g]? := fun g hg => World.putObj_heap_other hg
  have hshape : ∀ g x, w.shape? g = some x → (w.putObj D (.deferred none)).shape? g = some x := fun g x hx => by
    by_cases e : g = D
    · subst e; simp [World.shape?, hD] at hx
    · rw [shape_of_heap (hoth g e)]; exact hx
  have hl : Later w (w.putObj D (.deferred none)) (okW E.X M w) (okW E.X M (w.putObj D (.deferred none))) :=
    ⟨fun g cur t fr hg hc => ⟨⟨by simpa using hg.1, hg.2.1, hg.2.2⟩, hoth g fun e => by rw [e, hD] at hc; cases hc⟩, hshape⟩
  have ht : Turn (· = D) w (w.putObj D (.deferred none)) := ⟨rfl, rfl, rfl, by simp, fun g _ hn => hoth g hn, hshape⟩
  refine ⟨⟨fun n o ho => (h.sat.ob n o ho).keep_same hl (fun g hg => hoth g fun e => hf n (e ▸ hg)) rfl (fun _ => Iff.rfl) (fun _ _ h => h), h.sat.dom, h.sat.out, h.sat.disj, h.sat.nX, fun n g hg => by simpa using h.sat.lt n g hg, fun g hg => by simpa using h.sat.Xlt g hg⟩,
    fun t => ?_, h.sz, hds, h.fr.trans (ht.mono fun g e => .inr (by rw [e]; exact h0)), h.own, h.lent, h.len⟩
  have := RV.ren_ (π := some) (ρ' := M.ρ) hl (fun n m g e h => by cases e; exact h) _ _ (h.sl t)
  rw [V.ren_some] at this
  exact this

/-- At a body's end: the marks, then what is asked. -/
theorem leave_marks {fn : Func} {tmps : Array Value} {Rr : Ending → World → Prop} {F : Fence} {n : Nat} {u : FrameMode} (hu : u ≠ .run) (Φ : World → Prop) (hE : E.ds = [])
    (hend : ∀ w', Φ w' → LeavesIn F n P fn tmps Rr [] u w')
    (k : St → Prop) (hk : ∀ M st a w, a.tmps = tmps → k st → Rel P E M st a w → Φ w) :
    ∀ (Ds : List Nat) (M : Env) (st : St) (a : Act) (w : World), a.tmps = tmps → a.defers = Ds.map (fun D => { target := .collected D, args := #[] }) → Ds.Nodup →
      (∀ D ∈ Ds, E.w0.heap.size ≤ D ∧ w.heap[D]? = some (.deferred (some [])) ∧ (∀ n, ¬ M.fp n D) ∧ ¬ E.X D) → k st → Rel P E M st a w →
      LeavesInM F n P fn tmps Rr (Ds.map (fun D => { target := .collected D, args := #[] })) u w := by
  intro Ds
  induction Ds with
  | nil => intro M st a w ha _ _ _ hks h; exact hend w (hk M st a w ha hks h)
  | cons D Ds ih =>
    intro M st a w ha hd hn hds hks h
    obtain ⟨g1, g2, g3, g4⟩ := hds D (by simp)
    obtain ⟨n1, n2⟩ := List.nodup_cons.1 hn
    refine ⟨hu, .inl ⟨D, _, rfl, run_takeDeferred g2, ?_⟩⟩
    have hds' : ∀ D' ∈ Ds, E.w0.heap.size ≤ D' ∧ (w.putObj D (.deferred none)).heap[D']? = some (.deferred (some [])) ∧ (∀ n, ¬ M.fp n D') ∧ ¬ E.X D' := fun D' hD' => by
      obtain ⟨q1, q2, q3, q4⟩ := hds D' (by simp [hD'])
      exact ⟨q1, by rw [World.putObj_heap_other (k := D') (r := D) (fun e => n1 (e ▸ hD'))]; exact q2, q3, q4⟩
    exact ih M st { a with defers := Ds.map (fun D => { target := .collected D, args := #[] }) } _ ha rfl n2 hds' hks (h.putD g2 g1 g3 ⟨Ds, by rw [hE]; simp, n2, hds'⟩)

/-- THE CONTRACT FROM THE CODE. -/
theorem ACalls.of_gs {f : FuncId} {fn : Func} {args : List V} {R : Out → List Ob → Prop} (hf : P.funcs[f]? = some fn) (hname : (fn.name == "runtime.NumGoroutine") = false)
    (hm : P.follows .mixedOrders = true) (hk : fnGS P fn args σ R) : ACalls P f args σ R := by
  unfold fnGS at hk
  cases hb : fn.body with
  | none => simp only [hb] at hk
  | some c =>
  simp only [hb] at hk
  refine ⟨⟨fn, hf, by simpa using hname, by simp [hb]⟩, fun X M w us hs hv => ?_⟩
  apply (callsIn_wide (n := 0)).1
  refine callsIn_of_wp_marks hf hb trivial ?_
  have hrel0 := entry_rel (fn := fn) hs hv fn.ntmps
  obtain ⟨M1, st1, hk, hrel⟩ := hk _ _ _ _ rfl hrel0
  refine wpIn_mono (vc_sound (ro := none) (n := 0) hm c (.inl rfl) _ _ ⟨X, fun g => ∃ n, M.fp n g, w, σ.length, M.ρ, []⟩ M1 _ w hk hrel) fun e a' w' hp => ?_
  have one : ∀ (M' : Env) (st' : St) (a' : Act) (w' : World) (v : V) (u : Value), Rel P ⟨X, fun g => ∃ n, M.fp n g, w, σ.length, M.ρ, []⟩ M' st' a' w' → RV P w' (okW X M' w') v M'.ρ u →
      Rel P ⟨X, fun g => ∃ n, M.fp n g, w, σ.length, M.ρ, []⟩ M' ⟨[v], st'.σ⟩ ⟨#[u], a'.defers⟩ w' := fun M' st' a' w' v u h1 hv =>
    ⟨h1.sat, fun t => by cases t with | zero => simpa [St.slot] using hv | succ t => simp [St.slot, RV], rfl, h1.df, h1.fr, h1.own, h1.lent, h1.len⟩
  have marks : ∀ (M' : Env) (st' : St), Rel P ⟨X, fun g => ∃ n, M.fp n g, w, σ.length, M.ρ, []⟩ M' st' a' w' →
      resVC P fn.results.toList st' (fun v => GS P σ.length ⟨[v], st'.σ⟩ fun s => R (.ret (s.slot 0)) s.σ) →
      LeavesInM Fence.wide 0 P fn a'.tmps (AOut P X M σ.length w R) a'.defers .returning w' := fun M' st' h1 h2 => by
    obtain ⟨Ds, d1, d2, d3⟩ := h1.df
    simp only [List.append_nil] at d1
    rw [d1]
    refine leave_marks (E := ⟨X, fun g => ∃ n, M.fp n g, w, σ.length, M.ρ, []⟩) (u := .returning) (F := Fence.wide) (n := 0) (by simp) (fun w' => ∃ v, (results fn a'.tmps).run P w' = .ok v w' ∧ AOut P X M σ.length w R (.returned v) w') rfl (fun w' hw => hw)
      (fun st' => resVC P fn.results.toList st' (fun v => GS P σ.length ⟨[v], st'.σ⟩ fun s => R (.ret (s.slot 0)) s.σ)) (fun M' st' a2 w' ha h2 h1 => ?_) Ds M' st' a' w' rfl d1 d2 d3 h2 h1
    obtain ⟨u, v, g1, g2, g4⟩ := resVC_ok h1 h2
    obtain ⟨M2, st2, g3, h3⟩ := g2 _ _ _ _ rfl (one _ _ _ _ _ _ h1 g4)
    exact ⟨u, by rw [← ha]; exact g1, M2, _, _, g3, h3.sat, h3.len, ⟨h3.fr, h3.own, h3.lent⟩, h3.sl 0⟩
  cases e with
  | normal => obtain ⟨M', st', h1, h2⟩ := hp; exact marks M' st' h1 h2
  | ret => obtain ⟨M', st', h1, h2⟩ := hp; exact marks M' st' h1 h2
  | exit id => obtain ⟨M', st', h1, h2⟩ := hp; exact h2.elim
  | goto l => exact hp.elim
  | panic chain =>
    obtain ⟨M', st', v, u, h0, h1, h2, g2⟩ := hp
    obtain ⟨Ds, d1, d2, d3⟩ := h1.df
    simp only [List.append_nil] at d1
    have h1' := one _ _ _ _ _ _ h1 h2
    show LeavesInM Fence.wide 0 P fn a'.tmps (AOut P X M σ.length w R) a'.defers (.panicking chain) w'
    rw [d1]
    have key : ∀ (Ds : List Nat) (w' : World), Ds.Nodup → (∀ D ∈ Ds, w.heap.size ≤ D ∧ w'.heap[D]? = some (.deferred (some [])) ∧ (∀ n, ¬ M'.fp n D) ∧ ¬ X D) →
        Rel P ⟨X, fun g => ∃ n, M.fp n g, w, σ.length, M.ρ, []⟩ M' ⟨[v], st'.σ⟩ ⟨#[u], Ds.map (fun D => { target := .collected D, args := #[] })⟩ w' →
        LeavesInM Fence.wide 0 P fn a'.tmps (AOut P X M σ.length w R) (Ds.map (fun D => { target := .collected D, args := #[] })) (.panicking chain) w' := by
      intro Ds
      induction Ds with
      | nil =>
        intro w' _ _ h1'
        obtain ⟨M2, st2, g3, h3⟩ := g2 _ _ _ _ rfl h1'
        exact ⟨M2, _, _, u, h0, g3, h3.sat, h3.len, ⟨h3.fr, h3.own, h3.lent⟩, h3.sl 0⟩
      | cons D Ds ih =>
        intro w' hn hds h1'
        obtain ⟨g1, g2', g3, g4⟩ := hds D (by simp)
        obtain ⟨n1, n2⟩ := List.nodup_cons.1 hn
        refine ⟨by simp, .inl ⟨D, _, rfl, run_takeDeferred g2', ?_⟩⟩
        have hds' : ∀ D' ∈ Ds, w.heap.size ≤ D' ∧ (w'.putObj D (.deferred none)).heap[D']? = some (.deferred (some [])) ∧ (∀ n, ¬ M'.fp n D') ∧ ¬ X D' := fun D' hD' => by
          obtain ⟨q1, q2, q3, q4⟩ := hds D' (by simp [hD'])
          exact ⟨q1, by rw [World.putObj_heap_other (k := D') (r := D) (fun e => n1 (e ▸ hD'))]; exact q2, q3, q4⟩
        exact ih _ n2 hds' (h1'.putD g2' g1 g3 ⟨Ds, by simp, n2, hds'⟩)
    exact key Ds w' d2 d3 (by rw [← d1]; exact h1')
  | outgrown => exact hp.elim

theorem ACalls.of_vc {f : FuncId} {fn : Func} {args : List V} {R : Out → List Ob → Prop} (hf : P.funcs[f]? = some fn) (hname : (fn.name == "runtime.NumGoroutine") = false)
    (hm : P.follows .mixedOrders = true) (hk : fnVC P fn args σ R) : ACalls P f args σ R := by
  refine ACalls.of_gs hf hname hm ?_
  unfold fnVC at hk; unfold fnGS
  cases hb : fn.body with
  | none => simp only [hb] at hk
  | some c => simp only [hb] at hk ⊢; exact GS.done hk

mutual
theorem V.ren_closed {π : Nat → Option Nat} : ∀ (v : V), v.closed = true → v.ren π = v := by
  intro v h
  match v with
  | .ptr .. | .sl .. | .mp .. | .tree .. => simp [V.closed] at h
  | .undef | .opq _ | .bool _ | .int .. | .str _ | .nilp | .nils | .nilm | .nilf | .nili | .esl | .frz .. | .fptr .. => simp [V.ren]
  | .fn f x y => simp only [V.closed, Bool.and_eq_true] at h; simp [V.ren, V.rens_closed x h.1, V.rens_closed y h.2]
  | .iface t v => simp only [V.closed] at h; simp [V.ren, V.ren_closed v h]
  | .agg cs => simp only [V.closed] at h; simp [V.ren, V.rens_closed cs h]
  | .tup vs => simp only [V.closed] at h; simp [V.ren, V.rens_closed vs h]
theorem V.rens_closed {π : Nat → Option Nat} : ∀ (vs : List V), V.closeds vs = true → V.rens π vs = vs := by
  intro vs h
  match vs with
  | [] => simp [V.rens]
  | v :: vs => simp only [V.closeds, Bool.and_eq_true] at h; simp [V.rens, V.ren_closed v h.1, V.rens_closed vs h.2]
end

theorem merge_nil (σ : List Ob) : merge [] σ [] = σ := by
  apply List.ext_getElem
  · simp [merge]
  · intro n h1 h2
    simp [merge, mergeAt, idx, h2]

/-- A call that is lent nothing and leaves nothing. -/
theorem callVC.pure {f : FuncId} {args : List V} {v : V} {k kp : V → St → Prop} (hc : ACalls P f args [] (Ret v [])) (ha : V.closeds args = true) (hv : v.closed = true) (hk : k v st) :
    callVC P f args st k kp := by
  refine .inr (.inl ⟨[], Ret v [], List.nodup_nil, by simp, by rw [V.rens_closed _ ha]; exact hc, ?_⟩)
  rintro o σ' ⟨rfl, rfl⟩ _
  simp only [V.ren_closed v hv, merge_nil]
  exact hk

theorem BorrowTo.nil {σ : List Ob} : BorrowTo P σ [] [] := rfl
theorem BorrowTo.one {σ : List Ob} {a b : V} {as bs : List V} (h : b = borrowV P σ a) (t : BorrowTo P σ as bs) : BorrowTo P σ (a :: as) (b :: bs) := ⟨b, bs, rfl, .inl h, t⟩
theorem BorrowTo.weak {σ : List Ob} {a b : V} {as bs : List V} (h : b = (borrowV P σ a).weak) (t : BorrowTo P σ as bs) : BorrowTo P σ (a :: as) (b :: bs) := ⟨b, bs, rfl, .inr h, t⟩

/-- A call that reads what it is handed, and answers with a number, a truth, a text. -/
theorem callVC.borrow {f : FuncId} {args : List V} {st : St} {k kp : V → St → Prop} (bs : List V) (v : V) (he : BorrowTo P st.σ args bs) (hc : ACalls P f bs [] (Ret v [])) (ha : V.closeds bs = true) (hv : v.scalar = true) (hk : k v st) :
    callVC P f args st k kp := .inl ⟨bs, v, he, ha, hc, hv, hk⟩

/-- A call that is lent the objects 'ns'. -/
theorem callVC.lend {f : FuncId} {args : List V} {st : St} {k kp : V → St → Prop} (ns : List Nat) (args' : List V) (σ : List Ob) (R : Out → List Ob → Prop) (hn : nodupB ns = true) (hl : ∀ n ∈ ns, n < st.σ.length)
    (he : V.rens (idx ns) args = args') (hs : sel ns st.σ = σ) (hc : ACalls P f args' σ R)
    (hk : ∀ o σ', R o σ' → ns.length ≤ σ'.length → match o with
      | .ret v => k (v.ren (back ns st.σ.length)) { st with σ := merge ns st.σ σ' }
      | .pan v => kp (v.ren (back ns st.σ.length)) { st with σ := merge ns st.σ σ' }) : callVC P f args st k kp :=
  .inr (.inl ⟨ns, R, nodupB_spec hn, hl, by rw [he, hs]; exact hc, hk⟩)

theorem closeV_row {σ : List Ob} {n len : Nat} {ow : Bool} {t : TypeId} {cs : List V} (hn : σ[n]? = some (.arr t cs)) (hl : cs.length = len * P.cellsOf t) : closeV P (.sl ow n 0 len) σ = (.frz cs len, σ.set n (.froz t cs)) := by
  simp only [closeV, hn]
  rw [if_pos (by omega), List.drop_zero, List.take_of_length_le (by omega)]
theorem closeVs_cons {σ σ' σ'' : List Ob} {v v' : V} {vs vs' : List V} (h : closeV P v σ = (v', σ')) (hs : closeVs P vs σ' = (vs', σ'')) : closeVs P (v :: vs) σ = (v' :: vs', σ'') := by simp only [closeVs, h, hs]

/-- A call that is handed rows that nobody writes any more; it is lent nothing and leaves nothing. -/
theorem callVC.close {f : FuncId} {args : List V} {v : V} {st : St} {k kp : V → St → Prop} (args' : List V) (σ' : List Ob) (he : closeVs P args st.σ = (args', σ')) (hc : ACalls P f args' [] (Ret v [])) (ha : V.closeds args' = true) (hv : v.closed = true) (hk : k v { st with σ := σ' }) :
    callVC P f args st k kp := by
  refine .inr (.inr ?_)
  rw [he]
  refine ⟨[], Ret v [], List.nodup_nil, by simp, by rw [V.rens_closed _ ha]; exact hc, ?_⟩
  rintro o s2 ⟨rfl, rfl⟩ _
  simp only [V.ren_closed v hv, merge_nil]
  exact hk

/-- A slice that is handed over is no longer than a slice can be. -/
theorem ACalls.len {f : FuncId} {args : List V} {R : Out → List Ob → Prop} {cs : List V} {len : Nat} (he : Enters P f) (hm : V.frz cs len ∈ args) (h : len ≤ maxLen → ACalls P f args σ R) : ACalls P f args σ R := by
  refine ⟨he, fun X M w us hs hv => ?_⟩
  have hl : len ≤ maxLen := by
    obtain ⟨i, hi⟩ := List.getElem?_of_mem hm
    obtain ⟨u, _, e2⟩ := hv.get hi
    simp only [RV] at e2
    obtain ⟨A, cap, _, h2, h3, _⟩ := e2
    omega
  exact (h hl).2 X M w us hs hv

end
end Go.Proofs.Ytncnnbjhginpfaa
