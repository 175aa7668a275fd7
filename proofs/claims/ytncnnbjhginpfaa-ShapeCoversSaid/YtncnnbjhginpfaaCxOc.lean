/- Regions whose order of evaluation is drawn: the theorem. Conditions: none; plain lemmas. -/
import Derived.Test.YtncnnbjhginpfaaCxOb
namespace Go.Proofs.Ytncnnbjhginpfaa
set_option linter.unusedVariables false
set_option linter.unusedSimpArgs false
set_option linter.unnecessarySimpa false
open Go.RowKit

section
variable {P : Program} {E : En} {M M' : Env} {st st' : St} {a : Act} {w w' : World} {k : St → Prop} {kp : V → St → Prop} {ro : Option Nat} {n : Nat} {ops : List Oper} {Q : Go.Exit → Act → World → Prop}

theorem Rd.setN {R : Array Bool} {i j : Nat} (hi : i < R.size) : ¬ Rd (R.setIfInBounds i true) j ↔ (j ≠ i ∧ ¬ Rd R j) := by
  rw [Rd.set hi]; exact not_or

/-- A quiet operation that was done ahead is done. -/
theorem Sim.real {L Qs : List Nat} {R : Array Bool} (h : Sim P E ops L Qs st R a w) {i : Nat} (hr : i < ops.length) (hn : ¬ Rd R i) (hd : ∀ d ∈ depsAt ops i, Rd R d) (hiL : i ∈ L) :
    wpOpIn (FW ro) n P ops.toArray Q i (fun a' w' => Sim P E ops L Qs st (R.setIfInBounds i true) a' w') a w := by
  have ho : ops[i]? = some ops[i] := List.getElem?_eq_getElem hr
  have hsz : i < R.size := by rw [h.size]; exact hr
  generalize ops[i] = o at ho
  obtain ⟨M, b, r1, r2, r3, r4⟩ := h.rel
  have hiQ := h.dq i hiL hn
  have hq : isQ o.op = true := by have := (h.qq i hiQ).2; simpa [quietAt, ho] using this
  have hqv := h.qv i hiL hn
  simp only [QV, ho] at hqv
  have hl : ∀ t ∈ looksAt ops i, b.tmps[t]? = a.tmps[t]? := fun t ht => r4 t fun p hp hpn hpt => by
    by_cases e : p = i
    · subst e; exact h.self _ hiQ t hpt ht
    · rcases (h.pair p (h.dq p hp hpn) i hiQ e).2 with h1 | h1
      · exact hpn (h.ancR hd p h1)
      · exact h1 t hpt ht
  have fin : ∀ u, RV P w (okW E.X M w) (slotAt ops st i) M.ρ u → Sim P E ops L Qs st (R.setIfInBounds i true) (a.put o.dst u) w := fun u hv => by
    refine ⟨⟨M, b.put o.dst u, by have := r1.put hv o.dst; rwa [slotAt_put ho] at this, by rw [put_size, put_size]; exact r2, by rw [put_def, put_def]; exact r3, fun t ht => put_both r2 fun hne => r4 t fun p hp hpn hpt => ?_⟩,
      by rw [Array.size_setIfInBounds]; exact h.size, fun j hj => ?_, fun j hj hjn => h.dq j hj ((Rd.setN hsz).1 hjn).2, fun j hj d hjd => ?_, h.ord, h.lt, h.qq, h.pair, h.self, fun q hq' hqn => h.qv q hq' ((Rd.setN hsz).1 hqn).2⟩
    · by_cases e : p = i
      · subst e; exact hne t ((mem_dstAt ho).1 hpt) rfl
      · exact ht p hp ((Rd.setN hsz).2 ⟨e, hpn⟩) hpt
    · rcases (Rd.set hsz).1 hj with rfl | hj
      · exact hiL
      · exact h.sub j hj
    · refine (Rd.set hsz).2 (.inr ?_)
      rcases (Rd.set hsz).1 hj with rfl | hj
      · exact hd d hjd
      · exact h.closed j hj d hjd
  unfold wpOpIn
  simp only [List.getElem?_toArray, ho]
  rcases want_iff.1 hqv with ⟨g1, g2⟩ | ⟨g1, g2⟩
  · obtain ⟨e1, e2⟩ := same_run ho hl (opVC_noselect g2)
    rw [if_pos (by rw [e2]; exact gv_wanted r1 g1)]
    cases quiet_ok (kp := fun _ _ => False) hq r1 g2 with
    | val hrun hk hs hv =>
      subst hk
      refine ⟨fun _ _ => trivial, ?_⟩
      rw [Oper.semAt_eq _ _ _ (opVC_nodefer g2), e1, hrun]
      exact fin _ hv
  · have hs : ∀ cs bb, o.op ≠ .select cs bb := fun cs bb e => by rw [e] at hq; simp [isQ] at hq
    obtain ⟨e1, e2⟩ := same_run ho hl hs
    have : Region.wanted o (yielded ops.toArray a.tmps) = false := by rw [e2]; exact gv_wanted r1 g1
    rw [if_neg (by simp [this])]
    exact ⟨fun _ _ => trivial, fin _ (by rw [g2]; simp [RV])⟩

theorem act_ext {a b : Act} (hz : b.tmps.size = a.tmps.size) (hd : b.defers = a.defers) (h : ∀ t : Nat, b.tmps[t]? = a.tmps[t]?) : b = a := by
  obtain ⟨x, y⟩ := a; obtain ⟨x', y'⟩ := b
  simp only at hz hd h
  subst hd
  congr 1
  exact Array.ext_getElem? h

/-- An operation that is no quiet one is done, here and there. -/
theorem Sim.lock {L Qs : List Nat} {R : Array Bool} (h : Sim P E ops L Qs st R a w) (hP : ∀ M st a w v u, Rel P E M st a w → RV P w (okW E.X M w) v M.ρ u → kp v st → Q (.panic [{ v := u, recovered := false }]) a w) (hO : True)
    {i : Nat} {o : Oper} (ho : ops[i]? = some o) (hn : ¬ Rd R i) (hd : ∀ d ∈ depsAt ops i, Rd R d) (hiL : i ∉ L) (hdL : ∀ d ∈ depsAt ops i, d ∈ L) (hc : clear ops Qs i = true) {G : St → Prop}
    (hk : wantVC ops o st (fun s => opVC P o.op s (fun v s' => G (s'.put o.dst v) ∧ allP (Qs.filter fun q => !(anc ops i).contains q) fun q => keptVC ops q st (s'.put o.dst v)) (fun v s' => Qs = [] ∧ kp v s'))
      (fun s => G (s.put o.dst .undef) ∧ allP (Qs.filter fun q => !(anc ops i).contains q) fun q => keptVC ops q st (s.put o.dst .undef))) (hsel : ∀ cs bb, o.op ≠ .select cs bb) :
    wpOpIn (FW ro) n P ops.toArray Q i (fun a' w' => ∃ st', G st' ∧ Sim P E ops (i :: L) (Qs.filter fun q => !(anc ops i).contains q) st' (R.setIfInBounds i true) a' w') a w := by
  have hlt : i < ops.length := (List.getElem?_eq_some_iff.1 ho).1
  have hsz : i < R.size := by rw [h.size]; exact hlt
  obtain ⟨M, b, r1, r2, r3, r4⟩ := h.rel
  simp only [clear, List.all_eq_true, Bool.or_eq_true, Bool.and_eq_true] at hc
  have hl : ∀ t ∈ looksAt ops i, b.tmps[t]? = a.tmps[t]? := fun t ht => r4 t fun p hp hpn hpt => by
    rcases hc p (h.dq p hp hpn) with h1 | h1
    · exact hpn (h.ancR hd p (List.contains_iff_mem.1 h1))
    · exact disjB_spec h1.1 t hpt ht
  obtain ⟨e1, e2⟩ := same_run ho hl hsel
  have inQ : ∀ q, q ∈ (Qs.filter fun q => !(anc ops i).contains q) → q ∈ Qs := fun q hq => (List.mem_filter.1 hq).1
  have fin : ∀ M' w' v u st1, Rel P E M' st1 b w' → RV P w' (okW E.X M' w') v M'.ρ u → allP (Qs.filter fun q => !(anc ops i).contains q) (fun q => keptVC ops q st (st1.put o.dst v)) →
      Sim P E ops (i :: L) (Qs.filter fun q => !(anc ops i).contains q) (st1.put o.dst v) (R.setIfInBounds i true) (a.put o.dst u) w' := fun M' w' v u st1 hr hv hkept => by
    refine ⟨⟨M', b.put o.dst u, hr.put hv o.dst, by rw [put_size, put_size]; exact r2, by rw [put_def, put_def]; exact r3, fun t ht => put_both r2 fun hne => r4 t fun p hp hpn hpt => ?_⟩,
      by rw [Array.size_setIfInBounds]; exact h.size, fun j hj => ?_, fun j hj hjn => ?_, fun j hj d hjd => ?_, ⟨hdL, h.ord⟩, fun j hj => ?_, fun q hq => ⟨List.mem_cons_of_mem _ (h.qq q (inQ q hq)).1, (h.qq q (inQ q hq)).2⟩,
      fun p hp q hq => h.pair p (inQ p hp) q (inQ q hq), fun q hq => h.self q (inQ q hq), fun q hq hqn => ?_⟩
    · have e : p ≠ i := fun e => hiL (e ▸ hp)
      exact ht p (by simp [hp]) ((Rd.setN hsz).2 ⟨e, hpn⟩) hpt
    · rcases (Rd.set hsz).1 hj with rfl | hj
      · simp
      · exact List.mem_cons_of_mem _ (h.sub j hj)
    · obtain ⟨j1, j2⟩ := (Rd.setN hsz).1 hjn
      have hjL : j ∈ L := by rcases List.mem_cons.1 hj with e | hj; exact absurd e j1; exact hj
      refine List.mem_filter.2 ⟨h.dq j hjL j2, ?_⟩
      simp only [Bool.not_eq_true']
      cases hx : (anc ops i).contains j with
      | false => rfl
      | true => exact absurd (h.ancR hd j (List.contains_iff_mem.1 hx)) j2
    · refine (Rd.set hsz).2 (.inr ?_)
      rcases (Rd.set hsz).1 hj with rfl | hj
      · exact hd d hjd
      · exact h.closed j hj d hjd
    · rcases List.mem_cons.1 hj with rfl | hj
      · exact hlt
      · exact h.lt j hj
    · obtain ⟨q1, q2⟩ := (Rd.setN hsz).1 hqn
      have hqL : q ∈ L := by rcases List.mem_cons.1 hq with e | hq; exact absurd e q1; exact hq
      have hqQ := h.dq q hqL q2
      refine (h.qv q hqL q2).kept (h.qq q hqQ).2 (keptVC_spec (allP_spec hkept q (List.mem_filter.2 ⟨hqQ, ?_⟩)))
      simp only [Bool.not_eq_true']
      cases hx : (anc ops i).contains q with
      | false => rfl
      | true => exact absurd (h.ancR hd q (List.contains_iff_mem.1 hx)) q2
  unfold wpOpIn
  simp only [List.getElem?_toArray, ho]
  rcases want_iff.1 hk with ⟨g1, g2⟩ | ⟨g1, g2⟩
  · rw [if_pos (by rw [e2]; exact gv_wanted r1 g1)]
    refine op_wp e1 r1 g2 ⟨fun M' st1 w' v u h1 h2 h3 => ⟨_, h1.1, fin _ _ _ _ _ h2 h3 h1.2⟩, fun M' st1 w' v u h1 h2 h3 => ?_, hO⟩
    have : b = a := act_ext r2 r3 fun t => r4 t fun p hp hpn => by have := h.dq p hp hpn; rw [h1.1] at this; cases this
    subst this
    exact hP _ _ _ _ _ _ h2 h3 h1.2
  · have : Region.wanted o (yielded ops.toArray a.tmps) = false := by rw [e2]; exact gv_wanted r1 g1
    rw [if_neg (by simp [this])]
    exact ⟨fun _ _ => trivial, _, g2.1, fin _ _ _ _ _ r1 (by simp [RV]) g2.2⟩

def Goal (P : Program) (E : En) (ops : List Oper) (kp : V → St → Prop) (k : St → Prop) (R : Array Bool) (a : Act) (w : World) : Prop :=
  ∃ f L Qs st, drawGo P ops kp k f L Qs st ∧ Sim P E ops L Qs st R a w

theorem Sim.done {L Qs : List Nat} {R : Array Bool} (h : Sim P E ops L Qs st R a w) (hr : Region.ready .any ops.toArray R = []) : (∀ i ∈ L, Rd R i) ∧ ∃ M, Rel P E M st a w := by
  have hall : ∀ i ∈ L, Rd R i := fun i hi => Classical.not_not.1 fun hn => by
    obtain ⟨j, j1, j2, j3⟩ := ordL_first h.ord ⟨i, hi, hn⟩
    have : j ∈ Region.ready .any ops.toArray R := (mem_ready' h.size).2 ⟨h.lt j j1, j2, j3⟩
    rw [hr] at this; cases this
  obtain ⟨M, b, r1, r2, r3, r4⟩ := h.rel
  have : b = a := act_ext r2 r3 fun t => r4 t fun p hp hpn => absurd (hall p hp) hpn
  exact ⟨hall, M, this ▸ r1⟩

theorem isReady_iff {L : List Nat} {i : Nat} : isReady ops L i = true ↔ i ∉ L ∧ ∀ d ∈ depsAt ops i, d ∈ L := by
  simp [isReady, List.all_eq_true]

theorem adv (hN : ∀ M st a w, Rel P E M st a w → k st → Q .normal a w) (hP : ∀ M st a w v u, Rel P E M st a w → RV P w (okW E.X M w) v M.ρ u → kp v st → Q (.panic [{ v := u, recovered := false }]) a w) (hO : True)
    (hsel : ∀ (i : Nat) (o : Oper) cs bb, ops[i]? = some o → o.op ≠ .select cs bb) : ∀ (f : Nat) (L Qs : List Nat) (st : St) (R : Array Bool) (a : Act) (w : World), drawGo P ops kp k f L Qs st → Sim P E ops L Qs st R a w →
    (Region.ready .any ops.toArray R = [] → Q .normal a w) ∧
    ∀ i ∈ Region.ready .any ops.toArray R, wpOpIn (FW ro) n P ops.toArray Q i (fun a' w' => Goal P E ops kp k (R.setIfInBounds i true) a' w') a w := by
  intro f
  induction f with
  | zero => intro L Qs st R a w hk; exact hk.elim
  | succ f ih =>
    intro L Qs st R a w hk h
    have hk0 := hk
    simp only [drawGo] at hk
    cases hp : pickQ ops L with
    | some q =>
      simp only [hp] at hk
      have hfind := List.find?_some hp
      have hmem := List.mem_of_find?_eq_some hp
      rw [readyL, List.mem_filter] at hmem
      split at hk
      · rename_i hcb
        simp only [Bool.and_eq_true] at hcb
        cases ho : ops[q]? with
        | none => simp only [ho] at hk
        | some o =>
          simp only [ho] at hk
          have hq : isQ o.op = true := by simpa [quietAt, ho] using hfind
          obtain ⟨v, g1, g2⟩ := h.virt ho hmem.2 hq hcb.1 hcb.2 hk
          exact ih _ _ _ _ _ _ g1 g2
      · exact hk.elim
    | none =>
      simp only [hp] at hk
      have hrL : ∀ i, i < ops.length → i ∉ L → (∀ d ∈ depsAt ops i, d ∈ L) → i ∈ readyL ops L := fun i h1 h2 h3 => List.mem_filter.2 ⟨List.mem_range.2 h1, isReady_iff.2 ⟨h2, h3⟩⟩
      have hreal : ∀ i ∈ Region.ready .any ops.toArray R, i ∈ L → wpOpIn (FW ro) n P ops.toArray Q i (fun a' w' => Goal P E ops kp k (R.setIfInBounds i true) a' w') a w := fun i hi hiL => by
        obtain ⟨i1, i2, i3⟩ := (mem_ready' h.size).1 hi
        exact wpOpIn_mono (fun a' w' hs => ⟨f + 1, L, Qs, st, hk0, hs⟩) (h.real i1 i2 i3 hiL)
      cases hj : readyL ops L with
      | nil =>
        simp only [hj] at hk
        refine ⟨fun hr => ?_, fun i hi => ?_⟩
        · obtain ⟨_, M, hrel⟩ := h.done hr
          exact hN _ _ _ _ hrel hk
        · by_cases hiL : i ∈ L
          · exact hreal i hi hiL
          · obtain ⟨i1, i2, i3⟩ := (mem_ready' h.size).1 hi
            have := hrL i i1 hiL fun d hd => h.sub d (i3 d hd)
            rw [hj] at this; cases this
      | cons j0 js =>
        simp only [hj] at hk
        have hk' := allP_spec hk
        refine ⟨fun hr => ?_, fun i hi => ?_⟩
        · obtain ⟨hall, M, hrel⟩ := h.done hr
          have hj0 : j0 ∈ readyL ops L := by rw [hj]; simp
          obtain ⟨b1, b2⟩ := List.mem_filter.1 hj0
          obtain ⟨b3, b4⟩ := isReady_iff.1 b2
          have : j0 ∈ Region.ready .any ops.toArray R := (mem_ready' h.size).2 ⟨List.mem_range.1 b1, fun hr => b3 (h.sub _ hr), fun d hd => hall d (b4 d hd)⟩
          rw [hr] at this; cases this
        · by_cases hiL : i ∈ L
          · exact hreal i hi hiL
          · obtain ⟨i1, i2, i3⟩ := (mem_ready' h.size).1 hi
            have hdL : ∀ d ∈ depsAt ops i, d ∈ L := fun d hd => h.sub d (i3 d hd)
            have hm := hrL i i1 hiL hdL
            rw [hj] at hm
            have := hk' i hm
            split at this
            · rename_i hc
              have ho : ops[i]? = some ops[i] := List.getElem?_eq_getElem i1
              simp only [ho] at this
              exact wpOpIn_mono (fun a' w' ⟨st', g1, g2⟩ => ⟨f, _, _, st', g1, g2⟩)
                (h.lock (G := fun s => drawGo P ops kp k f (i :: L) (Qs.filter fun q => !(anc ops i).contains q) s) hP hO ho i2 i3 hiL hdL hc this (hsel i _ · · ho))
            · exact this.elim

theorem countP_lt {α : Type} {p q : α → Bool} : ∀ {l : List α}, (∀ x ∈ l, p x = true → q x = true) → ∀ x ∈ l, q x = true → p x = false → l.countP p < l.countP q := by
  intro l
  induction l with
  | nil => intro _ x hx; cases hx
  | cons y l ih =>
    intro h x hx h1 h2
    have hle : l.countP p ≤ l.countP q := List.countP_mono_left fun z hz => h z (by simp [hz])
    rcases List.mem_cons.1 hx with rfl | hx
    · rw [List.countP_cons_of_neg (by simp [h2]), List.countP_cons_of_pos h1]; omega
    · have := ih (fun z hz => h z (by simp [hz])) x hx h1 h2
      have hy := h y (by simp)
      rw [List.countP_cons, List.countP_cons]
      cases hp : p y with
      | true => rw [hy hp]; simp; omega
      | false => simp; omega

theorem sim_any (hN : ∀ M st a w, Rel P E M st a w → k st → Q .normal a w) (hP : ∀ M st a w v u, Rel P E M st a w → RV P w (okW E.X M w) v M.ρ u → kp v st → Q (.panic [{ v := u, recovered := false }]) a w) (hO : True)
    (hsel : ∀ (i : Nat) (o : Oper) cs bb, ops[i]? = some o → o.op ≠ .select cs bb) : ∀ (fuel : Nat) (R : Array Bool) (a : Act) (w : World), R.size = ops.length → (List.range ops.length).countP (fun i => !R.getD i false) ≤ fuel →
    Goal P E ops kp k R a w → wpAnyIn (FW ro) n P .any ops.toArray Q fuel R a w := by
  intro fuel
  induction fuel with
  | zero =>
    rintro R a w hz hc ⟨f, L, Qs, st, h1, h2⟩
    have hr : Region.ready .any ops.toArray R = [] := by
      apply List.eq_nil_iff_forall_not_mem.2
      intro i hi
      obtain ⟨i1, i2, _⟩ := (mem_ready' hz).1 hi
      have := List.countP_eq_zero.1 (Nat.le_zero.1 hc) i (List.mem_range.2 i1)
      simp at this
      exact i2 (by unfold Rd; simpa using this)
    exact ⟨hr, (adv (ro := ro) (n := n) hN hP hO hsel f L Qs st R a w h1 h2).1 hr⟩
  | succ fuel ih =>
    rintro R a w hz hc ⟨f, L, Qs, st, h1, h2⟩
    obtain ⟨g1, g2⟩ := adv (ro := ro) (n := n) hN hP hO hsel f L Qs st R a w h1 h2
    refine ⟨g1, fun i hi => wpOpIn_mono (fun a' w' hg => ih _ _ _ (by rw [Array.size_setIfInBounds]; exact hz) ?_ hg) (g2 i hi)⟩
    obtain ⟨i1, i2, _⟩ := (mem_ready' hz).1 hi
    have hsz : i < R.size := by omega
    refine Nat.le_of_lt_succ (Nat.lt_of_lt_of_le (countP_lt (fun x _ hx => ?_) i (List.mem_range.2 i1) ?_ ?_) hc)
    · simp only [Bool.not_eq_true'] at hx ⊢
      cases hx' : R.getD x false with
      | false => rfl
      | true => have : Rd (R.setIfInBounds i true) x := (Rd.set hsz).2 (.inr hx'); unfold Rd at this; rw [hx] at this; cases this
    · simp only [Bool.not_eq_true']
      cases hx' : R.getD i false with
      | false => rfl
      | true => exact absurd hx' i2
    · simp only [Bool.not_eq_false']
      exact (Rd.set hsz).2 (.inl rfl)

theorem Rel.drew (h : Rel P E M st a w) : Rel P E M st a { w with drawn := w.drawn + 1 } := by
  have ht : Turn (fun _ => False) w { w with drawn := w.drawn + 1 } := Turn.drew _ w
  exact h.step_same (h.sat.same ht) (ht.mono fun _ hf => hf.elim) (fun _ _ h => h) (fun n g hg => .inl ⟨n, hg⟩) (fun _ _ => rfl) h.len

def noSel (ops : List Oper) : Bool := ops.all fun o => match o.op with | .select .. => false | _ => true

theorem draw_sound {ops : Array Oper} {id : Nat} (hm : P.follows .mixedOrders = true) (hN : ∀ M st a w, Rel P E M st a w → k st → Q .normal a w)
    (hP : ∀ M st a w v u, Rel P E M st a w → RV P w (okW E.X M w) v M.ρ u → kp v st → Q (.panic [{ v := u, recovered := false }]) a w) (hO : True) (h : Rel P E M st a w)
    (hs : noSel ops.toList = true) (hk : drawVC P ops.toList kp k st) : (Code.region id ops true).wpIn (FW ro) n P Q a w := by
  refine wpIn_region_any hm ?_
  have := sim_any (ro := ro) (n := n) (ops := ops.toList) (E := E) hN hP hO (fun i o cs bb ho he => ?_) ops.size (Array.replicate ops.size false) a { w with drawn := w.drawn + 1 } (by simp) ?_
    ⟨_, [], [], st, hk, ⟨M, a, h.drew, rfl, rfl, fun _ _ => rfl⟩, by simp, fun i hi => ?_, by simp, fun i hi => ?_, trivial, by simp, by simp, by simp, by simp, by simp⟩
  · simpa using this
  · have := List.all_eq_true.1 hs o (List.mem_of_getElem? ho)
    rw [he] at this; cases this
  · exact Nat.le_trans List.countP_le_length (by simp)
  · exfalso
    unfold Rd at hi
    rw [Array.getD_eq_getD_getElem?, Array.getElem?_replicate] at hi
    split at hi <;> simp at hi
  · exfalso
    unfold Rd at hi
    rw [Array.getD_eq_getD_getElem?, Array.getElem?_replicate] at hi
    split at hi <;> simp at hi

end
end Go.Proofs.Ytncnnbjhginpfaa
