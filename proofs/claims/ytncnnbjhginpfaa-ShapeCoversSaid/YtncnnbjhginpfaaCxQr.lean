/- A round's contract from what must be shown of the loop's code. Conditions: none; plain definitions and lemmas. -/
import Derived.Test.YtncnnbjhginpfaaCxQ
namespace Go.Proofs.Ytncnnbjhginpfaa
set_option linter.unusedVariables false
set_option linter.unusedSimpArgs false
set_option linter.unnecessarySimpa false
open Go.RowKit

def setV (tmps : List V) (ps : List (Tmp × V)) : List V := ps.foldl (fun s p => s.set p.1 p.2) tmps

/-- A round's end. -/
def roundFin (P : Program) (n0 i : Nat) (R : Out → List Ob → Prop) (p : Option Code) (s : St) : Prop :=
  match s.σ[i]? with
  | some (.loop L) => GS P n0 ⟨[.bool p.isNone], s.σ.set i (.loop { L with state := if p.isNone then .ready else .done, pending := p })⟩ fun s' => R (.ret (s'.slot 0)) s'.σ
  | _ => False
def roundK (P : Program) (n0 i : Nat) (R : Out → List Ob → Prop) : AEx → St → Prop
  | .norm, s => roundFin P n0 i R none s
  | .ret, s => roundFin P n0 i R (some .ret) s
  | .exit id, s => roundFin P n0 i R (some (.exit id)) s
  | .pan _, _ => False
def roundB (P : Program) (n0 i : Nat) (body : Code) (R : Out → List Ob → Prop) : AEx → St → Prop
  | .norm, s => (match s.σ[i]? with | some (.loop L) => L.state = .ready ∧ vc P n0 body (roundK P n0 i R) ⟨s.slots, s.σ.set i (.loop { L with state := .busy })⟩ | _ => False)
  | _, _ => False
/-- What must be shown of a round. -/
def roundOK (P : Program) (i : Nat) (args : List V) (σ : List Ob) (R : Out → List Ob → Prop) : Prop :=
  match σ[i]? with
  | some (.loop L) => L.state = .ready ∧ args.length = L.params.size ∧ noRange L.assign = true ∧ noRange L.body = true ∧ vc P σ.length L.assign (roundB P σ.length i L.body R) ⟨setV L.tmps (L.params.toList.zip args), σ⟩
  | _ => False

section
variable {P : Program} {E : En} {M M' : Env} {st st' : St} {a : Act} {w w' : World} {X : Nat → Prop} {σ σ' : List Ob} {ok : Nat → Prop} {ρ : Nat → Option Nat}

theorem rvs_set {vs : List V} {us : List Value} {v : V} {u : Value} (h : RVs P w ok vs ρ us) (hv : RV P w ok v ρ u) (t : Nat) : RVs P w ok (vs.set t v) ρ (us.set t u) := by
  refine RVs.mk (by simp [h.len]) fun i x y hx hy => ?_
  rw [List.getElem?_set] at hx hy
  by_cases e : t = i
  · subst e
    have hl := h.len
    by_cases hlt : t < vs.length
    · simp [hlt] at hx; simp [show t < us.length by omega] at hy; subst hx hy; exact hv
    · simp [hlt] at hx
  · rw [if_neg e] at hx hy
    obtain ⟨u', h1, h2⟩ := h.get hx
    rw [h1] at hy; cases hy; exact h2

theorem setV_rvs : ∀ (ps : List Tmp) (args : List V) (us : List Value) (vs : List V) (tmps : Array Value), RVs P w ok args ρ us → RVs P w ok vs ρ tmps.toList →
    RVs P w ok (setV vs (ps.zip args)) ρ ((ps.zip us).foldl (fun tmps (t, a) => tmps.setIfInBounds t a) tmps).toList := by
  intro ps
  induction ps with
  | nil => intro args us vs tmps _ h; simpa [setV] using h
  | cons t ps ih =>
    intro args us vs tmps ha h
    cases args with
    | nil => simp only [RVs] at ha; subst ha; simpa [setV] using h
    | cons v args =>
      simp only [RVs] at ha
      obtain ⟨u, us', rfl, h1, h2⟩ := ha
      have := ih args us' (vs.set t v) (tmps.setIfInBounds t u) h2 (by rw [Array.toList_setIfInBounds]; exact rvs_set h h1 t)
      simpa [setV] using this

/-- The record is turned. -/
theorem Rel.setLoop (h : Rel P E M st a w) {i l : Nat} {L : LoopD} (hi : st.σ[i]? = some (.loop L)) (hl : M.ρ i = some l) :
    ∃ r, w.heap[l]? = some (.loop r) ∧ r.state = L.state ∧ r.params = L.params ∧ r.assign = L.assign ∧ r.body = L.body ∧ RVs P w (okW E.X M w) L.tmps M.ρ r.tmps.toList ∧
      ∀ s p, Rel P E M ⟨st.slots, st.σ.set i (.loop { L with state := s, pending := p })⟩ a (w.putObj l (.loop { r with state := s, pending := p })) := by
  obtain ⟨l', r, o1, o2, o3, o4, o5, o6, o7, o8, o9⟩ := h.sat.ob _ _ hi
  rw [hl] at o1; cases o1
  refine ⟨r, o3, o7, o4, o5, o6, o9, fun s p => ?_⟩
  have hlt := heap_lt o3
  have ht : Turn (M.fp i) w (w.putObj l (.loop { r with state := s, pending := p })) :=
    ⟨rfl, rfl, rfl, by simp, fun b hb hn => World.putObj_heap_other fun e => hn ((o2 b).2 e), fun b z hz => by
      by_cases e : b = l
      · subst e; simp [World.shape?, o3] at hz
      · rw [shape_of_heap (World.putObj_heap_other e)]; exact hz⟩
  have hnl := (List.getElem?_eq_some_iff.1 hi).1
  have h9 := RVs.ren_ (π := some) (later_step (X := E.X) (M := M) (M' := M) (ht.mono fun b hb => ⟨i, hb⟩) (fun n g hg => .inl ⟨n, hg⟩)) (fun n m g e h => by cases e; exact h) _ _ o9
  rw [V.rens_some] at h9
  have hs := h.sat.update hnl (.loop { L with state := s, pending := p }) ht ⟨l, _, hl, o2, World.putObj_heap_same hlt, o4, o5, o6, rfl, rfl, h9⟩
  exact h.step_same hs (ht.mono fun b hb => ⟨_, hb⟩) (fun _ _ h => h) (fun n g hg => .inl ⟨n, hg⟩) (fun _ _ => rfl) (by have := h.len; simpa using this)

/-- What a round's body must achieve; a machine that is outgrown is let out. -/
def roundP (P : Program) (l : Nat) (R : Ending → World → Prop) : Go.Exit → Act → World → Prop
  | .normal, _, w => ∃ v w', (Instr.endRound l none).run P w = .ok v w' ∧ R (.returned v) w'
  | .ret, _, w => ∃ v w', (Instr.endRound l (some .ret)).run P w = .ok v w' ∧ R (.returned v) w'
  | .exit id, _, w => ∃ v w', (Instr.endRound l (some (.exit id))).run P w = .ok v w' ∧ R (.returned v) w'
  | .outgrown, _, w => R .outgrown w
  | _, _, _ => False

/-- A round out of its walk. -/
theorem round_walk {ro : Option Nat} {n l : Nat} {f : FuncId} {tmps : Array Value} {assign body : Code} {R : Ending → World → Prop}
    (h : assign.wpIn (FW (some l)) n P (fun e a1 w1 => match e with
      | .normal => ∃ w2, (Instr.beginRound l).run P w1 = .ok () w2 ∧ body.wpIn (FW (some l)) n P (roundP P l R) a1 w2
      | .outgrown => R .outgrown w1
      | _ => False) { tmps := tmps, defers := [] } w) : RoundIn (FW ro) n P l f tmps assign body w R := by
  refine ⟨trivial, fun c cs hroom => ?_⟩
  let b : Frame := { (default : Frame) with fn := f, kind := .normal, roundOf := some l }
  have e0 : Frame.round l f tmps assign body .normal = b.atR { tmps := tmps, defers := [] } [.code assign, .beginRound, .code body] := by simp [Frame.round, Frame.atR, b]
  have calm : ∀ (a : Act) (k : List Item) (w : World), (b.atR a k).about P w = none → (lone (b.atR a k) (c :: cs) w).fenced P (FW ro) := fun a k w ha => fenced_calm (n := n) trivial hroom ha
  obtain ⟨e, a1, w1, hq, harr⟩ := h b [.beginRound, .code body] (c :: cs) rfl trivial hroom
  rw [← e0] at harr
  cases e with
  | normal =>
    obtain ⟨w2, hb, hbody⟩ := hq
    have s1 : StepsIn (Machine.fenced P (FW ro)) P (lone (b.atR a1 [.beginRound, .code body]) (c :: cs) w1) (lone (b.atR a1 [.code body]) (c :: cs) w2) := .one (calm _ _ _ rfl) (stepR_beginRound rfl hb)
    have s01 := StepsIn.trans harr s1
    obtain ⟨e2, a2, w3, hq2, harr2⟩ := hbody b [] (c :: cs) rfl trivial hroom
    cases e2 with
    | normal =>
      obtain ⟨v, w4, hend, hR⟩ := hq2
      exact ⟨.returned v, w4, hR, (StepsIn.trans s01 harr2).trans (.one (calm _ _ _ rfl) (stepR_round_end rfl rfl hend))⟩
    | ret =>
      obtain ⟨v, w4, hend, hR⟩ := hq2
      obtain ⟨k1, hs⟩ := harr2.2 rfl
      exact ⟨.returned v, w4, hR, (StepsIn.trans s01 hs).trans (.one (calm _ _ _ rfl) (stepR_round_ret rfl rfl hend))⟩
    | exit id =>
      obtain ⟨v, w4, hend, hR⟩ := hq2
      obtain ⟨k1, hk, hs⟩ := harr2.2 rfl rfl
      exact ⟨.returned v, w4, hR, (StepsIn.trans s01 hs).trans (.one (calm _ _ _ rfl) (stepR_round_exit rfl rfl hk hend))⟩
    | outgrown => exact ⟨.outgrown, w3, hq2, Outgrown.of_steps s01.steps (harr2.resolve_left (by simp [b]))⟩
    | goto t => exact hq2.elim
    | panic ch => exact hq2.elim
  | outgrown => exact ⟨.outgrown, w1, hq, harr.resolve_left (by simp [b])⟩
  | exit id => exact hq.elim
  | goto t => exact hq.elim
  | ret => exact hq.elim
  | panic ch => exact hq.elim

/-- A ROUND'S CONTRACT FROM THE LOOP'S CODE. -/
theorem ARound.of_vc {i : Nat} {args : List V} {R : Out → List Ob → Prop} (hm : P.follows .mixedOrders = true) (hk : roundOK P i args σ R) : ARound P i args σ R := by
  intro X M w us l hs hl hv
  unfold roundOK at hk
  split at hk
  · rename_i L hi
    obtain ⟨k1, k2, k3, k4, hk⟩ := hk
    obtain ⟨l', r, o1, o2, o3, o4, o5, o6, o7, o8, o9⟩ := hs.ob _ _ hi
    rw [hl] at o1; cases o1
    have hlen : us.toArray.size = r.params.size := by rw [o4, ← k2, ← hv.len]; simp
    refine ⟨r.fn, _, r.assign, r.body, run_yield o3 hlen, fun ro n => ?_⟩
    have hin : i < σ.length := (List.getElem?_eq_some_iff.1 hi).1
    let E : En := ⟨X, fun g => ∃ n, M.fp n g, w, σ.length, M.ρ, []⟩
    let a0 : Act := { tmps := (r.params.zip us.toArray).foldl (fun tmps (t, a) => tmps.setIfInBounds t a) r.tmps, defers := [] }
    have hslots : RVs P w (okW X M w) (setV L.tmps (L.params.toList.zip args)) M.ρ a0.tmps.toList := by
      have := setV_rvs L.params.toList args us L.tmps r.tmps hv o9
      have e : (r.params.zip us.toArray).foldl (fun tmps (t, a) => tmps.setIfInBounds t a) r.tmps = (L.params.toList.zip us).foldl (fun tmps (t, a) => tmps.setIfInBounds t a) r.tmps := by
        rw [← Array.foldl_toList, Array.toList_zip, o4]
      show RVs P w (okW X M w) _ M.ρ ((r.params.zip us.toArray).foldl (fun tmps (t, a) => tmps.setIfInBounds t a) r.tmps).toList
      rw [e]; exact this
    have hrel : Rel P E M ⟨setV L.tmps (L.params.toList.zip args), σ⟩ a0 w := by
      refine ⟨hs, fun t => ?_, by have := hslots.len; simpa using this, ⟨[], rfl, List.nodup_nil, fun D hD => by simp at hD⟩, Turn.refl _ _, fun n g hg => .inl ⟨n, hg⟩, fun _ _ => rfl, Nat.le_refl _⟩
      show RV P w (okW X M w) _ M.ρ _
      rw [St.slot, List.getD_eq_getElem?_getD, Array.getD_eq_getD_getElem?, ← Array.getElem?_toList]
      cases hc : (setV L.tmps (L.params.toList.zip args))[t]? with
      | none => simp [RV]
      | some v =>
        obtain ⟨u, e1, e2⟩ := hslots.get hc
        rw [e1]; exact e2
    have hfin : ∀ (p : Option Code) (M' : Env) (st' : St) (a' : Act) (w' : World), Rel P E M' st' a' w' → roundFin P σ.length i R p st' →
        ∃ v w'', (Instr.endRound l p).run P w' = .ok v w'' ∧ AOut P X M σ.length w R (.returned v) w'' := fun p M' st' a' w' h hf => by
      unfold roundFin at hf
      split at hf
      · rename_i L2 hL2
        have hl2 : M'.ρ i = some l := by rw [h.lent i hin]; exact hl
        obtain ⟨r2, q1, q2, q3, q4, q5, q6, q7⟩ := h.setLoop hL2 hl2
        have h2 := q7 (if p.isNone then .ready else .done) p
        have h3 : Rel P E M' ⟨[.bool p.isNone], st'.σ.set i (.loop { L2 with state := if p.isNone then .ready else .done, pending := p })⟩ ⟨#[.bool p.isNone], a'.defers⟩ _ :=
          ⟨h2.sat, fun t => by cases t with | zero => simp [St.slot, RV] | succ t => simp [St.slot, RV], rfl, h2.df, h2.fr, h2.own, h2.lent, h2.len⟩
        obtain ⟨M2, st2, g3, h4⟩ := hf E M' _ _ rfl h3
        refine ⟨_, _, run_endRound p q1, M2, _, _, g3, h4.sat, h4.len, ⟨h4.fr, h4.own, h4.lent⟩, h4.sl 0⟩
      · exact hf.elim
    refine round_walk ?_
    rw [o5, o6]
    refine wpIn_mono (vc_sound (ro := some l) (n := n) hm L.assign (.inr k3) _ _ E M a0 w hk hrel) fun e a1 w1 hp => ?_
    cases e with
    | normal =>
      obtain ⟨M1, st1, h1, h2⟩ := hp
      simp only [roundB] at h2
      split at h2
      · rename_i L1 hL1
        obtain ⟨g1, g2⟩ := h2
        have hl1 : M1.ρ i = some l := by rw [h1.lent i hin]; exact hl
        obtain ⟨r1, q1, q2, q3, q4, q5, q6, q7⟩ := h1.setLoop hL1 hl1
        refine ⟨_, run_beginRound q1 (q2.trans g1), ?_⟩
        obtain ⟨_, r1', p1, p2, p3, p4, p5, p6, p7, p8, p9⟩ := h1.sat.ob _ _ hL1
        have hpp : r1.pending = L1.pending := by
          rw [hl1] at p1; cases p1
          rw [q1] at p3; cases p3; exact p8
        have h3 := q7 .busy L1.pending
        rw [← hpp] at h3
        have h4 : Rel P E M1 ⟨st1.slots, st1.σ.set i (.loop { L1 with state := .busy })⟩ a1 (w1.putObj l (.loop { r1 with state := .busy })) := by
          have e : ({ L1 with state := .busy, pending := r1.pending } : LoopD) = { L1 with state := .busy } := by rw [hpp]
          rw [← e]; exact h3
        refine wpIn_mono (vc_sound (ro := some l) (n := n) hm L.body (.inr k4) _ _ E M1 a1 _ g2 h4) fun e a2 w2 hp2 => ?_
        cases e with
        | normal => obtain ⟨M2, st2, j1, j2⟩ := hp2; exact hfin none M2 st2 a2 w2 j1 j2
        | ret => obtain ⟨M2, st2, j1, j2⟩ := hp2; exact hfin (some .ret) M2 st2 a2 w2 j1 j2
        | exit id => obtain ⟨M2, st2, j1, j2⟩ := hp2; exact hfin (some (.exit id)) M2 st2 a2 w2 j1 j2
        | goto t => exact hp2.elim
        | panic c => obtain ⟨M2, st2, v, u, _, _, _, j⟩ := hp2; exact j.elim
        | outgrown => exact hp2.elim
      · exact h2.elim
    | exit id => obtain ⟨M1, st1, h1, h2⟩ := hp; exact h2.elim
    | ret => obtain ⟨M1, st1, h1, h2⟩ := hp; exact h2.elim
    | goto t => exact hp.elim
    | panic c => obtain ⟨M1, st1, v, u, _, _, _, j⟩ := hp; exact j.elim
    | outgrown => exact hp.elim
  · exact hk.elim

end
end Go.Proofs.Ytncnnbjhginpfaa
