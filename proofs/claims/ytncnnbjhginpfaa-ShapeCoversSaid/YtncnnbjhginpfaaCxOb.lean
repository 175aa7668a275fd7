/- Regions whose order of evaluation is drawn: the one walk is sound for every order. Conditions: none; plain lemmas. -/
import Derived.Test.YtncnnbjhginpfaaCxOa
namespace Go.Proofs.Ytncnnbjhginpfaa
set_option linter.unusedVariables false
set_option linter.unusedSimpArgs false
set_option linter.unnecessarySimpa false
open Go.RowKit

section
variable {P : Program} {E : En} {M M' : Env} {st st' : St} {a : Act} {w w' : World} {k : St → Prop} {kp : V → St → Prop} {ro : Option Nat} {n : Nat} {ops : List Oper} {Q : Go.Exit → Act → World → Prop}

def Rd (R : Array Bool) (i : Nat) : Prop := R.getD i false = true

theorem Rd.lt {R : Array Bool} {i : Nat} (h : Rd R i) : i < R.size := by
  rcases Nat.lt_or_ge i R.size with hl | hl
  · exact hl
  · simp [Rd, Array.getD_eq_getD_getElem?, Array.getElem?_eq_none hl] at h

theorem Rd.set {R : Array Bool} {i j : Nat} (hi : i < R.size) : Rd (R.setIfInBounds i true) j ↔ (j = i ∨ Rd R j) := by
  unfold Rd
  rw [Array.getD_eq_getD_getElem?, Array.getD_eq_getD_getElem?, Array.getElem?_setIfInBounds]
  by_cases e : i = j
  · subst e; simp [hi]
  · simp [e]; exact fun h => absurd h.symm e

theorem mem_ready' {R : Array Bool} {i : Nat} (hs : R.size = ops.length) :
    i ∈ Region.ready .any ops.toArray R ↔ i < ops.length ∧ ¬ Rd R i ∧ ∀ d ∈ depsAt ops i, Rd R d := by
  unfold Region.ready
  rw [List.mem_filter, List.mem_range]
  simp only [List.size_toArray, Bool.and_eq_true, Bool.not_eq_true']
  refine and_congr_right fun hi => and_congr ?_ ?_
  · unfold Rd
    rw [Array.getD_eq_getD_getElem?, Array.getD_eq_getD_getElem?]
    have : i < R.size := by omega
    rw [Array.getElem?_eq_getElem this]
    simp
  · have ho : ops[i]? = some ops[i] := List.getElem?_eq_getElem hi
    simp only [depsAt, ho, List.getElem?_toArray, Option.map_some, Option.getD_some, depsOf]
    rw [Array.all_eq_true']
    constructor
    · intro h d hd
      obtain ⟨e, he, rfl⟩ := List.mem_map.1 hd
      obtain ⟨he, hb⟩ := List.mem_filter.1 he
      have := h e (by simpa using he)
      rw [hb] at this
      unfold Rd; simpa using this
    · intro h e he
      by_cases hb : Region.binds .any e = true
      · have := h e.on (List.mem_map.2 ⟨e, List.mem_filter.2 ⟨by simpa using he, hb⟩, rfl⟩)
        unfold Rd at this; rw [hb]; simpa using this
      · simp [hb]

theorem ancs_all {p : Nat → Prop} (hp : ∀ i, p i → ∀ d ∈ depsAt ops i, p d) : ∀ (f : Nat) (todo acc : List Nat), (∀ x ∈ todo, p x) → (∀ x ∈ acc, p x) → ∀ x ∈ ancs ops f todo acc, p x := by
  intro f
  induction f with
  | zero => intro todo acc _ h x hx; exact h x hx
  | succ f ih =>
    intro todo acc ht ha x hx
    cases todo with
    | nil => exact ha x hx
    | cons y todo =>
      simp only [ancs] at hx
      split at hx
      · exact ih _ _ (fun z hz => ht z (by simp [hz])) ha x hx
      · refine ih _ _ (fun z hz => ?_) (fun z hz => ?_) x hx
        · rcases List.mem_append.1 hz with h | h
          · exact hp y (ht y (by simp)) z h
          · exact ht z (by simp [h])
        · rcases List.mem_cons.1 hz with h | h
          · exact h ▸ ht y (by simp)
          · exact ha z h

theorem disjB_spec {x y : List Tmp} (h : disjB x y = true) : ∀ t ∈ x, t ∉ y := by
  intro t ht hy
  have := List.all_eq_true.1 h t ht
  simp at this
  exact this hy

def ordL (ops : List Oper) : List Nat → Prop
  | [] => True
  | i :: L => (∀ d ∈ depsAt ops i, d ∈ L) ∧ ordL ops L

theorem ordL_first {R : Array Bool} : ∀ {L : List Nat}, ordL ops L → (∃ i ∈ L, ¬ Rd R i) → ∃ i ∈ L, ¬ Rd R i ∧ ∀ d ∈ depsAt ops i, Rd R d := by
  intro L
  induction L with
  | nil => rintro _ ⟨i, hi, _⟩; cases hi
  | cons j L ih =>
    rintro ⟨h1, h2⟩ ⟨i, hi, hn⟩
    by_cases he : ∃ i ∈ L, ¬ Rd R i
    · obtain ⟨i', a1, a2, a3⟩ := ih h2 he
      exact ⟨i', by simp [a1], a2, a3⟩
    · have hall : ∀ i ∈ L, Rd R i := fun i hi => Classical.not_not.1 fun hn => he ⟨i, hi, hn⟩
      rcases List.mem_cons.1 hi with rfl | hi
      · exact ⟨i, by simp, hn, fun d hd => hall d (h1 d hd)⟩
      · exact absurd (hall i hi) hn

structure Sim (P : Program) (E : En) (ops : List Oper) (L Q : List Nat) (st : St) (R : Array Bool) (a : Act) (w : World) : Prop where
  rel : ∃ M b, Rel P E M st b w ∧ b.tmps.size = a.tmps.size ∧ b.defers = a.defers ∧ ∀ t, (∀ i ∈ L, ¬ Rd R i → t ∉ dstAt ops i) → b.tmps[t]? = a.tmps[t]?
  size : R.size = ops.length
  sub : ∀ i, Rd R i → i ∈ L
  dq : ∀ i ∈ L, ¬ Rd R i → i ∈ Q
  closed : ∀ i, Rd R i → ∀ d ∈ depsAt ops i, Rd R d
  ord : ordL ops L
  lt : ∀ i ∈ L, i < ops.length
  qq : ∀ q ∈ Q, q ∈ L ∧ quietAt ops q = true
  pair : ∀ p ∈ Q, ∀ q ∈ Q, p ≠ q → (∀ t ∈ dstAt ops p, t ∉ dstAt ops q) ∧ (p ∈ anc ops q ∨ ∀ t ∈ dstAt ops p, t ∉ looksAt ops q)
  self : ∀ q ∈ Q, ∀ t ∈ dstAt ops q, t ∉ looksAt ops q
  qv : ∀ q ∈ L, ¬ Rd R q → QV P ops q st

theorem Sim.ancR {L Qs : List Nat} {R : Array Bool} (h : Sim P E ops L Qs st R a w) {q : Nat} (hd : ∀ d ∈ depsAt ops q, Rd R d) : ∀ p ∈ anc ops q, Rd R p :=
  ancs_all h.closed _ _ _ hd (by simp)

theorem eval_of_tmps {a b : Act} {x : Operand} (h : ∀ t, x = .tmp t → b.tmps[t]? = a.tmps[t]?) : a.eval x = b.eval x := by
  cases x with
  | tmp t => simp [Act.eval, h t rfl]
  | _ => rfl

/-- An operation that looks at nothing that is still to come. -/
theorem same_run {o : Oper} {i : Nat} {a b : Act} (ho : ops[i]? = some o) (hl : ∀ t ∈ looksAt ops i, b.tmps[t]? = a.tmps[t]?) (hs : ∀ cs bb, o.op ≠ .select cs bb) :
    execOp a.eval o = execOp b.eval o ∧ Region.wanted o (yielded ops.toArray a.tmps) = Region.wanted o (yielded ops.toArray b.tmps) := by
  simp only [looksAt, ho, looks] at hl
  refine ⟨execOp_congr o hs fun x hx => eval_of_tmps fun t ht => hl t ?_, ?_⟩
  · refine List.mem_append_left _ (List.mem_filterMap.2 ⟨x, opsL_mem _ _ hx, by rw [ht]⟩)
  · unfold Region.wanted
    cases hg : o.guard with
    | none => rfl
    | some gw =>
      obtain ⟨g, want⟩ := gw
      have : yielded ops.toArray a.tmps g = yielded ops.toArray b.tmps g := by
        unfold yielded
        cases ht : (ops.toArray[g]?).bind (·.dst) with
        | none => rfl
        | some t =>
          have := hl t (List.mem_append_right _ (by simp only [hg]; rw [show (ops[g]?).bind (·.dst) = some t by simpa using ht]; simp))
          simp only [Option.bind_some, this]
      simp only [this]

theorem opVC_noselect {o : Op} {k : V → St → Prop} (h : opVC P o st k kp) : ∀ cs bb, o ≠ .select cs bb := by
  rintro cs bb rfl; exact h
theorem opVC_nodefer {o : Op} {k : V → St → Prop} (h : opVC P o st k kp) : ∀ c, o ≠ .defer c := by
  rintro c rfl; exact h

theorem put_get {a : Act} {dst : Option Tmp} {u : Value} {t : Tmp} (h : ∀ d, dst = some d → d ≠ t) : (a.put dst u).tmps[t]? = a.tmps[t]? := by
  cases dst with
  | none => rfl
  | some d => simp [Act.put, Array.getElem?_setIfInBounds_ne (h d rfl)]

theorem put_both {a b : Act} {dst : Option Tmp} {u : Value} {t : Tmp} (hz : b.tmps.size = a.tmps.size) (h : (∀ d, dst = some d → d ≠ t) → b.tmps[t]? = a.tmps[t]?) : (b.put dst u).tmps[t]? = (a.put dst u).tmps[t]? := by
  cases dst with
  | none => exact h (by simp)
  | some d =>
    by_cases e : d = t
    · subst e; simp [Act.put, Array.getElem?_setIfInBounds, hz]
    · rw [put_get (by rintro _ ⟨⟩; exact e), put_get (by rintro _ ⟨⟩; exact e)]; exact h (by rintro _ ⟨⟩; exact e)

theorem put_size {a : Act} {dst : Option Tmp} {u : Value} : (a.put dst u).tmps.size = a.tmps.size := by cases dst <;> simp [Act.put]
theorem put_def {a : Act} {dst : Option Tmp} {u : Value} : (a.put dst u).defers = a.defers := by cases dst <;> rfl

theorem slotAt_put {o : Oper} {i : Nat} (ho : ops[i]? = some o) : st.put o.dst (slotAt ops st i) = st := by
  simp only [slotAt, ho, Option.bind_some]
  cases o.dst with
  | none => rfl
  | some d => exact put_self rfl

theorem mem_dstAt {o : Oper} {i t : Nat} (ho : ops[i]? = some o) : t ∈ dstAt ops i ↔ o.dst = some t := by
  simp only [dstAt, ho, Option.bind_some]
  cases o.dst <;> simp [eq_comm]

theorem keptT_spec {l : List Tmp} (h : keptT st st' l) : ∀ t ∈ l, st'.slot t = st.slot t := by
  induction l with
  | nil => intro t ht; cases ht
  | cons x l ih => intro t ht; rcases List.mem_cons.1 ht with rfl | ht; exact h.1; exact ih h.2 t ht
theorem keptN_spec {l : List Operand} (h : keptN st st' l) : ∀ x ∈ l, ∀ n, nm (st.ev x) = some n → st'.σ[n]? = st.σ[n]? := by
  induction l with
  | nil => intro x hx; cases hx
  | cons y l ih =>
    intro x hx n hn
    rcases List.mem_cons.1 hx with rfl | hx
    · have := h.1; rw [hn] at this; exact this
    · exact ih h.2 x hx n hn
theorem keptVC_spec {i : Nat} (h : keptVC ops i st st') : Kept ops i st st' := by
  unfold keptVC at h; unfold Kept
  split at h
  · exact ⟨keptT_spec h.1, h.2.1, keptN_spec h.2.2⟩
  · trivial

theorem allP_spec {l : List Nat} {p : Nat → Prop} (h : allP l p) : ∀ x ∈ l, p x := by
  induction l with
  | nil => intro x hx; cases hx
  | cons y l ih =>
    cases l with
    | nil => intro x hx; simp at hx; subst hx; exact h
    | cons z l =>
      intro x hx
      simp only [allP] at h
      rcases List.mem_cons.1 hx with rfl | hx
      · exact h.1
      · exact ih h.2 x hx

/-- A quiet operation's value stays while what it looks at stays. -/
theorem QV.kept {i : Nat} (hq : quietAt ops i = true) (h : QV P ops i st) (hk : Kept ops i st st') : QV P ops i st' := by
  unfold quietAt at hq
  cases ho : ops[i]? with
  | none => simp [ho] at hq
  | some o =>
    simp only [ho] at hq
    simp only [QV, ho] at h ⊢
    simp only [Kept, ho] at hk
    obtain ⟨k1, k2, k3⟩ := hk
    have hrun : opVC P o.op st (fun v _ => v = slotAt ops st i) (fun _ _ => False) → opVC P o.op st' (fun v _ => v = slotAt ops st' i) (fun _ _ => False) := fun h => by
      obtain ⟨r, h1, h2⟩ := quiet_rep hq h
      refine h2 st' _ _ (fun x hx => ?_) k3 (by rw [k2]; exact h1)
      cases x with
      | tmp t => exact k1 t (List.mem_append_left _ (List.mem_filterMap.2 ⟨.tmp t, hx, rfl⟩))
      | _ => rfl
    rw [want_iff] at h ⊢
    rw [gv_kept k1, k2]
    rcases h with ⟨h1, h2⟩ | ⟨h1, h2⟩
    · exact .inl ⟨h1, k2 ▸ hrun h2⟩
    · exact .inr ⟨h1, h2⟩

theorem slot_put {d t : Nat} {v : V} (h : d ≠ t) : (st.put (some d) v).slot t = st.slot t := by
  simp [St.slot, St.put, List.getElem?_set_ne h]

theorem ev_put {dst : Option Tmp} {v : V} {x : Operand} (h : ∀ d t, dst = some d → x = .tmp t → d ≠ t) : (st.put dst v).ev x = st.ev x := by
  cases dst with
  | none => rfl
  | some d =>
    cases x with
    | tmp t => exact slot_put (h d t rfl rfl)
    | _ => rfl

theorem looks_put {o : Oper} {dst : Option Tmp} {v : V} (h : ∀ d, dst = some d → d ∉ looks ops o) : ∀ t ∈ looks ops o, (st.put dst v).slot t = st.slot t := by
  intro t ht
  cases dst with
  | none => rfl
  | some d => exact slot_put fun e => h d rfl (e ▸ ht)

/-- A quiet operation is done ahead. -/
theorem Sim.virt {L Qs : List Nat} {R : Array Bool} (h : Sim P E ops L Qs st R a w) {i : Nat} {o : Oper} (ho : ops[i]? = some o) (hi : isReady ops L i = true) (hq : isQ o.op = true)
    (hc : clearQ ops Qs i = true) (hb : inB ops st i = true) {G : St → Prop}
    (hk : wantVC ops o st (fun s => opVC P o.op s (fun v s' => G (s'.put o.dst v)) (fun _ _ => False)) (fun s => G (s.put o.dst .undef))) :
    ∃ v, G (st.put o.dst v) ∧ Sim P E ops (i :: L) (i :: Qs) (st.put o.dst v) R a w := by
  obtain ⟨M, b, r1, r2, r3, r4⟩ := h.rel
  simp only [isReady, Bool.and_eq_true, Bool.not_eq_true', List.all_eq_true] at hi
  have hiL : i ∉ L := fun hm => by have := List.contains_iff_mem.2 hm; rw [hi.1] at this; cases this
  have hdL : ∀ d ∈ depsAt ops i, d ∈ L := fun d hd => List.contains_iff_mem.1 (hi.2 d hd)
  have hiR : ¬ Rd R i := fun hr => hiL (h.sub i hr)
  simp only [clearQ, clear, Bool.and_eq_true, List.all_eq_true, Bool.or_eq_true] at hc
  obtain ⟨⟨hc1, hc2⟩, hc3⟩ := hc
  have hlt : i < ops.length := (List.getElem?_eq_some_iff.1 ho).1
  have hself : ∀ d, o.dst = some d → d ∉ looks ops o := fun d hd => by
    have := disjB_spec hc2 d ((mem_dstAt ho).2 hd)
    simpa [looksAt, ho] using this
  have hslot : ∀ v, slotAt ops (st.put o.dst v) i = v := fun v => by
    simp only [inB, ho, Option.bind_some] at hb
    simp only [slotAt, ho, Option.bind_some]
    cases hd : o.dst with
    | none => simp [hd] at hb
    | some d =>
      simp only [hd] at hb
      have hlt : d < st.slots.length := by simpa using hb
      simp [St.slot, St.put, List.getElem?_set_self hlt]
  have fin : ∀ v u, RV P w (okW E.X M w) v M.ρ u → QV P ops i (st.put o.dst v) → Sim P E ops (i :: L) (i :: Qs) (st.put o.dst v) R a w := fun v u hv hqv => by
    refine ⟨⟨M, b.put o.dst u, r1.put hv o.dst, by rw [put_size]; exact r2, by rw [put_def]; exact r3, fun t ht => ?_⟩, h.size, fun j hj => List.mem_cons_of_mem _ (h.sub j hj), fun j hj hn => ?_, h.closed, ⟨hdL, h.ord⟩, fun j hj => ?_, fun q hq' => ?_, fun p hp q hq' hne => ?_, fun q hq' => ?_, fun q hq' hn => ?_⟩
    · rw [put_get fun d hd e => ht i (by simp) hiR ((mem_dstAt ho).2 (by rw [← e]; exact hd))]
      exact r4 t fun j hj hn => ht j (by simp [hj]) hn
    · rcases List.mem_cons.1 hj with rfl | hj
      · simp
      · exact List.mem_cons_of_mem _ (h.dq j hj hn)
    · rcases List.mem_cons.1 hj with rfl | hj
      · exact hlt
      · exact h.lt j hj
    · rcases List.mem_cons.1 hq' with rfl | hq'
      · exact ⟨by simp, by simp [quietAt, ho, hq]⟩
      · exact ⟨List.mem_cons_of_mem _ (h.qq q hq').1, (h.qq q hq').2⟩
    · rcases List.mem_cons.1 hp with e1 | p1
      · rcases List.mem_cons.1 hq' with e2 | q1
        · exact absurd (e1.trans e2.symm) hne
        · subst e1
          have h3 := hc3 q q1
          exact ⟨disjB_spec h3.2, .inr (disjB_spec h3.1)⟩
      · rcases List.mem_cons.1 hq' with e2 | q1
        · subst e2
          have h3 := hc3 p p1
          refine ⟨fun t ht ht' => disjB_spec h3.2 t ht' ht, ?_⟩
          rcases hc1 p p1 with h1 | h1
          · exact .inl (List.contains_iff_mem.1 h1)
          · exact .inr (disjB_spec h1.1)
        · exact h.pair p p1 q q1 hne
    · rcases List.mem_cons.1 hq' with rfl | hq'
      · exact disjB_spec hc2
      · exact h.self q hq'
    · rcases List.mem_cons.1 hq' with rfl | hq'
      · exact hqv
      · have hqQ := h.dq q hq' hn
        have h3 := hc3 q hqQ
        refine (h.qv q hq' hn).kept (h.qq q hqQ).2 ?_
        unfold Kept
        cases hoq : ops[q]? with
        | none => trivial
        | some oq =>
          have hnl : ∀ d, o.dst = some d → d ∉ looks ops oq := fun d hd => by
            have := disjB_spec h3.1 d ((mem_dstAt ho).2 hd)
            simpa [looksAt, hoq] using this
          refine ⟨looks_put hnl, ?_, fun x hx n hn => by cases hd : o.dst <;> rfl⟩
          simp only [slotAt, hoq, Option.bind_some]
          cases hdq : oq.dst with
          | none => rfl
          | some dq =>
            cases hd : o.dst with
            | none => rfl
            | some d => exact slot_put fun e => disjB_spec h3.2 d ((mem_dstAt ho).2 hd) (by rw [mem_dstAt hoq, hdq, e])
  rcases want_iff.1 hk with ⟨g1, g2⟩ | ⟨g1, g2⟩
  · obtain ⟨r, e1, e2⟩ := quiet_rep hq g2
    have hQ : Quiet P E M st b w (execOp b.eval o) (fun v _ => v = r) := quiet_ok (kp := fun _ _ => False) hq r1 (e2 st _ _ (fun _ _ => rfl) (fun _ _ _ _ => rfl) rfl)
    cases hQ with
    | val hr hk hs hv =>
      subst hk
      refine ⟨_, e1, fin _ _ hv ?_⟩
      simp only [QV, ho]
      rw [want_iff, gv_kept (looks_put hself)]
      refine .inl ⟨g1, e2 _ _ _ (fun x hx => ev_put fun d t hd hx' => ?_) (fun x hx n hn => by cases hd : o.dst <;> rfl) (hslot _).symm⟩
      subst hx'
      exact fun e => hself d hd (e ▸ List.mem_append_left _ (List.mem_filterMap.2 ⟨.tmp t, hx, rfl⟩))
  · refine ⟨.undef, g2, fin .undef undef (by simp [RV]) ?_⟩
    simp only [QV, ho]
    rw [want_iff, gv_kept (looks_put hself)]
    exact .inr ⟨g1, hslot _⟩

end
end Go.Proofs.Ytncnnbjhginpfaa
