/- A frame's state by names; how a step of memory carries it on. Conditions: none; plain definitions and lemmas. -/
import Derived.Test.YtncnnbjhginpfaaCxB
namespace Go.Proofs.Ytncnnbjhginpfaa
set_option linter.unusedVariables false
set_option linter.unusedSimpArgs false
set_option linter.unnecessarySimpa false
open Go.RowKit

structure St where
  slots : List V
  σ : List Ob

/-- What is fixed while a body runs. -/
structure En where
  X : Nat → Prop
  own0 : Nat → Prop
  w0 : World
  n0 : Nat
  ρ0 : Nat → Option Nat
  ds : List Deferred

def St.slot (st : St) (t : Nat) : V := st.slots.getD t .undef
def St.put (st : St) (dst : Option Tmp) (v : V) : St := match dst with | some d => { st with slots := st.slots.set d v } | none => st
def St.setOb (st : St) (n : Nat) (o : Ob) : St := { st with σ := st.σ.set n o }

/-- What is deferred: marks of ranges over functions (of blocks that are nobody's, with no calls in them), and what was deferred before. -/
def DefOk (E : En) (M : Env) (w : World) (ds : List Deferred) : Prop :=
  ∃ Ds : List Nat, ds = Ds.map (fun D => { target := .collected D, args := #[] }) ++ E.ds ∧ Ds.Nodup ∧ ∀ D ∈ Ds, E.w0.heap.size ≤ D ∧ w.heap[D]? = some (.deferred (some [])) ∧ (∀ n, ¬ M.fp n D) ∧ ¬ E.X D

theorem DefOk.step {E : En} {M M' : Env} {w w' : World} {ds : List Deferred} (h : DefOk E M w ds) (ht : Turn (fun g => ∃ n, M.fp n g) w w') (hown : ∀ n g, M'.fp n g → (∃ m, M.fp m g) ∨ w.heap.size ≤ g) : DefOk E M' w' ds := by
  obtain ⟨Ds, h1, h2, h3⟩ := h
  refine ⟨Ds, h1, h2, fun D hD => ?_⟩
  obtain ⟨g1, g2, g3, g4⟩ := h3 D hD
  have hlt := (Array.getElem?_eq_some_iff.1 g2).1
  refine ⟨g1, by rw [ht.blk D hlt fun ⟨n, hn⟩ => g3 n hn]; exact g2, fun n hn => ?_, g4⟩
  rcases hown n D hn with ⟨m, hm⟩ | h
  · exact g3 m hm
  · omega

structure Rel (P : Program) (E : En) (M : Env) (st : St) (a : Act) (w : World) : Prop where
  sat : Sat P E.X M st.σ w
  sl : ∀ t, RV P w (okW E.X M w) (st.slot t) M.ρ (a.tmps.getD t undef)
  sz : a.tmps.size = st.slots.length
  df : DefOk E M w a.defers
  fr : Turn E.own0 E.w0 w
  own : ∀ n g, M.fp n g → E.own0 g ∨ E.w0.heap.size ≤ g
  lent : ∀ n, n < E.n0 → M.ρ n = E.ρ0 n
  len : E.n0 ≤ st.σ.length

section
variable {P : Program} {E : En} {M M' : Env} {st : St} {a : Act} {w w' : World} {X : Nat → Prop} {σ σ' : List Ob} {π : Nat → Option Nat}

theorem okW_step (ht : Turn (fun g => ∃ n, M.fp n g) w w') (hown : ∀ n g, M'.fp n g → (∃ m, M.fp m g) ∨ w.heap.size ≤ g) : ∀ g, okW X M w g → okW X M' w' g := by
  rintro g ⟨h1, h2, h3⟩
  refine ⟨Nat.lt_of_lt_of_le h1 ht.size, h2, fun n hn => ?_⟩
  rcases hown n g hn with ⟨m, hm⟩ | h
  · exact h3 m hm
  · omega

theorem later_step (ht : Turn (fun g => ∃ n, M.fp n g) w w') (hown : ∀ n g, M'.fp n g → (∃ m, M.fp m g) ∨ w.heap.size ≤ g) : Later w w' (okW X M w) (okW X M' w') :=
  ht.later (fun g hg => ⟨hg.1, fun ⟨n, hn⟩ => hg.2.2 n hn⟩) (okW_step ht hown)

theorem Rel.step (h : Rel P E M st a w) (hs : Sat P E.X M' σ' w') (ht : Turn (fun g => ∃ n, M.fp n g) w w')
    (hπ : ∀ n m g, π n = some m → M.ρ n = some g → M'.ρ m = some g) (hown : ∀ n g, M'.fp n g → (∃ m, M.fp m g) ∨ w.heap.size ≤ g)
    (hlent : ∀ n, n < E.n0 → M'.ρ n = M.ρ n) (hlen : E.n0 ≤ σ'.length) : Rel P E M' ⟨st.slots.map (V.ren π), σ'⟩ a w' where
  sat := hs
  sl := fun t => by
    have h1 := h.sl t
    simp only [St.slot, List.getD_eq_getElem?_getD, List.getElem?_map] at h1 ⊢
    cases hc : st.slots[t]? with
    | none => simp [RV]
    | some v =>
      simp [hc] at h1 ⊢
      exact RV.ren_ (later_step ht hown) hπ _ _ h1
  sz := by simpa using h.sz
  df := h.df.step ht hown
  fr := h.fr.trans (ht.mono fun g ⟨n, hn⟩ => h.own n g hn)
  own := fun n g hn => by
    rcases hown n g hn with ⟨m, hm⟩ | hg
    · exact h.own m g hm
    · exact .inr (Nat.le_trans h.fr.size hg)
  lent := fun n hn => (hlent n hn).trans (h.lent n hn)
  len := hlen

theorem Rel.step_same (h : Rel P E M st a w) (hs : Sat P E.X M' σ' w') (ht : Turn (fun g => ∃ n, M.fp n g) w w')
    (hρ : ∀ n g, M.ρ n = some g → M'.ρ n = some g) (hown : ∀ n g, M'.fp n g → (∃ m, M.fp m g) ∨ w.heap.size ≤ g)
    (hlent : ∀ n, n < E.n0 → M'.ρ n = M.ρ n) (hlen : E.n0 ≤ σ'.length) : Rel P E M' { st with σ := σ' } a w' := by
  have := h.step (π := some) hs ht (fun n m g e h => by cases e; exact hρ n g h) hown hlent hlen
  have e : st.slots.map (V.ren some) = st.slots := by rw [← V.rens_eq, V.rens_some]
  rwa [e] at this

theorem Rel.put (h : Rel P E M st a w) {v : V} {u : Value} (hv : RV P w (okW E.X M w) v M.ρ u) (dst : Option Tmp) : Rel P E M (st.put dst v) (a.put dst u) w := by
  cases dst with
  | none => exact h
  | some d =>
    refine ⟨h.sat, fun t => ?_, by simpa [St.put, Act.put] using h.sz, h.df, h.fr, h.own, h.lent, h.len⟩
    have h1 := h.sl t
    have hz := h.sz
    simp only [St.put, Act.put, St.slot, List.getD_eq_getElem?_getD, Array.getD_eq_getD_getElem?] at h1 ⊢
    rw [List.getElem?_set, Array.getElem?_setIfInBounds]
    by_cases e : d = t
    · subst e
      simp only [if_true]
      by_cases hd : d < st.slots.length
      · rw [if_pos hd, if_pos (by rw [hz]; exact hd)]; exact hv
      · rw [if_neg hd]; simp [RV]
    · rw [if_neg e, if_neg e]; exact h1

/-! ### Steps of the store -/
/-- Nothing named has turned. -/
theorem Sat.same (h : Sat P X M σ w) (ht : Turn (fun _ => False) w w') : Sat P X M σ w' where
  ob := fun n o ho => (h.ob n o ho).keep_same (later_step (ht.mono fun _ hf => hf.elim) fun n g hg => .inl ⟨n, hg⟩)
    (fun g hg => ht.blk g (h.lt n g hg) (fun hf => hf)) rfl (fun _ => Iff.rfl) (fun _ _ hh => hh)
  dom := h.dom
  out := h.out
  disj := h.disj
  nX := h.nX
  lt := fun n g hg => Nat.lt_of_lt_of_le (h.lt n g hg) ht.size
  Xlt := fun g hg => Nat.lt_of_lt_of_le (h.Xlt g hg) ht.size

def Env.add (M : Env) (n g : Nat) : Env := ⟨fun m => if m = n then some g else M.ρ m, fun m b => if m = n then b = g else M.fp m b⟩

/-- A new block gets the next name. -/
theorem Sat.alloc (h : Sat P X M σ w) (o : Obj) (ob : Ob)
    (hob : OkOb P (w.alloc o) (okW X (M.add σ.length w.heap.size) (w.alloc o)) (M.add σ.length w.heap.size) σ.length ob) :
    Sat P X (M.add σ.length w.heap.size) (σ ++ [ob]) (w.alloc o) where
  ob := fun n o' ho => by
    rw [List.getElem?_append] at ho
    split at ho
    · rename_i hn
      have hne : n ≠ σ.length := by omega
      refine (h.ob n o' ho).keep_same (later_step (Turn.alloc _ w o) fun m g hm => ?_) (fun g hg => Below.heap_alloc w o g (h.lt n g hg)) (by simp [Env.add, hne]) (fun g => by simp [Env.add, hne]) fun m g hm => ?_
      · simp only [Env.add] at hm
        split at hm
        · exact .inr (by omega)
        · exact .inl ⟨m, hm⟩
      · simp only [Env.add]
        split
        · rename_i e
          rw [e, h.dom _ (Nat.le_refl _)] at hm; cases hm
        · exact hm
    · rename_i hn
      have : n = σ.length := by
        have := List.getElem?_eq_some_iff.1 ho
        obtain ⟨h1, _⟩ := this
        simp at h1; omega
      subst this
      simp at ho
      subst ho
      exact hob
  dom := fun n hn => by
    simp at hn
    simp only [Env.add]
    rw [if_neg (by omega)]
    exact h.dom n (by omega)
  out := fun n g hn => by
    simp at hn
    simp only [Env.add]
    rw [if_neg (by omega)]
    exact h.out n g (by omega)
  disj := fun n m g hn hm => by
    simp only [Env.add] at hn hm
    split at hn <;> split at hm
    · omega
    · have := h.lt m g hm; omega
    · have := h.lt n g hn; omega
    · exact h.disj n m g hn hm
  nX := fun n g hn hx => by
    simp only [Env.add] at hn
    split at hn
    · have := h.Xlt g hx; omega
    · exact h.nX n g hn hx
  lt := fun n g hn => by
    simp only [Env.add] at hn
    split at hn
    · simp; omega
    · have := h.lt n g hn; simp; omega
  Xlt := fun g hg => by have := h.Xlt g hg; simp; omega

theorem getElem?_set_ne' {α : Type} {l : List α} {n m : Nat} {x : α} (h : m ≠ n) : (l.set n x)[m]? = l[m]? := by
  rw [List.getElem?_set]; rw [if_neg (fun e => h e.symm)]

/-- An object of one's own is turned. -/
theorem Sat.update (h : Sat P X M σ w) {n : Nat} (hn : n < σ.length) (ob : Ob) (ht : Turn (M.fp n) w w') (hob : OkOb P w' (okW X M w') M n ob) :
    Sat P X M (σ.set n ob) w' where
  ob := fun m o ho => by
    by_cases e : m = n
    · subst e
      rw [List.getElem?_set_self hn] at ho
      cases ho
      exact hob
    · rw [getElem?_set_ne' e] at ho
      exact (h.ob m o ho).keep_same (later_step (ht.mono fun g hg => ⟨n, hg⟩) fun n g hg => .inl ⟨n, hg⟩)
        (fun g hg => ht.blk g (h.lt m g hg) (fun hf => e (h.disj m n g hg hf))) rfl (fun _ => Iff.rfl) (fun _ _ hh => hh)
  dom := by simpa using h.dom
  out := by simpa using h.out
  disj := h.disj
  nX := h.nX
  lt := fun n g hg => Nat.lt_of_lt_of_le (h.lt n g hg) ht.size
  Xlt := fun g hg => Nat.lt_of_lt_of_le (h.Xlt g hg) ht.size

def Env.thaw (M : Env) (n : Nat) : Env := ⟨M.ρ, fun m b => if m = n then False else M.fp m b⟩

theorem later_thaw (n : Nat) : Later w w (okW X M w) (okW X (M.thaw n) w) :=
  ⟨fun g _ _ _ hg _ => ⟨⟨hg.1, hg.2.1, fun m hm => by simp only [Env.thaw] at hm; split at hm; exact hm; exact hg.2.2 m hm⟩, rfl⟩, fun _ _ h => h⟩

/-- A row is never to be written again. -/
theorem Sat.freeze (h : Sat P X M σ w) {n : Nat} {t : TypeId} {cs : List V} (hn : σ[n]? = some (.arr t cs)) : Sat P X (M.thaw n) (σ.set n (.froz t cs)) w where
  ob := fun m o ho => by
    by_cases e : m = n
    · subst e
      rw [List.getElem?_set_self (List.getElem?_eq_some_iff.1 hn).1] at ho
      cases ho
      obtain ⟨g, cur, fr, h1, h2, h3, h4, h5⟩ := h.ob _ _ hn
      refine ⟨fun g => by simp [Env.thaw], g, cur, fr, h1, ⟨heap_lt h3, h.nX _ g ((h2 g).2 rfl), fun k hk => ?_⟩, h3, h5.later_no (later_thaw m)⟩
      simp only [Env.thaw] at hk
      split at hk
      · exact hk
      · rename_i hne; exact hne (h.disj k m g hk ((h2 g).2 rfl))
    · rw [getElem?_set_ne' e] at ho
      exact (h.ob m o ho).keep_same (later_thaw n) (fun _ _ => rfl) rfl (fun g => by simp [Env.thaw, e]) (fun _ _ hh => hh)
  dom := by simpa [Env.thaw] using h.dom
  out := fun m g hm => by
    simp only [Env.thaw]; split
    · exact fun h => h
    · exact h.out m g (by simpa using hm)
  disj := fun m k g hm hk => by
    simp only [Env.thaw] at hm hk
    split at hm <;> split at hk <;> first | exact hm.elim | exact hk.elim | exact h.disj m k g hm hk
  nX := fun m g hm => by
    simp only [Env.thaw] at hm; split at hm
    · exact hm.elim
    · exact h.nX m g hm
  lt := fun m g hm => by
    simp only [Env.thaw] at hm; split at hm
    · exact hm.elim
    · exact h.lt m g hm
  Xlt := h.Xlt

/-- Names are picked anew: the i-th is the elder ns[i]; what isn't picked is let go. -/
def idx (ns : List Nat) (n : Nat) : Option Nat := ns.idxOf? n
def sel (ns : List Nat) (σ : List Ob) : List Ob := ns.map fun n => ((σ[n]?).getD .gone).ren (idx ns)
def Env.sel (M : Env) (ns : List Nat) : Env := ⟨fun i => (ns[i]?).bind M.ρ, fun i g => ∃ n, ns[i]? = some n ∧ M.fp n g⟩

theorem idx_some {ns : List Nat} {n m : Nat} (h : idx ns n = some m) : ns[m]? = some n := by
  unfold idx at h
  rw [List.idxOf?_eq_some_iff] at h
  obtain ⟨h1, h2, _⟩ := h
  rw [List.getElem?_eq_getElem h1, h2]

theorem later_sel (ns : List Nat) : Later w w (okW X M w) (okW X (M.sel ns) w) :=
  ⟨fun g _ _ _ hg _ => ⟨⟨hg.1, hg.2.1, fun m hm => by obtain ⟨n, _, hn⟩ := hm; exact hg.2.2 n hn⟩, rfl⟩, fun _ _ h => h⟩

theorem idx_ren (ns : List Nat) : ∀ n m g, idx ns n = some m → M.ρ n = some g → (M.sel ns).ρ m = some g := by
  intro n m g h1 h2
  simp [Env.sel, idx_some h1, h2]

theorem Sat.sel (h : Sat P X M σ w) {ns : List Nat} (hd : ns.Nodup) : Sat P X (M.sel ns) (sel ns σ) w where
  ob := fun i o ho => by
    simp only [Ytncnnbjhginpfaa.sel, List.getElem?_map] at ho
    cases hi : ns[i]? with
    | none => simp [hi] at ho
    | some n =>
      simp [hi] at ho
      subst ho
      cases hn : σ[n]? with
      | none =>
        simp only [Option.getD_none, Ob.ren, OkOb, Env.sel]
        rintro g ⟨m, hm, hf⟩
        rw [hi] at hm; cases hm
        exact h.out n g (by simpa using hn) hf
      | some o' =>
        simp only [Option.getD_some]
        refine (h.ob n o' hn).keep (later_sel ns) (fun _ _ => rfl) (by simp [Env.sel, hi]) (fun g => ?_) (idx_ren ns)
        simp only [Env.sel, hi, Option.some.injEq]
        exact ⟨fun ⟨m, e, hf⟩ => by subst e; exact hf, fun hf => ⟨n, rfl, hf⟩⟩
  dom := fun i hi => by
    simp [Ytncnnbjhginpfaa.sel] at hi
    simp [Env.sel, List.getElem?_eq_none hi]
  out := fun i g hi => by
    simp [Ytncnnbjhginpfaa.sel] at hi
    rintro ⟨n, hn, _⟩
    rw [List.getElem?_eq_none hi] at hn; cases hn
  disj := by
    rintro i j g ⟨n, hn, hf⟩ ⟨m, hm, hg⟩
    have e := h.disj n m g hf hg
    subst e
    exact (List.getElem?_inj (List.getElem?_eq_some_iff.1 hn).1 hd).1 (hn.trans hm.symm)
  nX := by rintro i g ⟨n, hn, hf⟩; exact h.nX n g hf
  lt := by rintro i g ⟨n, hn, hf⟩; exact h.lt n g hf
  Xlt := h.Xlt
end
end Go.Proofs.Ytncnnbjhginpfaa
