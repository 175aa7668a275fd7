/- The store by names against a world: what each step of memory does to it. Conditions: none; plain definitions and lemmas. -/
import Derived.Test.YtncnnbjhginpfaaCxA
namespace Go.Proofs.Ytncnnbjhginpfaa
set_option linter.unusedVariables false
set_option linter.unusedSimpArgs false
set_option linter.unnecessarySimpa false
open Go.RowKit

mutual
theorem V.ren_some : ∀ v : V, v.ren some = v := by
  intro v
  match v with
  | .ptr .. | .sl .. | .mp .. | .yld .. | .undef | .opq _ | .bool _ | .int .. | .str _ | .nilp | .nils | .nilm | .nilf | .nili | .esl | .frz .. | .fptr .. | .tree .. => simp [V.ren]
  | .fn f x y => simp [V.ren, V.rens_some x, V.rens_some y]
  | .iface t v => simp [V.ren, V.ren_some v]
  | .agg cs => simp [V.ren, V.rens_some cs]
  | .tup vs => simp [V.ren, V.rens_some vs]
theorem V.rens_some : ∀ vs : List V, V.rens some vs = vs := by
  intro vs
  match vs with
  | [] => simp [V.rens]
  | v :: vs => simp [V.rens, V.ren_some v, V.rens_some vs]
end

/-- An assertion on memory of its own: 'own' its blocks, 'ok' those that are never written again. -/
structure Res where
  holds : (Nat → Prop) → (Nat → Prop) → World → Prop
  stable : ∀ own ok ok' w w', holds own ok w → (∀ g, own g → w'.heap[g]? = w.heap[g]?) → Later w w' ok ok' → holds own ok' w'

/-- The record of a range over a function: the loop's temporaries as they stood, its code. -/
structure LoopD where
  tmps : List V
  params : Array Tmp
  assign : Code
  body : Code
  state : LoopState
  pending : Option Code

inductive Ob where
  | gone
  | loop (L : LoopD)
  | arr (t : TypeId) (cs : List V)
  | var (t : TypeId) (cs : List V)
  | own (t : TypeId) (cs : List V)
  | froz (t : TypeId) (cs : List V)
  | map (es : List (V × V × Nat)) (clock : Nat)
  | res (A : Res)

instance : Inhabited Ob := ⟨.gone⟩

def Ob.ren (π : Nat → Option Nat) : Ob → Ob
  | .var t cs => .var t (V.rens π cs)
  | .own t cs => .own t (V.rens π cs)
  | .loop L => .loop { L with tmps := V.rens π L.tmps }
  | o => o

structure Env where
  ρ : Nat → Option Nat
  fp : Nat → Nat → Prop

def FrOk (fr : Nat × Nat) (n : Nat) : Prop := fr.2 ≤ fr.1 ∨ n ≤ fr.1

def CellsOk (P : Program) (w : World) (ok : Nat → Prop) (ρ : Nat → Option Nat) (cs : List V) (cur : Array Value) : Prop :=
  ∀ (j : Nat) v, cs[j]? = some v → ∃ u, cur[j]? = some u ∧ u.oneCell' = true ∧ RV P w ok v ρ u

def MapOk (P : Program) (w : World) (ok : Nat → Prop) (es : List (V × V × Nat)) (es' : Array MapEntry) : Prop :=
  es.length = es'.size ∧ ∀ (j : Nat) e, es[j]? = some e → ∃ e', es'[j]? = some e' ∧ RV P w ok e.1 noρ e'.key ∧ RV P w ok e.2.1 noρ e'.val ∧ e'.born = e.2.2

/-- A cell that may own a row of its own (kid). -/
def OwnCell (P : Program) (w : World) (ok : Nat → Prop) (ρ : Nat → Option Nat) (kid : Option Nat) : V → Value → Prop
  | .tree t cs len, u => ∃ g o cap cur fr, kid = some g ∧ u = .slice (some ⟨g, o, none⟩) len cap ∧ len ≤ cap ∧ cap ≤ maxLen ∧ (0 < cap → o = 0) ∧ w.heap[g]? = some (.cells cur t fr) ∧ FrOk fr cur.size ∧ CellsOk P w ok noρ cs cur ∧ (0 < cap → cap * P.cellsOf t ≤ cur.size)
  | v, u => kid = none ∧ RV P w ok v ρ u

def OkOb (P : Program) (w : World) (ok : Nat → Prop) (M : Env) (n : Nat) : Ob → Prop
  | .gone => ∀ g, ¬ M.fp n g
  | .loop L => ∃ g r, M.ρ n = some g ∧ (∀ g', M.fp n g' ↔ g' = g) ∧ w.heap[g]? = some (.loop r) ∧ r.params = L.params ∧ r.assign = L.assign ∧ r.body = L.body ∧ r.state = L.state ∧ r.pending = L.pending ∧ RVs P w ok L.tmps M.ρ r.tmps.toList
  | .arr t cs => ∃ g cur fr, M.ρ n = some g ∧ (∀ g', M.fp n g' ↔ g' = g) ∧ w.heap[g]? = some (.cells cur t fr) ∧ FrOk fr cur.size ∧ CellsOk P w ok noρ cs cur
  | .var t cs => ∃ g cur fr, M.ρ n = some g ∧ (∀ g', M.fp n g' ↔ g' = g) ∧ w.heap[g]? = some (.cells cur t fr) ∧ FrOk fr cur.size ∧ CellsOk P w ok M.ρ cs cur
  | .own t cs => ∃ (g : Nat) (cur : Array Value) (fr : Nat × Nat) (kid : Nat → Option Nat), M.ρ n = some g ∧ w.heap[g]? = some (.cells cur t fr) ∧ FrOk fr cur.size ∧ (∀ b, (b = g ∨ ∃ j, kid j = some b) → M.fp n b) ∧ (∀ j, kid j ≠ some g) ∧ (∀ i j b, kid i = some b → kid j = some b → i = j) ∧
      ∀ (j : Nat), (match cs[j]? with | some v => ∃ u, cur[j]? = some u ∧ u.oneCell' = true ∧ OwnCell P w ok M.ρ (kid j) v u | none => kid j = none)
  | .froz t cs => (∀ g, ¬ M.fp n g) ∧ ∃ g cur fr, M.ρ n = some g ∧ ok g ∧ w.heap[g]? = some (.cells cur t fr) ∧ CellsOk P w ok noρ cs cur
  | .map es clock => ∃ g es', M.ρ n = some g ∧ (∀ g', M.fp n g' ↔ g' = g) ∧ w.heap[g]? = some (.map es' clock) ∧ MapOk P w ok es es'
  | .res A => A.holds (M.fp n) ok w

/-- The blocks that are never written again, as seen from here: there already, nobody's. -/
def okW (X : Nat → Prop) (M : Env) (w : World) (g : Nat) : Prop := g < w.heap.size ∧ ¬ X g ∧ ∀ n, ¬ M.fp n g

structure Sat (P : Program) (X : Nat → Prop) (M : Env) (σ : List Ob) (w : World) : Prop where
  ob : ∀ n o, σ[n]? = some o → OkOb P w (okW X M w) M n o
  dom : ∀ n, σ.length ≤ n → M.ρ n = none
  out : ∀ n g, σ.length ≤ n → ¬ M.fp n g
  disj : ∀ n m g, M.fp n g → M.fp m g → n = m
  nX : ∀ n g, M.fp n g → ¬ X g
  lt : ∀ n g, M.fp n g → g < w.heap.size
  Xlt : ∀ g, X g → g < w.heap.size

section
variable {P : Program} {w w' : World} {ok ok' : Nat → Prop} {X : Nat → Prop} {M M' : Env} {σ : List Ob} {π : Nat → Option Nat}

theorem CellsOk.later {ρ ρ' : Nat → Option Nat} {cs : List V} {cur : Array Value} (hl : Later w w' ok ok') (hπ : ∀ n m g, π n = some m → ρ n = some g → ρ' m = some g)
    (h : CellsOk P w ok ρ cs cur) : CellsOk P w' ok' ρ' (V.rens π cs) cur := by
  intro j v hv
  rw [V.rens_eq, List.getElem?_map] at hv
  cases hc : cs[j]? with
  | none => simp [hc] at hv
  | some v0 =>
    simp [hc] at hv
    subst hv
    obtain ⟨u, h1, h2, h3⟩ := h j v0 hc
    exact ⟨u, h1, h2, RV.ren_ hl hπ v0 u h3⟩

theorem CellsOk.later_no {cs : List V} {cur : Array Value} (hl : Later w w' ok ok') (h : CellsOk P w ok noρ cs cur) : CellsOk P w' ok' noρ cs cur := by
  intro j v hv
  obtain ⟨u, h1, h2, h3⟩ := h j v hv
  exact ⟨u, h1, h2, RV.noren_ hl v u h3⟩

theorem MapOk.later {es : List (V × V × Nat)} {es' : Array MapEntry} (hl : Later w w' ok ok') (h : MapOk P w ok es es') : MapOk P w' ok' es es' := by
  refine ⟨h.1, fun j e he => ?_⟩
  obtain ⟨e', h1, h2, h3, h4⟩ := h.2 j e he
  exact ⟨e', h1, RV.noren_ hl _ _ h2, RV.noren_ hl _ _ h3, h4⟩

theorem OwnCell.keep {ρ ρ' : Nat → Option Nat} {kid : Option Nat} {v : V} {u : Value} (hl : Later w w' ok ok') (hk : ∀ g, kid = some g → w'.heap[g]? = w.heap[g]?)
    (hπ : ∀ n m g, π n = some m → ρ n = some g → ρ' m = some g) (h : OwnCell P w ok ρ kid v u) : OwnCell P w' ok' ρ' kid (v.ren π) u := by
  have key : (kid = none ∧ RV P w ok v ρ u) → ∀ t cs len, v ≠ .tree t cs len → OwnCell P w' ok' ρ' kid (v.ren π) u := fun h t cs len _ => by
    have h2 := RV.ren_ hl hπ v u h.2
    generalize hv' : v.ren π = v' at h2
    cases v' <;> first | exact ⟨h.1, h2⟩ | exact h2.elim
  cases v with
  | tree t cs len =>
    simp only [V.ren]
    obtain ⟨g, o, cap, cur, fr, h1, h2, h3, h4, h4', h5, h6, h7, h8⟩ := h
    exact ⟨g, o, cap, cur, fr, h1, h2, h3, h4, h4', by rw [hk g h1]; exact h5, h6, h7.later_no hl, h8⟩
  | _ => exact key h 0 [] 0 (by simp)

theorem OwnCell.plain {ok : Nat → Prop} {ρ : Nat → Option Nat} {kid : Option Nat} {v : V} {u : Value} (hv : ∀ t cs len, v ≠ .tree t cs len) (h : OwnCell P w ok ρ kid v u) : kid = none ∧ RV P w ok v ρ u := by
  cases v <;> first | exact h | exact absurd rfl (hv _ _ _)
theorem OwnCell.ofRV {ok : Nat → Prop} {ρ : Nat → Option Nat} {v : V} {u : Value} (h : RV P w ok v ρ u) : OwnCell P w ok ρ none v u := by
  cases v <;> first | exact ⟨rfl, h⟩ | exact h.elim

/-- An object whose blocks lie as they lay. -/
theorem OkOb.keep {n n' : Nat} {o : Ob} (h : OkOb P w ok M n o) (hl : Later w w' ok ok') (hb : ∀ g, M.fp n g → w'.heap[g]? = w.heap[g]?)
    (hn : M'.ρ n' = M.ρ n) (hf : ∀ g, M'.fp n' g ↔ M.fp n g) (hπ : ∀ n m g, π n = some m → M.ρ n = some g → M'.ρ m = some g) : OkOb P w' ok' M' n' (o.ren π) := by
  cases o with
  | gone => simp only [OkOb, Ob.ren] at h ⊢; exact fun g => by rw [hf]; exact h g
  | loop L =>
    simp only [OkOb, Ob.ren] at h ⊢
    obtain ⟨g, r, h1, h2, h3, h4, h5, h6, h7, h8, h9⟩ := h
    exact ⟨g, r, by rw [hn]; exact h1, fun g' => by rw [hf]; exact h2 g', by rw [hb g ((h2 g).2 rfl)]; exact h3, h4, h5, h6, h7, h8, RVs.ren_ hl hπ _ _ h9⟩
  | arr t cs =>
    simp only [OkOb, Ob.ren] at h ⊢
    obtain ⟨g, cur, fr, h1, h2, h3, h4, h5⟩ := h
    exact ⟨g, cur, fr, by rw [hn]; exact h1, fun g' => by rw [hf]; exact h2 g', by rw [hb g ((h2 g).2 rfl)]; exact h3, h4, h5.later_no hl⟩
  | var t cs =>
    simp only [OkOb, Ob.ren] at h ⊢
    obtain ⟨g, cur, fr, h1, h2, h3, h4, h5⟩ := h
    exact ⟨g, cur, fr, by rw [hn]; exact h1, fun g' => by rw [hf]; exact h2 g', by rw [hb g ((h2 g).2 rfl)]; exact h3, h4, h5.later hl hπ⟩
  | own t cs =>
    simp only [OkOb, Ob.ren] at h ⊢
    obtain ⟨g, cur, fr, kid, h1, h2, h3, h4, h5, h6, h7⟩ := h
    refine ⟨g, cur, fr, kid, by rw [hn]; exact h1, by rw [hb g (h4 g (.inl rfl))]; exact h2, h3, fun b hbb => (hf b).2 (h4 b hbb), h5, h6, fun j => ?_⟩
    have h8 := h7 j
    rw [V.rens_eq, List.getElem?_map]
    cases hc : cs[j]? with
    | none => rw [hc] at h8; exact h8
    | some v =>
      rw [hc] at h8
      obtain ⟨u, e1, e2, e3⟩ := h8
      exact ⟨u, e1, e2, e3.keep hl (fun b hbk => hb b (h4 b (.inr ⟨j, hbk⟩))) hπ⟩
  | froz t cs =>
    simp only [OkOb, Ob.ren] at h ⊢
    obtain ⟨h0, g, cur, fr, h1, h2, h3, h5⟩ := h
    exact ⟨fun g' => by rw [hf]; exact h0 g', g, cur, fr, by rw [hn]; exact h1, (hl.blk g _ _ _ h2 h3).1, by rw [(hl.blk g _ _ _ h2 h3).2]; exact h3, h5.later_no hl⟩
  | map es clock =>
    simp only [OkOb, Ob.ren] at h ⊢
    obtain ⟨g, es', h1, h2, h3, h5⟩ := h
    exact ⟨g, es', by rw [hn]; exact h1, fun g' => by rw [hf]; exact h2 g', by rw [hb g ((h2 g).2 rfl)]; exact h3, h5.later hl⟩
  | res A =>
    simp only [OkOb, Ob.ren] at h ⊢
    have e : M'.fp n' = M.fp n := funext fun g => propext (hf g)
    rw [e]
    exact A.stable _ _ _ _ _ h hb hl

theorem Ob.ren_some (o : Ob) : o.ren some = o := by cases o <;> simp [Ob.ren, V.rens_some]

theorem OkOb.keep_same {n : Nat} {o : Ob} (h : OkOb P w ok M n o) (hl : Later w w' ok ok') (hb : ∀ g, M.fp n g → w'.heap[g]? = w.heap[g]?)
    (hn : M'.ρ n = M.ρ n) (hf : ∀ g, M'.fp n g ↔ M.fp n g) (hρ : ∀ n g, M.ρ n = some g → M'.ρ n = some g) : OkOb P w' ok' M' n o := by
  have := h.keep (π := some) (n' := n) hl hb hn hf (fun n m g e h => by cases e; exact hρ n g h)
  rwa [Ob.ren_some] at this

/-! ### Worlds -/
theorem shape_of_heap {g : Nat} (h : w'.heap[g]? = w.heap[g]?) : w'.shape? g = w.shape? g := by simp [World.shape?, h]
theorem shape_cells {g : Nat} {cur : Array Value} {t : TypeId} {fr : Nat × Nat} (h : w.heap[g]? = some (.cells cur t fr)) : w.shape? g = some (t, cur.size) := by simp [World.shape?, h]
theorem cell_of_heap {g i : Nat} {cur : Array Value} {t : TypeId} {fr : Nat × Nat} (h : w.heap[g]? = some (.cells cur t fr)) : w.cell? ⟨g, i, none⟩ = cur[i]? := by simp [World.cell?, h]
theorem frozen_of_heap {g i : Nat} {cur : Array Value} {t : TypeId} {fr : Nat × Nat} (h : w.heap[g]? = some (.cells cur t fr)) (hf : FrOk fr cur.size) (hi : i < cur.size) : w.frozen? ⟨g, i, none⟩ = false := by
  obtain ⟨lo, hi'⟩ := fr
  simp only [World.frozen?, h]
  rcases hf with hf | hf <;> simp at hf ⊢ <;> omega
theorem heap_lt {g : Nat} {o : Obj} (h : w.heap[g]? = some o) : g < w.heap.size := (Array.getElem?_eq_some_iff.1 h).1

/-- What one step may do to a world: of the blocks that lay, those of 'C' alone turn. -/
structure Turn (C : Nat → Prop) (w w' : World) : Prop where
  os : w'.os = w.os
  tape : w'.tape = w.tape
  output : w'.output = w.output
  size : w.heap.size ≤ w'.heap.size
  blk : ∀ g, g < w.heap.size → ¬ C g → w'.heap[g]? = w.heap[g]?
  shape : ∀ g x, w.shape? g = some x → w'.shape? g = some x

theorem Turn.refl (C : Nat → Prop) (w : World) : Turn C w w := ⟨rfl, rfl, rfl, Nat.le_refl _, fun _ _ _ => rfl, fun _ _ h => h⟩
theorem Turn.trans {C : Nat → Prop} {a b c : World} (h : Turn C a b) (k : Turn (fun g => C g ∨ a.heap.size ≤ g) b c) : Turn C a c :=
  ⟨k.os.trans h.os, k.tape.trans h.tape, k.output.trans h.output, Nat.le_trans h.size k.size,
   fun g hg hC => (k.blk g (Nat.lt_of_lt_of_le hg h.size) (fun hc => hc.elim hC (fun h => by omega))).trans (h.blk g hg hC), fun g x hx => k.shape g x (h.shape g x hx)⟩
theorem Turn.mono {C C' : Nat → Prop} (hC : ∀ g, C g → C' g) (h : Turn C w w') : Turn C' w w' :=
  ⟨h.os, h.tape, h.output, h.size, fun g hg hn => h.blk g hg fun hc => hn (hC g hc), h.shape⟩
theorem Turn.drew (C : Nat → Prop) (w : World) : Turn C w w.drew := ⟨rfl, rfl, rfl, Nat.le_refl _, fun _ _ _ => rfl, fun _ _ h => h⟩
theorem shape_lt {g : Nat} {x : TypeId × Nat} (h : w.shape? g = some x) : g < w.heap.size := by
  unfold World.shape? at h
  split at h
  · rename_i hh; exact heap_lt hh
  · cases h
theorem Turn.alloc (C : Nat → Prop) (w : World) (o : Obj) : Turn C w (w.alloc o) :=
  ⟨rfl, rfl, rfl, by simp, fun g hg _ => Below.heap_alloc w o g hg, fun g x hx => by rw [shape_of_heap (Below.heap_alloc w o g (shape_lt hx))]; exact hx⟩
theorem Turn.setCell (w : World) (a : Addr) (v : Value) : Turn (· = a.block) w (w.setCell a v) :=
  ⟨rfl, rfl, rfl, by simp, fun g _ hn => Below.heap_setCell w a v g hn, fun g x hx => by
    by_cases e : g = a.block
    · subst e
      unfold World.shape? at hx ⊢
      simp only [World.setCell, Array.getElem?_modify, if_true]
      cases hh : w.heap[a.block]? with
      | none => simp [hh] at hx
      | some o =>
        cases o <;> simp [hh] at hx ⊢
        obtain ⟨⟩ := hx
        split <;> simp
    · rw [shape_of_heap (Below.heap_setCell w a v g e)]; exact hx⟩

/-- Later, for the blocks that are never written again. -/
theorem Turn.later {C : Nat → Prop} (h : Turn C w w') (hC : ∀ g, ok g → g < w.heap.size ∧ ¬ C g) (hok : ∀ g, ok g → ok' g) : Later w w' ok ok' :=
  ⟨fun g _ _ _ hg _ => ⟨hok g hg, h.blk g (hC g hg).1 (hC g hg).2⟩, h.shape⟩

end
end Go.Proofs.Ytncnnbjhginpfaa
