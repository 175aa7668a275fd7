/- The operations, one by one, part 1: what each asks and gives by names; each is sound. Conditions: none; plain definitions and lemmas. -/
import Derived.Test.YtncnnbjhginpfaaCxD
namespace Go.Proofs.Ytncnnbjhginpfaa
set_option linter.unusedVariables false
set_option linter.unusedSimpArgs false
set_option linter.unnecessarySimpa false
open Go.RowKit

def St.ev (st : St) : Operand → V
  | .tmp t => st.slot t
  | .const v => V.ofC v
  | .global _ => .undef
  | .func f => .fn (.func f) [] []

/-- How an operation's run goes on, by names. -/
inductive Does (P : Program) (E : En) (a : Act) (r : Result Next) (k kp : V → St → Prop) : Prop where
  | val {u : Value} {w' : World} {M' : Env} {v : V} {st1 : St} (hr : r = .ok (.value u) w') (hk : k v st1) (hs : Rel P E M' st1 a w') (hv : RV P w' (okW E.X M' w') v M'.ρ u) : Does P E a r k kp
  | skip {w' : World} {M' : Env} {st1 : St} (hr : r = .ok .skip w') (hk : k .undef st1) (hs : Rel P E M' st1 a w') : Does P E a r k kp
  | pan {u : Value} {w' : World} {M' : Env} {v : V} {st1 : St} (hr : r = .halt (.panic u) w') (hk : kp v st1) (hs : Rel P E M' st1 a w') (hv : RV P w' (okW E.X M' w') v M'.ρ u) : Does P E a r k kp

/-- An operation that leaves everything as it stands. -/
inductive Quiet (P : Program) (E : En) (M : Env) (st : St) (a : Act) (w : World) (s : Sem Next) (k : V → St → Prop) : Prop where
  | val {u : Value} {v : V} (hr : s.run P w = .ok (.value u) w) (hk : k v st) (hs : Rel P E M st a w) (hv : RV P w (okW E.X M w) v M.ρ u) : Quiet P E M st a w s k

theorem Quiet.does {P : Program} {E : En} {M : Env} {st : St} {a : Act} {w : World} {s : Sem Next} {k kp : V → St → Prop} (h : Quiet P E M st a w s k) : Does P E a (s.run P w) k kp := by
  cases h with | val hr hk hs hv => exact .val hr hk hs hv

section
variable {P : Program} {E : En} {M M' : Env} {st : St} {a : Act} {w w' : World} {X : Nat → Prop} {σ σ' : List Ob} {π ρ : Nat → Option Nat} {ok : Nat → Prop} {k kp : V → St → Prop}

theorem Rel.ev (h : Rel P E M st a w) (x : Operand) : RV P w (okW E.X M w) (st.ev x) M.ρ (a.eval x) := by
  cases x with
  | tmp t => exact h.sl t
  | const v => exact RV.ofC v
  | global g => simp [St.ev, RV]
  | func f => simp [St.ev, RV, Act.eval, RVs]

/-- A new variable. -/
theorem Rel.newVar (h : Rel P E M st a w) {t : TypeId} {cs : List V} {us : List Value} (hv : RVs P w (okW E.X M w) cs M.ρ us) (h1 : ∀ x ∈ us, x.oneCell' = true) :
    Rel P E (M.add st.σ.length w.heap.size) { st with σ := st.σ ++ [.var t cs] } a (w.alloc (.cells us.toArray t)) ∧
      RV P (w.alloc (.cells us.toArray t)) (okW E.X (M.add st.σ.length w.heap.size) (w.alloc (.cells us.toArray t))) (.ptr st.σ.length 0) (M.add st.σ.length w.heap.size).ρ (.pointer (some ⟨w.heap.size, 0, none⟩)) := by
  have hown : ∀ n g, (M.add st.σ.length w.heap.size).fp n g → (∃ m, M.fp m g) ∨ w.heap.size ≤ g := fun n g hn => by
    simp only [Env.add] at hn
    split at hn
    · exact .inr (by omega)
    · exact .inl ⟨n, hn⟩
  have hρ : ∀ n g, M.ρ n = some g → (M.add st.σ.length w.heap.size).ρ n = some g := fun n g hn => by
    simp only [Env.add]
    split
    · rename_i e; subst e; rw [h.sat.dom _ (Nat.le_refl _)] at hn; cases hn
    · exact hn
  have hl : Later w (w.alloc (.cells us.toArray t)) (okW E.X M w) (okW E.X (M.add st.σ.length w.heap.size) (w.alloc (.cells us.toArray t))) := later_step (Turn.alloc _ w _) hown
  have hs : Sat P E.X (M.add st.σ.length w.heap.size) (st.σ ++ [.var t cs]) (w.alloc (.cells us.toArray t)) := by
    refine h.sat.alloc _ _ ⟨w.heap.size, us.toArray, (0, 0), by simp [Env.add], fun g => by simp [Env.add], heap_alloc_new w _, .inl (Nat.le_refl _), fun j v hj => ?_⟩
    obtain ⟨u, e1, e2⟩ := hv.get hj
    exact ⟨u, by simpa using e1, h1 u (List.mem_of_getElem? e1), by have := RV.ren_ hl (π := some) (fun n m g e hh => by cases e; exact hρ n g hh) v u e2; rwa [V.ren_some] at this⟩
  refine ⟨h.step_same hs (Turn.alloc _ w _) hρ hown (fun n hn => ?_) (by have := h.len; simp; omega), ?_⟩
  · simp only [Env.add]; rw [if_neg (by have := h.len; omega)]
  · simp [RV, Env.add]

def zeroL (P : Program) (t : TypeId) : Option (List V) := match (P.info? t).bind (·.zero) with | some z => if z.cells.toList.all (·.oneCell') then some (z.cells.toList.map V.ofC) else none | none => none

theorem zeroL_spec {t : TypeId} {cs : List V} (h : zeroL P t = some cs) : ∃ z, (∀ w, (zeroValue t).run P w = .ok z w) ∧ (∀ x ∈ z.cells.toList, x.oneCell' = true) ∧ cs = z.cells.toList.map V.ofC := by
  unfold zeroL at h
  split at h
  · rename_i z hz
    split at h
    · rename_i h1
      cases h
      refine ⟨z, fun w => ?_, List.all_eq_true.1 h1, rfl⟩
      cases hi : P.info? t with
      | none => simp [hi] at hz
      | some i => simp [hi] at hz; simp [zeroValue, typeInfo, hi, hz]
    · cases h
  · cases h

theorem RVs_ofC (us : List Value) : RVs P w ok (us.map V.ofC) ρ us := by
  induction us with
  | nil => simp [RVs]
  | cons u us ih => simp only [List.map_cons, RVs]; exact ⟨u, us, rfl, RV.ofC u, ih⟩

def allocVC (P : Program) (t : TypeId) (st : St) (k : V → St → Prop) : Prop :=
  match zeroL P t with | some cs => k (.ptr st.σ.length 0) { st with σ := st.σ ++ [.var t cs] } | none => False

theorem alloc_ok (h : Rel P E M st a w) {t : TypeId} (hk : allocVC P t st k) {dst ty pos af gd} :
    Does P E a ((execOp a.eval ⟨dst, .alloc t, ty, pos, af, gd⟩).run P w) k kp := by
  unfold allocVC at hk
  split at hk
  · rename_i cs hz
    obtain ⟨z, hz1, hz2, rfl⟩ := zeroL_spec hz
    obtain ⟨r1, r2⟩ := h.newVar (t := t) (RVs_ofC z.cells.toList) hz2
    refine .val (u := .pointer (some ⟨w.heap.size, 0, none⟩)) ?_ hk r1 r2
    simp [execOp, Instr.alloc, hz1, Go.newVar, newRow]
  · exact hk.elim

def boxVC (t : TypeId) (v : V) (st : St) (k : V → St → Prop) : Prop := v.okc = true ∧ k (.ptr st.σ.length 0) { st with σ := st.σ ++ [.var t v.cellsL] }

theorem box_ok (h : Rel P E M st a w) {t : TypeId} {x : Operand} (hk : boxVC t (st.ev x) st k) {dst ty pos af gd} :
    Does P E a ((execOp a.eval ⟨dst, .box t x, ty, pos, af, gd⟩).run P w) k kp := by
  obtain ⟨hc, hk⟩ := hk
  obtain ⟨e1, e2⟩ := (h.ev x).cells hc
  obtain ⟨r1, r2⟩ := h.newVar (t := t) e1 e2
  refine .val (u := .pointer (some ⟨w.heap.size, 0, none⟩)) ?_ hk r1 r2
  simp [execOp, Instr.box, Go.newVar, newRow]

/-! ### Reading -/
def loadVC (P : Program) (t : TypeId) (cs : List V) (off : Nat) (st : St) (k : V → St → Prop) : Prop :=
  has P t ∧
  if isAggB P t then off + P.cellsOf t ≤ cs.length ∧ k (.agg ((cs.drop off).take (P.cellsOf t))) st else P.cellsOf t = 1 ∧ atK cs[off]? fun v => k v st

def atVC (P : Program) (t : TypeId) (v : V) (st : St) (k : V → St → Prop) : Prop :=
  match v with
  | .ptr n off => (match (st.σ[n]?).bind Ob.rd with | some cs => loadVC P t cs off st k | none => False)
  | .fptr cs => loadVC P t cs 0 st k
  | _ => False

theorem take_one {cs : List V} {off : Nat} {v : V} (h : cs[off]? = some v) : (cs.drop off).take 1 = [v] := by
  rw [List.getElem?_eq_some_iff] at h
  obtain ⟨hl, rfl⟩ := h
  rw [List.drop_eq_getElem_cons hl]; rfl

theorem run_load_of (h : Rel P E M st a w) {t : TypeId} {cs : List V} {off : Nat} {ad : Addr} (hk : loadVC P t cs off st k)
    (hr : ∀ n, off + n ≤ cs.length → ∃ us : List Value, us.length = n ∧ (∀ (j : Nat) u, us[j]? = some u → w.cell? (ad.add j) = some u) ∧ (∀ x ∈ us, x.oneCell' = true) ∧ RVs P w (okW E.X M w) ((cs.drop off).take n) M.ρ us) :
    ∃ u v, (loadVar t ad).run P w = .ok u w ∧ k v st ∧ RV P w (okW E.X M w) v M.ρ u := by
  obtain ⟨⟨d, hd⟩, hk⟩ := hk
  cases hb : isAggB P t with
  | true =>
    simp only [hb, if_true] at hk
    obtain ⟨us, e1, e2, e3, e4⟩ := hr _ hk.1
    have := run_loadVar_of hd e1 e2 (by simp [hb])
    simp only [hb, if_true] at this
    exact ⟨_, _, this, hk.2, by simp only [RV]; exact ⟨_, rfl, by simpa using e3, by simpa using e4⟩⟩
  | false =>
    simp only [hb, Bool.false_eq_true, if_false] at hk
    obtain ⟨hs, v, hv, hk⟩ := hk
    have hlt := (List.getElem?_eq_some_iff.1 hv).1
    obtain ⟨us, e1, e2, e3, e4⟩ := hr 1 (by omega)
    have := run_loadVar_of hd (by rw [hs]; exact e1) e2 (fun _ => e1)
    simp only [hb, Bool.false_eq_true, if_false] at this
    rw [take_one hv] at e4
    simp only [RVs] at e4
    obtain ⟨u, us', rfl, e5, rfl⟩ := e4
    exact ⟨_, _, this, hk, by simpa using e5⟩

theorem load_q (h : Rel P E M st a w) {t : TypeId} {x : Operand} (hk : atVC P t (st.ev x) st k) {dst ty pos af gd} :
    Quiet P E M st a w (execOp a.eval ⟨dst, .load t x, ty, pos, af, gd⟩) k := by
  have hx := h.ev x
  unfold atVC at hk
  split at hk
  · rename_i n off hv
    rw [hv] at hx
    simp only [RV] at hx
    obtain ⟨g, hg, hu⟩ := hx
    split at hk
    · rename_i cs hcs
      cases ho : st.σ[n]? with
      | none => simp [ho] at hcs
      | some o =>
        simp only [ho, Option.bind_some] at hcs
        obtain ⟨u, v, e1, e2, e3⟩ := run_load_of (ad := ⟨g, off, none⟩) h hk fun m hm => by
          obtain ⟨g', us, f0, f1, f2, f3, f4⟩ := h.sat.rd ho hcs hm
          rw [hg] at f0; cases f0
          exact ⟨us, f1, f2, f3, f4⟩
        exact .val (by simp [execOp, Instr.loadAt, Instr.sureAddr, hu, e1]) e2 h e3
    · exact hk.elim
  · rename_i cs hv
    rw [hv] at hx
    simp only [RV] at hx
    obtain ⟨ad, hu, hc⟩ := hx
    obtain ⟨u, v, e1, e2, e3⟩ := run_load_of (ad := ad) h hk fun m hm => by
      by_cases hne : cs = []
      · subst hne
        simp at hm; subst hm
        exact ⟨[], rfl, by simp, by simp, by simp [RVs]⟩
      · obtain ⟨us, f1, f2, f3, f4⟩ := RCs.range (ρ := M.ρ) (hc hne).2 (k := m) (by omega)
        exact ⟨us, f1, f2, f3, by simpa using f4⟩
    exact .val (by simp [execOp, Instr.loadAt, Instr.sureAddr, hu, e1]) e2 h e3
  · exact hk.elim

/-! ### Rows that become frozen -/
/-- A slice over a row of one's own, as a frozen value; the row is frozen. -/
def closeV (P : Program) (v : V) (σ : List Ob) : V × List Ob :=
  match v with
  | .sl ow n off len => match σ[n]? with
    | some (.arr t cs) => if off + len * P.cellsOf t ≤ cs.length then (.frz ((cs.drop off).take (len * P.cellsOf t)) len, σ.set n (.froz t cs)) else (.sl ow n off len, σ)
    | some (.froz t cs) => if off + len * P.cellsOf t ≤ cs.length then (.frz ((cs.drop off).take (len * P.cellsOf t)) len, σ) else (.sl ow n off len, σ)
    | _ => (.sl ow n off len, σ)
  | v => (v, σ)

def closeVs (P : Program) : List V → List Ob → List V × List Ob
  | [], σ => ([], σ)
  | v :: vs, σ => ((closeV P v σ).1 :: (closeVs P vs (closeV P v σ).2).1, (closeVs P vs (closeV P v σ).2).2)

theorem RCs_of_row {t : TypeId} {cs : List V} {cur : Array Value} {fr : Nat × Nat} {g off : Nat} (h3 : w.heap[g]? = some (.cells cur t fr)) (h5 : CellsOk P w ok noρ cs cur) (m : Nat) :
    RCs P w ok ((cs.drop off).take m) ⟨g, off, none⟩ := by
  refine RCs.mk fun i v hv => ?_
  rw [List.getElem?_take] at hv
  split at hv
  · rw [List.getElem?_drop] at hv
    obtain ⟨u, e1, e2, e3⟩ := h5 _ v hv
    exact ⟨u, by rw [add_plain, cell_of_heap h3]; exact e1, e2, e3⟩
  · cases hv

theorem close_rv {v : V} {u : Value} (h : Sat P X M σ w) (hv : RV P w (okW X M w) v M.ρ u) :
    ∃ M', Sat P X M' (closeV P v σ).2 w ∧ M'.ρ = M.ρ ∧ (∀ n g, M'.fp n g → M.fp n g) ∧ (closeV P v σ).2.length = σ.length ∧ RV P w (okW X M' w) (closeV P v σ).1 M'.ρ u := by
  unfold closeV
  split
  · rename_i ow n off len
    have hv0 := hv
    simp only [RV] at hv
    obtain ⟨g, o, cap, h1, rfl, h2, h3, h4, h5⟩ := hv
    split
    · rename_i t cs hn
      split
      · rename_i hle
        have hs := h.freeze hn
        refine ⟨_, hs, rfl, fun m g hm => ?_, by simp, ?_⟩
        · simp only [Env.thaw] at hm; split at hm
          · exact hm.elim
          · exact hm
        · have hlt := (List.getElem?_eq_some_iff.1 hn).1
          obtain ⟨_, g', cur, fr, f1, f2, f3, f4⟩ := hs.ob n _ (List.getElem?_set_self hlt)
          simp only [Env.thaw] at f1
          rw [h1] at f1; cases f1
          simp only [RV]
          refine ⟨_, cap, rfl, h2, h3, fun hne => ⟨_, rfl, f2, ?_⟩⟩
          have hc : 0 < cap := by
            rcases Nat.eq_zero_or_pos cap with hz | hz
            · have : len = 0 := by omega
              subst this; simp at hne
            · exact hz
          rw [h4 hc]
          exact RCs_of_row f3 f4 _
      · exact ⟨M, h, rfl, fun _ _ hh => hh, rfl, hv0⟩
    · rename_i t cs hn
      split
      · rename_i hle
        refine ⟨M, h, rfl, fun _ _ hh => hh, rfl, ?_⟩
        obtain ⟨_, g', cur, fr, f1, f2, f3, f4⟩ := h.ob n _ hn
        rw [h1] at f1; cases f1
        simp only [RV]
        refine ⟨_, cap, rfl, h2, h3, fun hne => ⟨_, rfl, f2, ?_⟩⟩
        have hc : 0 < cap := by
          rcases Nat.eq_zero_or_pos cap with hz | hz
          · have : len = 0 := by omega
            subst this; simp at hne
          · exact hz
        rw [h4 hc]
        exact RCs_of_row f3 f4 _
      · exact ⟨M, h, rfl, fun _ _ hh => hh, rfl, hv0⟩
    · exact ⟨M, h, rfl, fun _ _ hh => hh, rfl, hv0⟩
  · exact ⟨M, h, rfl, fun _ _ hh => hh, rfl, hv⟩

/-- Fewer blocks are one's own: what was known stays known. -/
theorem later_less (hf : ∀ n g, M'.fp n g → M.fp n g) : Later w w (okW X M w) (okW X M' w) :=
  ⟨fun g _ _ _ hg _ => ⟨⟨hg.1, hg.2.1, fun m hm => hg.2.2 m (hf m g hm)⟩, rfl⟩, fun _ _ h => h⟩

theorem RV.less {v : V} {u : Value} (hf : ∀ n g, M'.fp n g → M.fp n g) (hρ : M'.ρ = M.ρ) (h : RV P w (okW X M w) v M.ρ u) : RV P w (okW X M' w) v M'.ρ u := by
  have := RV.ren_ (later_less hf) (π := some) (ρ' := M'.ρ) (fun n m g e hh => by cases e; rw [hρ]; exact hh) v u h
  rwa [V.ren_some] at this
theorem RVs.less {v : List V} {u : List Value} (hf : ∀ n g, M'.fp n g → M.fp n g) (hρ : M'.ρ = M.ρ) (h : RVs P w (okW X M w) v M.ρ u) : RVs P w (okW X M' w) v M'.ρ u := by
  have := RVs.ren_ (later_less hf) (π := some) (ρ' := M'.ρ) (fun n m g e hh => by cases e; rw [hρ]; exact hh) v u h
  rwa [V.rens_some] at this

theorem close_rvs {vs : List V} {us : List Value} (h : Sat P X M σ w) (hv : RVs P w (okW X M w) vs M.ρ us) :
    ∃ M', Sat P X M' (closeVs P vs σ).2 w ∧ M'.ρ = M.ρ ∧ (∀ n g, M'.fp n g → M.fp n g) ∧ (closeVs P vs σ).2.length = σ.length ∧ RVs P w (okW X M' w) (closeVs P vs σ).1 M'.ρ us := by
  induction vs generalizing us σ M with
  | nil => exact ⟨M, h, rfl, fun _ _ hh => hh, rfl, by simpa [closeVs] using hv⟩
  | cons v vs ih =>
    simp only [RVs] at hv
    obtain ⟨u, us', rfl, h1, h2⟩ := hv
    obtain ⟨M1, s1, s2, s3, s4, s5⟩ := close_rv h h1
    obtain ⟨M2, t1, t2, t3, t4, t5⟩ := ih s1 (h2.less s3 s2)
    refine ⟨M2, t1, t2.trans s2, fun n g hn => s3 n g (t3 n g hn), t4.trans s4, ?_⟩
    simp only [closeVs, RVs]
    exact ⟨u, us', rfl, RV.less t3 t2 s5, t5⟩

theorem Rel.less (h : Rel P E M st a w) (hs : Sat P E.X M' σ' w) (hρ : M'.ρ = M.ρ) (hf : ∀ n g, M'.fp n g → M.fp n g) (hl : σ'.length = st.σ.length) : Rel P E M' { st with σ := σ' } a w :=
  h.step_same hs (Turn.refl _ _) (fun n g hh => by rw [hρ]; exact hh) (fun n g hn => .inl ⟨n, hf n g hn⟩) (fun n _ => by rw [hρ]) (by rw [hl]; exact h.len)

/-! ### Writing -/
def storeVC (P : Program) (t : TypeId) (p v : V) (st : St) (k : V → St → Prop) : Prop :=
  has P t ∧ v.okc = true ∧ v.cellsL.length = P.cellsOf t ∧
  match p with
  | .ptr n off => (match st.σ[n]? with
    | some (.var t0 cs) => off + P.cellsOf t ≤ cs.length ∧ k .undef { st with σ := st.σ.set n (.var t0 (splice cs off v.cellsL)) }
    | some (.own t0 cs) => off + P.cellsOf t ≤ cs.length ∧ k .undef { st with σ := st.σ.set n (.own t0 (splice cs off v.cellsL)) }
    | some (.arr t0 cs) => off + P.cellsOf t ≤ cs.length ∧ V.closeds (closeVs P v.cellsL st.σ).1 = true ∧ (closeVs P v.cellsL st.σ).2[n]? = some (.arr t0 cs) ∧
        k .undef { st with σ := (closeVs P v.cellsL st.σ).2.set n (.arr t0 (splice cs off (closeVs P v.cellsL st.σ).1)) }
    | _ => False)
  | _ => False

theorem closeVs_len (vs : List V) (σ : List Ob) : (closeVs P vs σ).1.length = vs.length := by
  induction vs generalizing σ with
  | nil => rfl
  | cons v vs ih => simp [closeVs, ih]

theorem run_store_of {t : TypeId} {d : TypeDesc} (hd : P.underlying t = some d) {g off : Nat} {cur : Array Value} {t0 : TypeId} {fr : Nat × Nat} {u : Value}
    (hg : w.heap[g]? = some (.cells cur t0 fr)) (hf : FrOk fr cur.size) (hu : u.cells.size = P.cellsOf t) (h1 : ∀ x ∈ u.cells.toList, x.oneCell' = true) (hl : off + u.cells.size ≤ cur.size) :
    ∃ w' cur', (storeVar t ⟨g, off, none⟩ u).run P w = .ok () w' ∧ Turn (· = g) w w' ∧ w'.heap[g]? = some (.cells cur' t0 fr) ∧ cur'.size = cur.size ∧
      ∀ k, cur'[k]? = if off ≤ k ∧ k < off + u.cells.toList.length then u.cells.toList[k - off]? else cur[k]? := by
  obtain ⟨w', cur', e1, e2, e3, e4, e5⟩ := run_storeCells_turn (P := P) (o := off) u.cells.toList 0 cur w hg hf (by simpa using hl) h1
  refine ⟨w', cur', ?_, e2, e3, e4, by simpa using e5⟩
  simp only [storeVar, Sem.run_bind, run_sizeOf_u hd, Result.andThen_ok]
  rw [if_neg (by simpa using hu)]
  simpa using e1

theorem CellsOk.size {cs : List V} {cur : Array Value} (h : CellsOk P w ok ρ cs cur) : cs.length ≤ cur.size := by
  rcases Nat.eq_zero_or_pos cs.length with hz | hz
  · omega
  · obtain ⟨u, e1, _⟩ := h (cs.length - 1) _ (List.getElem?_eq_getElem (by omega))
    have := (Array.getElem?_eq_some_iff.1 e1).1
    omega

theorem store_ok (h : Rel P E M st a w) {t : TypeId} {x y : Operand} (hk : storeVC P t (st.ev x) (st.ev y) st k) {dst ty pos af gd} :
    Does P E a ((execOp a.eval ⟨dst, .store t x y, ty, pos, af, gd⟩).run P w) k kp := by
  obtain ⟨⟨d, hd⟩, hc, hlen, hk⟩ := hk
  have hx := h.ev x
  obtain ⟨hy, hy1⟩ := (h.ev y).cells hc
  have hsz : (a.eval y).cells.size = P.cellsOf t := by have := hy.len; simp at this; omega
  split at hk
  · rename_i n off hv
    rw [hv] at hx
    simp only [RV] at hx
    obtain ⟨g, hg, hu⟩ := hx
    split at hk
    · rename_i t0 cs hn
      obtain ⟨hle, hk⟩ := hk
      have hnl := (List.getElem?_eq_some_iff.1 hn).1
      obtain ⟨g', cur, fr, f1, f2, f3, f4, f5⟩ := h.sat.ob n _ hn
      rw [hg] at f1; cases f1
      obtain ⟨w', cur', e1, e2, e3, e4, e5⟩ := run_store_of (off := off) hd f3 f4 hsz hy1 (by have := f5.size; omega)
      have ht : Turn (M.fp n) w w' := e2.mono fun b hb => (f2 b).2 hb
      have ht' : Turn (fun g => ∃ n, M.fp n g) w w' := ht.mono fun b hb => ⟨n, hb⟩
      have hl := later_step (X := E.X) (M' := M) ht' (fun n g hn => .inl ⟨n, hn⟩)
      refine .skip (w' := w') ?_ hk (h.step_same (h.sat.update hnl _ ht ⟨g, cur', fr, hg, f2, e3, by rw [e4]; exact f4, ?_⟩) ht' (fun _ _ hh => hh) (fun n g hn => .inl ⟨n, hn⟩) (fun _ _ => rfl) (by simpa using h.len))
      · simp [execOp, Instr.storeAt, Instr.sureAddr, hu, e1]
      · have f5' : CellsOk P w' (okW E.X M w') M.ρ cs cur := by have := f5.later (π := some) (ρ' := M.ρ) hl (fun n m g e hh => by cases e; exact hh); rwa [V.rens_some] at this
        have hy' : RVs P w' (okW E.X M w') (st.ev y).cellsL M.ρ (a.eval y).cells.toList := by have := RVs.ren_ hl (π := some) (ρ' := M.ρ) (fun n m g e hh => by cases e; exact hh) _ _ hy; rwa [V.rens_some] at this
        exact f5'.splice hy' hy1 (by omega) e5
    · rename_i t0 cs hn
      obtain ⟨hle, hk⟩ := hk
      have hnl := (List.getElem?_eq_some_iff.1 hn).1
      obtain ⟨g', cur, fr, kid, f1, f3, f4, f2, f5, f6, f7⟩ := h.sat.ob n _ hn
      rw [hg] at f1; cases f1
      have hcz : cs.length ≤ cur.size := by
        rcases Nat.eq_zero_or_pos cs.length with hz | hz
        · omega
        · have := f7 (cs.length - 1)
          rw [List.getElem?_eq_getElem (by omega)] at this
          obtain ⟨u, e1, _⟩ := this
          have := (Array.getElem?_eq_some_iff.1 e1).1
          omega
      obtain ⟨w', cur', e1, e2, e3, e4, e5⟩ := run_store_of (off := off) hd f3 f4 hsz hy1 (by omega)
      have ht : Turn (M.fp n) w w' := e2.mono fun b hb => f2 b (.inl hb)
      have ht' : Turn (fun g => ∃ n, M.fp n g) w w' := ht.mono fun b hb => ⟨n, hb⟩
      have hl := later_step (X := E.X) (M' := M) ht' (fun n g hn => .inl ⟨n, hn⟩)
      have hsl : off + (st.ev y).cellsL.length ≤ cs.length := by omega
      have hul : (a.eval y).cells.toList.length = (st.ev y).cellsL.length := hy.len
      refine .skip (w' := w') ?_ hk (h.step_same (h.sat.update hnl _ ht ⟨g, cur', fr, fun j => if off ≤ j ∧ j < off + (st.ev y).cellsL.length then none else kid j, hg, e3, by rw [e4]; exact f4, fun b hb => ?_, fun j => ?_, fun i j b hi hj => ?_, fun j => ?_⟩) ht' (fun _ _ hh => hh) (fun n g hn => .inl ⟨n, hn⟩) (fun _ _ => rfl) (by simpa using h.len))
      · simp [execOp, Instr.storeAt, Instr.sureAddr, hu, e1]
      · rcases hb with hb | ⟨j, hj⟩
        · exact f2 b (.inl hb)
        · simp only at hj
          split at hj
          · cases hj
          · exact f2 b (.inr ⟨j, hj⟩)
      · simp only
        split
        · simp
        · exact f5 j
      · simp only at hi hj
        split at hi
        · cases hi
        · split at hj
          · cases hj
          · exact f6 i j b hi hj
      · rw [splice_get hsl]
        by_cases hj : off ≤ j ∧ j < off + (st.ev y).cellsL.length
        · rw [if_pos hj]
          have hv : (st.ev y).cellsL[j - off]? = some (st.ev y).cellsL[j - off] := List.getElem?_eq_getElem (by omega)
          rw [hv]
          obtain ⟨x, x1, x2⟩ := hy.get hv
          have x3 := RV.ren_ hl (π := some) (ρ' := M.ρ) (fun n m g e hh => by cases e; exact hh) _ _ x2
          rw [V.ren_some] at x3
          refine ⟨x, by rw [e5 j, hul, if_pos hj]; exact x1, hy1 x (List.mem_of_getElem? x1), ?_⟩
          simp only [hj, and_self, if_true]
          exact OwnCell.ofRV x3
        · rw [if_neg hj]
          simp only [hj, if_false]
          have h8 := f7 j
          cases hc : cs[j]? with
          | none => rw [hc] at h8; exact h8
          | some v =>
            rw [hc] at h8
            obtain ⟨x, x1, x2, x3⟩ := h8
            refine ⟨x, by rw [e5 j, hul, if_neg hj]; exact x1, x2, ?_⟩
            have := x3.keep (π := some) hl (fun b hb => e2.blk b (h.sat.lt n b (f2 b (.inr ⟨j, hb⟩))) fun e => f5 j (e ▸ hb)) (ρ' := M.ρ) (fun n m g e hh => by cases e; exact hh)
            rwa [V.ren_some] at this
    · rename_i t0 cs hn0
      obtain ⟨hle, hcl, hn, hk⟩ := hk
      obtain ⟨M1, s1, s2, s3, s4, s5⟩ := close_rvs h.sat hy
      have hnl := (List.getElem?_eq_some_iff.1 hn).1
      obtain ⟨g', cur, fr, f1, f2, f3, f4, f5⟩ := s1.ob n _ hn
      rw [s2, hg] at f1; cases f1
      obtain ⟨w', cur', e1, e2, e3, e4, e5⟩ := run_store_of (off := off) hd f3 f4 hsz hy1 (by have := f5.size; omega)
      have ht : Turn (M1.fp n) w w' := e2.mono fun b hb => (f2 b).2 hb
      have ht' : Turn (fun g => ∃ n, M1.fp n g) w w' := ht.mono fun b hb => ⟨n, hb⟩
      have hl := later_step (X := E.X) (M' := M1) ht' (fun n g hn => .inl ⟨n, hn⟩)
      have h1 := h.less s1 s2 s3 s4
      refine .skip (w' := w') ?_ hk (h1.step_same (s1.update hnl _ ht ⟨g, cur', fr, by rw [s2]; exact hg, f2, e3, by rw [e4]; exact f4, ?_⟩) ht' (fun _ _ hh => hh) (fun n g hn => .inl ⟨n, hn⟩) (fun _ _ => rfl) (by have := h.len; simp; omega))
      · simp [execOp, Instr.storeAt, Instr.sureAddr, hu, e1]
      · refine (f5.later_no hl).splice (RVs.noren_ hl _ _ (RVs.of_closed _ _ hcl s5)) hy1 (by rw [closeVs_len]; omega) e5
    · exact hk.elim
  · exact hk.elim

end
end Go.Proofs.Ytncnnbjhginpfaa
