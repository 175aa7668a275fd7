/- The operations, one by one, part 5: composites, new rows, conversions. Conditions: none; plain definitions and lemmas. -/
import Derived.Test.YtncnnbjhginpfaaCxH
namespace Go.Proofs.Ytncnnbjhginpfaa
set_option linter.unusedVariables false
set_option linter.unusedSimpArgs false
set_option linter.unnecessarySimpa false
open Go.RowKit

section
variable {P : Program} {E : En} {M M' : Env} {st : St} {a : Act} {w w' : World} {X : Nat → Prop} {σ σ' : List Ob} {π ρ : Nat → Option Nat} {ok : Nat → Prop} {k kp : V → St → Prop}

/-! ### Composites -/
def fillV (place : Nat → Option (Nat × Nat)) (cells : List V) : List (Nat × V) → Option (List V)
  | [] => some cells
  | (i, v) :: rest => match place i with
    | none => none
    | some (off, size) => if v.okc = true ∧ v.cellsL.length = size ∧ off + size ≤ cells.length then fillV place (splice cells off v.cellsL) rest else none

theorem foldl_sets (off : Nat) : ∀ (us : List Value) (j : Nat) (cur : Array Value), off + j + us.length ≤ cur.size →
    ((us.zipIdx j).foldl (fun (cs : Array Value) (x : Value × Nat) => cs.setIfInBounds (off + x.2) x.1) cur).size = cur.size ∧
    ∀ i, ((us.zipIdx j).foldl (fun (cs : Array Value) (x : Value × Nat) => cs.setIfInBounds (off + x.2) x.1) cur)[i]? = if off + j ≤ i ∧ i < off + j + us.length then us[i - (off + j)]? else cur[i]? := by
  intro us
  induction us with
  | nil => intro j cur _; refine ⟨by simp, fun i => ?_⟩; rw [if_neg (by simp)]; simp
  | cons u us ih =>
    intro j cur hs
    simp only [List.length_cons] at hs
    simp only [List.zipIdx_cons, List.foldl_cons, List.length_cons]
    obtain ⟨h1, h2⟩ := ih (j + 1) (cur.setIfInBounds (off + j) u) (by rw [Array.size_setIfInBounds]; omega)
    refine ⟨by rw [h1]; simp, fun i => ?_⟩
    rw [h2 i]
    by_cases hi : i = off + j
    · subst hi
      have hlt : off + j < cur.size := by omega
      rw [if_neg (by omega), if_pos (by omega)]
      simp [hlt]
    · by_cases hi2 : off + (j + 1) ≤ i ∧ i < off + (j + 1) + us.length
      · rw [if_pos hi2, if_pos (by omega)]
        rw [show i - (off + j) = (i - (off + (j + 1))) + 1 from by omega]
        simp
      · rw [if_neg hi2, if_neg (by omega), Array.getElem?_setIfInBounds, if_neg (by omega)]

theorem CellsOk.mk_RVs {cs : List V} {us : List Value} (h : RVs P w ok cs ρ us) (h1 : ∀ x ∈ us, x.oneCell' = true) : CellsOk P w ok ρ cs us.toArray := by
  intro j v hv
  obtain ⟨u, e1, e2⟩ := h.get hv
  exact ⟨u, by simpa using e1, h1 u (List.mem_of_getElem? e1), e2⟩

theorem fill_run {place : Nat → Option (Nat × Nat)} : ∀ (parts : List (Nat × V)) (parts' : List (Nat × Value)) (cells cs : List V) (cur : Array Value),
    fillV place cells parts = some cs → parts.length = parts'.length →
    (∀ (i : Nat) p p', parts[i]? = some p → parts'[i]? = some p' → p.1 = p'.1 ∧ RV P w ok p.2 ρ p'.2) →
    CellsOk P w ok ρ cells cur → cells.length = cur.size → (∀ x ∈ cur.toList, x.oneCell' = true) →
    ∃ cur', Instr.fill place cur parts' = some cur' ∧ CellsOk P w ok ρ cs cur' ∧ cs.length = cur'.size ∧ (∀ x ∈ cur'.toList, x.oneCell' = true)
  | [], [], cells, cs, cur, hf, _, _, hc, hl, h1 => by
    simp only [fillV, Option.some.injEq] at hf; subst hf
    exact ⟨cur, by simp [Instr.fill], hc, hl, h1⟩
  | (i, v) :: rest, (i', u) :: rest', cells, cs, cur, hf, hlen, hp, hc, hl, h1 => by
    obtain ⟨e1, hv⟩ := hp 0 (i, v) (i', u) rfl rfl
    simp only at e1 hv
    subst e1
    simp only [fillV] at hf
    split at hf
    · cases hf
    · rename_i off size hpl
      split at hf
      · rename_i hcond
        obtain ⟨c1, c2, c3⟩ := hcond
        obtain ⟨r1, r2⟩ := RV.cells c1 hv
        have hul : u.cells.size = size := by have := r1.len; simp at this; omega
        obtain ⟨s1, s2⟩ := foldl_sets off u.cells.toList 0 cur (by simp; omega)
        simp only [Nat.add_zero] at s2
        have hfold : u.cells.zipIdx.foldl (fun cs (x : Value × Nat) => cs.setIfInBounds (off + x.2) x.1) cur = (u.cells.toList.zipIdx 0).foldl (fun (cs : Array Value) (x : Value × Nat) => cs.setIfInBounds (off + x.2) x.1) cur := by
          rw [← Array.foldl_toList, Array.toList_zipIdx]
        obtain ⟨cur', f1, f2⟩ := fill_run rest rest' _ cs (u.cells.zipIdx.foldl (fun cs (x : Value × Nat) => cs.setIfInBounds (off + x.2) x.1) cur) hf (by simpa using hlen)
          (fun j p p' hj hj' => hp (j + 1) p p' (by simpa using hj) (by simpa using hj'))
          (by rw [hfold]; exact hc.splice r1 r2 (by omega) s2) (by rw [splice_len (by omega), hfold, s1]; exact hl)
          (fun x hx => by
            rw [hfold] at hx
            obtain ⟨j, hj⟩ := List.getElem?_of_mem hx
            rw [Array.getElem?_toList, s2] at hj
            split at hj
            · exact r2 x (List.mem_of_getElem? hj)
            · exact h1 x (by rw [← Array.getElem?_toList] at hj; exact List.mem_of_getElem? hj))
        refine ⟨cur', ?_, f2⟩
        simp only [Instr.fill, hpl]
        rw [if_neg (by simp; omega)]
        exact f1
      · cases hf
  | [], _ :: _, _, _, _, _, hlen, _, _, _, _ => by simp at hlen
  | _ :: _, [], _, _, _, _, hlen, _, _, _, _ => by simp at hlen

def partsV (st : St) (ps : Array (Nat × Operand)) : List (Nat × V) := ps.toList.map fun x => (x.1, st.ev x.2)

/-- All are types of the program. -/
def hasAll (P : Program) : List Field → Prop
  | [] => True
  | f :: fs => has P f.type ∧ hasAll P fs
theorem hasAll_mem : ∀ {fs : List Field}, hasAll P fs → ∀ f ∈ fs, has P f.type := by
  intro fs
  induction fs with
  | nil => intro _ f hf; cases hf
  | cons x fs ih =>
    intro h f hf
    rcases List.mem_cons.1 hf with rfl | hf
    · exact h.1
    · exact ih h.2 f hf

def buildVC (P : Program) (t : TypeId) (ps : List (Nat × V)) (st : St) (k : V → St → Prop) : Prop :=
  match zeroL P t, P.underlying t with
  | some z, some (.struct fs) => hasAll P fs.toList ∧
      (match fillV ((fs.map fun f => (f.offset, P.cellsOf f.type))[·]?) z ps with | some cs => k (.agg cs) st | none => False)
  | some z, some (.array _ e) => has P e ∧ (match fillV (fun i => some (i * P.cellsOf e, P.cellsOf e)) z ps with | some cs => k (.agg cs) st | none => False)
  | _, _ => False

theorem parts_rel (h : Rel P E M st a w) (ps : Array (Nat × Operand)) : (partsV st ps).length = (ps.map fun x => (x.1, a.eval x.2)).toList.length ∧
    ∀ (i : Nat) p p', (partsV st ps)[i]? = some p → (ps.map fun x => (x.1, a.eval x.2)).toList[i]? = some p' → p.1 = p'.1 ∧ RV P w (okW E.X M w) p.2 M.ρ p'.2 := by
  refine ⟨by simp [partsV], fun i p p' hp hp' => ?_⟩
  simp only [partsV, List.getElem?_map, Array.toList_map] at hp hp'
  cases hi : ps.toList[i]? with
  | none => simp [hi] at hp
  | some x => simp [hi] at hp hp'; subst hp hp'; exact ⟨rfl, h.ev x.2⟩

theorem run_mapM_places {fs : List Field} (hf : ∀ f ∈ fs, ∃ d, P.underlying f.type = some d) :
    (fs.mapM fun f => (Prod.mk f.offset <$> sizeOf f.type : Sem (Nat × Nat))).run P w = .ok (fs.map fun f => (f.offset, P.cellsOf f.type)) w := by
  induction fs with
  | nil => simp
  | cons f fs ih =>
    obtain ⟨d, hd⟩ := hf f (by simp)
    have := ih (fun g hg => hf g (by simp [hg]))
    rw [List.mapM_cons]
    simp [run_sizeOf_u hd, this]

theorem build_q (h : Rel P E M st a w) {t : TypeId} {ps : Array (Nat × Operand)} (hk : buildVC P t (partsV st ps) st k) {dst ty pos af gd} :
    Quiet P E M st a w (execOp a.eval ⟨dst, .build t ps, ty, pos, af, gd⟩) k := by
  obtain ⟨p1, p2⟩ := parts_rel h ps
  unfold buildVC at hk
  split at hk
  · rename_i z fs hz hd
    obtain ⟨z0, z1, z2, rfl⟩ := zeroL_spec hz
    obtain ⟨hf, hk⟩ := hk
    split at hk
    · rename_i cs hfv
      obtain ⟨cur', g1, g2, g3, g4⟩ := fill_run _ _ _ _ z0.cells hfv p1 p2 (by simpa using CellsOk.mk_RVs (RVs_ofC (P := P) (w := w) (ok := okW E.X M w) (ρ := M.ρ) z0.cells.toList) z2) (by simp) z2
      refine .val (u := .agg cur') ?_ hk h ?_
      · obtain ⟨fl⟩ := fs
        have hm := run_mapM_places (P := P) (w := w) (hasAll_mem hf)
        simp only [List.map_toArray] at g1
        simp [execOp, Instr.build, z1, run_underlying hd, hm]
        simp at g1
        rw [g1]; rfl
      · simp only [RV]
        refine ⟨cur', rfl, g4, RVs.mk (by simpa using g3.symm) fun i v u hv hu => ?_⟩
        obtain ⟨u', e1, _, e3⟩ := g2 i v hv
        rw [Array.getElem?_toList, e1] at hu; cases hu; exact e3
    · exact hk.elim
  · rename_i z n e hz hd
    obtain ⟨z0, z1, z2, rfl⟩ := zeroL_spec hz
    obtain ⟨⟨d, hd2⟩, hk⟩ := hk
    split at hk
    · rename_i cs hfv
      obtain ⟨cur', g1, g2, g3, g4⟩ := fill_run _ _ _ _ z0.cells hfv p1 p2 (by simpa using CellsOk.mk_RVs (RVs_ofC (P := P) (w := w) (ok := okW E.X M w) (ρ := M.ρ) z0.cells.toList) z2) (by simp) z2
      refine .val (u := .agg cur') ?_ hk h ?_
      · simp [execOp, Instr.build, z1, run_underlying hd, run_sizeOf_u hd2]
        simp at g1
        rw [g1]; rfl
      · simp only [RV]
        refine ⟨cur', rfl, g4, RVs.mk (by simpa using g3.symm) fun i v u hv hu => ?_⟩
        obtain ⟨u', e1, _, e3⟩ := g2 i v hv
        rw [Array.getElem?_toList, e1] at hu; cases hu; exact e3
    · exact hk.elim
  · exact hk.elim

/-! ### New rows -/
/-- A row of one's own, just laid: closed values or not. -/
theorem Rel.newRow (h : Rel P E M st a w) {w1 : World} (ht : Turn (fun _ => False) w w1) {t : TypeId} {cs : List V} {cur : Array Value} (hv : CellsOk P w (okW E.X M w) noρ cs cur) {len cap : Nat}
    (hlc : len ≤ cap) (hcm : cap ≤ maxLen) (hroom : cap * P.cellsOf t ≤ cur.size) :
    Rel P E (M.add st.σ.length w1.heap.size) { st with σ := st.σ ++ [.arr t cs] } a (w1.alloc (.cells cur t)) ∧
      RV P (w1.alloc (.cells cur t)) (okW E.X (M.add st.σ.length w1.heap.size) (w1.alloc (.cells cur t))) (.sl true st.σ.length 0 len) (M.add st.σ.length w1.heap.size).ρ (.slice (some ⟨w1.heap.size, 0, none⟩) len cap) := by
  have hs1 := h.sat.same ht
  have ht1 : Turn (fun g => ∃ n, M.fp n g) w w1 := ht.mono fun _ hf => hf.elim
  have hown : ∀ n g, (M.add st.σ.length w1.heap.size).fp n g → (∃ m, M.fp m g) ∨ w.heap.size ≤ g := fun n g hn => by
    simp only [Env.add] at hn
    split at hn
    · exact .inr (by have := ht.size; omega)
    · exact .inl ⟨n, hn⟩
  have hρ : ∀ n g, M.ρ n = some g → (M.add st.σ.length w1.heap.size).ρ n = some g := fun n g hn => by
    simp only [Env.add]
    split
    · rename_i e; subst e; rw [h.sat.dom _ (Nat.le_refl _)] at hn; cases hn
    · exact hn
  have ht2 : Turn (fun g => ∃ n, M.fp n g) w (w1.alloc (.cells cur t)) := ht1.trans (Turn.alloc _ w1 _)
  have hl : Later w (w1.alloc (.cells cur t)) (okW E.X M w) (okW E.X (M.add st.σ.length w1.heap.size) (w1.alloc (.cells cur t))) := later_step ht2 hown
  have hs : Sat P E.X (M.add st.σ.length w1.heap.size) (st.σ ++ [.arr t cs]) (w1.alloc (.cells cur t)) := by
    refine hs1.alloc _ _ ⟨w1.heap.size, cur, (0, 0), by simp [Env.add], fun g => by simp [Env.add], heap_alloc_new w1 _, .inl (Nat.le_refl _), hv.later_no hl⟩
  refine ⟨h.step_same hs ht2 hρ hown (fun n hn => ?_) (by have := h.len; simp; omega), ?_⟩
  · simp only [Env.add]; rw [if_neg (by have := h.len; omega)]
  · simp only [RV]
    exact ⟨w1.heap.size, 0, cap, by simp [Env.add], rfl, hlc, hcm, fun _ => rfl, fun _ _ => ⟨t, cur.size, shape_cells (heap_alloc_new w1 _), by omega⟩⟩

/-- A row of one's own, just laid, that may hold names. -/
theorem Rel.newOwn (h : Rel P E M st a w) {w1 : World} (ht : Turn (fun _ => False) w w1) {t : TypeId} {cs : List V} {cur : Array Value} (hv : CellsOk P w (okW E.X M w) M.ρ cs cur) {len cap : Nat}
    (hlc : len ≤ cap) (hcm : cap ≤ maxLen) (hroom : cap * P.cellsOf t ≤ cur.size) :
    Rel P E (M.add st.σ.length w1.heap.size) { st with σ := st.σ ++ [.own t cs] } a (w1.alloc (.cells cur t)) ∧
      RV P (w1.alloc (.cells cur t)) (okW E.X (M.add st.σ.length w1.heap.size) (w1.alloc (.cells cur t))) (.sl true st.σ.length 0 len) (M.add st.σ.length w1.heap.size).ρ (.slice (some ⟨w1.heap.size, 0, none⟩) len cap) := by
  have hs1 := h.sat.same ht
  have ht1 : Turn (fun g => ∃ n, M.fp n g) w w1 := ht.mono fun _ hf => hf.elim
  have hown : ∀ n g, (M.add st.σ.length w1.heap.size).fp n g → (∃ m, M.fp m g) ∨ w.heap.size ≤ g := fun n g hn => by
    simp only [Env.add] at hn
    split at hn
    · exact .inr (by have := ht.size; omega)
    · exact .inl ⟨n, hn⟩
  have hρ : ∀ n g, M.ρ n = some g → (M.add st.σ.length w1.heap.size).ρ n = some g := fun n g hn => by
    simp only [Env.add]
    split
    · rename_i e; subst e; rw [h.sat.dom _ (Nat.le_refl _)] at hn; cases hn
    · exact hn
  have ht2 : Turn (fun g => ∃ n, M.fp n g) w (w1.alloc (.cells cur t)) := ht1.trans (Turn.alloc _ w1 _)
  have hl : Later w (w1.alloc (.cells cur t)) (okW E.X M w) (okW E.X (M.add st.σ.length w1.heap.size) (w1.alloc (.cells cur t))) := later_step ht2 hown
  have hs : Sat P E.X (M.add st.σ.length w1.heap.size) (st.σ ++ [.own t cs]) (w1.alloc (.cells cur t)) := by
    refine hs1.alloc _ _ ⟨w1.heap.size, cur, (0, 0), fun _ => none, by simp [Env.add], heap_alloc_new w1 _, .inl (Nat.le_refl _), fun g hg => by simpa [Env.add] using hg, by simp, by simp, fun j => ?_⟩
    cases hc : cs[j]? with
    | none => rfl
    | some v =>
      obtain ⟨u, e1, e2, e3⟩ := hv j v hc
      have := RV.ren_ hl (π := some) (ρ' := (M.add st.σ.length w1.heap.size).ρ) (fun n m g e hh => by cases e; exact hρ n g hh) _ _ e3
      rw [V.ren_some] at this
      exact ⟨u, e1, e2, OwnCell.ofRV this⟩
  refine ⟨h.step_same hs ht2 hρ hown (fun n hn => ?_) (by have := h.len; simp; omega), ?_⟩
  · simp only [Env.add]; rw [if_neg (by have := h.len; omega)]
  · simp only [RV]
    exact ⟨w1.heap.size, 0, cap, by simp [Env.add], rfl, hlc, hcm, fun _ => rfl, fun _ _ => ⟨t, cur.size, shape_cells (heap_alloc_new w1 _), by omega⟩⟩

def buildSliceVC (P : Program) (t : TypeId) (len : Nat) (ps : List (Nat × V)) (st : St) (k : V → St → Prop) : Prop :=
  match P.underlying t with
  | some (.slice e) => has P e ∧ len * P.cellsOf e ≤ 16777216 ∧ len ≤ maxLen ∧ (match zeroL P e with
    | some z => z.length ≠ 0 ∧ (match fillV (fun i => some (i * P.cellsOf e, P.cellsOf e)) ((List.range (len * P.cellsOf e)).map fun i => z.getD (i % z.length) .undef) ps with
      | some cs => if V.closeds cs then k (.sl true st.σ.length 0 len) { st with σ := st.σ ++ [.arr e cs] }
          else (if V.closeds (closeVs P cs st.σ).1 then k (.sl true st.σ.length 0 len) { st with σ := (closeVs P cs st.σ).2 ++ [.arr e (closeVs P cs st.σ).1] } else False) ∨
            k (.sl true st.σ.length 0 len) { st with σ := st.σ ++ [.own e cs] }
      | none => False)
    | none => False)
  | _ => False

theorem RVs.of_cells {cs : List V} {cur : Array Value} (h : CellsOk P w ok ρ cs cur) (hl : cs.length = cur.size) : RVs P w ok cs ρ cur.toList :=
  RVs.mk (by simpa using hl.symm) fun i v u hv hu => by
    obtain ⟨u', e1, _, e3⟩ := h i v hv
    rw [Array.getElem?_toList, e1] at hu; cases hu; exact e3

theorem buildSlice_ok (h : Rel P E M st a w) {t : TypeId} {len : Nat} {ps : Array (Nat × Operand)} (hk : buildSliceVC P t len (partsV st ps) st k) {dst ty pos af gd} :
    Does P E a ((execOp a.eval ⟨dst, .buildSlice t len ps, ty, pos, af, gd⟩).run P w) k kp := by
  obtain ⟨p1, p2⟩ := parts_rel h ps
  unfold buildSliceVC at hk
  split at hk
  · rename_i e hd
    obtain ⟨⟨d, hd2⟩, hsz, hml, hk⟩ := hk
    split at hk
    · rename_i z hz
      obtain ⟨z0, z1, z2, rfl⟩ := zeroL_spec hz
      obtain ⟨hzn, hk⟩ := hk
      have hzn' : z0.cells.size ≠ 0 := by simpa using hzn
      split at hk
      · rename_i cs hfv
        have hget : ∀ i : Nat, z0.cells[i % z0.cells.size]! = z0.cells[i % z0.cells.size]'(Nat.mod_lt _ (by omega)) := fun i => by rw [getElem!_pos]
        have hcells : CellsOk P w (okW E.X M w) M.ρ ((List.range (len * P.cellsOf e)).map fun i => (z0.cells.toList.map V.ofC).getD (i % (z0.cells.toList.map V.ofC).length) .undef)
            ((Array.range (len * P.cellsOf e)).map (z0.cells[· % z0.cells.size]!)) := by
          intro j v hv
          rw [List.getElem?_map] at hv
          rcases Nat.lt_or_ge j (len * P.cellsOf e) with hj | hj
          · rw [List.getElem?_range hj] at hv
            simp only [Option.map_some, Option.some.injEq] at hv
            have hm : j % z0.cells.size < z0.cells.size := Nat.mod_lt _ (by omega)
            refine ⟨z0.cells[j % z0.cells.size], ?_, z2 _ (by simp), ?_⟩
            · rw [Array.getElem?_map, Array.getElem?_range, if_pos hj, Option.map_some, hget]
            · rw [← hv]
              simp only [List.length_map, Array.length_toList]
              rw [List.getD_eq_getElem?_getD, List.getElem?_map, List.getElem?_eq_getElem (by simpa using hm)]
              simp only [Option.map_some, Option.getD_some, Array.getElem_toList]
              exact RV.ofC _
          · rw [List.getElem?_eq_none (by simpa using hj)] at hv; cases hv
        have hone : ∀ x ∈ ((Array.range (len * P.cellsOf e)).map (z0.cells[· % z0.cells.size]!)).toList, x.oneCell' = true := by
          intro x hx
          simp only [Array.toList_map, List.mem_map] at hx
          obtain ⟨i, _, rfl⟩ := hx
          rw [hget]; exact z2 _ (by simp)
        obtain ⟨cur', g1, g2, g3, g4⟩ := fill_run _ _ _ _ _ hfv p1 p2 hcells (by simp) hone
        have hlen : cs.length = len * P.cellsOf e := by
          have : ∀ (ps : List (Nat × V)) (c c' : List V), fillV (fun i => some (i * P.cellsOf e, P.cellsOf e)) c ps = some c' → c'.length = c.length := by
            intro ps
            induction ps with
            | nil => intro c c' hh; simp [fillV] at hh; rw [hh]
            | cons p ps ih =>
              intro c c' hh
              obtain ⟨i, v⟩ := p
              simp only [fillV] at hh
              split at hh
              · rename_i hc
                rw [ih _ _ hh, splice_len (by omega)]
              · cases hh
          rw [this _ _ _ hfv]; simp
        have hrun : (execOp a.eval ⟨dst, .buildSlice t len ps, ty, pos, af, gd⟩).run P w = .ok (.value (.slice (some ⟨w.heap.size, 0, none⟩) len len)) (w.alloc (.cells cur' e)) := by
          have h24 : ¬ (16777216 < len * P.cellsOf e) := by omega
          by_cases hz0 : len * P.cellsOf e = 0
          · have ez : ((Array.range (len * P.cellsOf e)).map (z0.cells[· % z0.cells.size]!)) = ((Array.range (len * P.cellsOf e)).map ((#[] : Array Value)[· % 0]!)) := by rw [hz0]; simp
            rw [ez] at g1
            simp at g1
            simp [execOp, Instr.buildSlice, run_underlying hd, run_sizeOf_u hd2, h24, hz0, newRow]
            rw [hz0] at g1
            simp [g1]
          · simp at g1
            simp [execOp, Instr.buildSlice, run_underlying hd, run_sizeOf_u hd2, h24, hz0, z1, newRow, g1]
        split at hk
        · rename_i hcl
          obtain ⟨r1, r2⟩ := h.newRow (Turn.refl _ w) (t := e) (cs := cs) (cur := cur') (len := len) (cap := len)
            (by have := CellsOk.mk_RVs (RVs.of_closed (ρ' := noρ) _ _ hcl (RVs.of_cells g2 g3)) g4; simpa using this) (Nat.le_refl _) hml (by omega)
          exact .val hrun hk r1 r2
        · rcases hk with hk | hk
          · split at hk
            · rename_i hcl
              obtain ⟨M1, s1, s2, s3, s4, s5⟩ := close_rvs (P := P) h.sat (RVs.of_cells g2 g3)
              have h1 := h.less s1 s2 s3 s4
              obtain ⟨r1, r2⟩ := h1.newRow (Turn.refl _ w) (t := e) (cs := (closeVs P cs st.σ).1) (cur := cur') (len := len) (cap := len)
                (by have := CellsOk.mk_RVs (RVs.of_closed (ρ' := noρ) _ _ hcl s5) g4; simpa using this) (Nat.le_refl _) hml (by omega)
              simp only at r1 r2
              rw [s4] at r1 r2
              exact .val hrun hk r1 r2
            · exact hk.elim
          · obtain ⟨r1, r2⟩ := h.newOwn (Turn.refl _ w) (t := e) (cs := cs) (cur := cur') (len := len) (cap := len) g2 (Nat.le_refl _) hml (by omega)
            exact .val hrun hk r1 r2
      · exact hk.elim
    · exact hk.elim
  · exact hk.elim

end
end Go.Proofs.Ytncnnbjhginpfaa
