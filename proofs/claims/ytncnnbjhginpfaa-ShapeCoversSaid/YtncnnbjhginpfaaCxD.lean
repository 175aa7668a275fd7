/- Reading and writing memory by names. Conditions: none; plain definitions and lemmas. -/
import Derived.Test.YtncnnbjhginpfaaCxC
namespace Go.Proofs.Ytncnnbjhginpfaa
set_option linter.unusedVariables false
set_option linter.unusedSimpArgs false
set_option linter.unnecessarySimpa false
open Go.RowKit

def V.cellsL : V → List V | .agg cs => cs | v => [v]
/-- A value whose cells are known to be cells. -/
def V.okc : V → Bool | .undef | .tup _ => false | .opq u => u.oneCell' | _ => true
/-- A constant of the text. -/
def V.ofC : Value → V
  | .bool b => .bool b
  | .int k n => .int k n
  | .string s => .str s
  | .pointer none => .nilp
  | .slice none 0 0 => .nils
  | .map none => .nilm
  | .nilFunc => .nilf
  | .nilIface => .nili
  | u => .opq u

def isAggB (P : Program) (t : TypeId) : Bool := match P.underlying t with | some (.struct _) | some (.array _ _) => true | _ => false

section
variable {P : Program} {E : En} {M M' : Env} {st : St} {a : Act} {w w' : World} {X : Nat → Prop} {σ σ' : List Ob} {π ρ : Nat → Option Nat} {ok : Nat → Prop}

theorem RV.ofC (u : Value) : RV P w ok (V.ofC u) ρ u := by
  unfold V.ofC
  split <;> simp [RV]

theorem RV.cells {v : V} {u : Value} (hk : v.okc = true) (h : RV P w ok v ρ u) : RVs P w ok v.cellsL ρ u.cells.toList ∧ ∀ x ∈ u.cells.toList, x.oneCell' = true := by
  cases v with
  | agg cs =>
    simp only [RV] at h
    obtain ⟨us, rfl, h1, h2⟩ := h
    exact ⟨h2, h1⟩
  | undef => simp [V.okc] at hk
  | tup vs => simp [V.okc] at hk
  | opq x =>
    simp only [RV] at h; subst h
    simp only [V.okc] at hk
    have : u.cells = #[u] := by cases u <;> first | rfl | (simp [Value.oneCell'] at hk)
    simp [V.cellsL, RVs, RV, this, hk]
  | _ =>
    have h1 := RV.one (by simp) h
    have : u.cells = #[u] := by cases u <;> first | rfl | (simp [Value.oneCell'] at h1)
    simp only [V.cellsL, RVs, this]
    exact ⟨⟨u, [], by simp, h, rfl⟩, by simpa using h1⟩

theorem info_of_underlying {t : TypeId} {d : TypeDesc} (h : P.underlying t = some d) : ∃ i, P.info? t = some i := by
  unfold Program.underlying at h
  cases hi : P.info? t with
  | none => simp [hi] at h
  | some i => exact ⟨i, rfl⟩

theorem run_sizeOf_u {t : TypeId} {d : TypeDesc} (h : P.underlying t = some d) (w : World) : (sizeOf t).run P w = .ok (P.cellsOf t) w := by
  obtain ⟨i, hi⟩ := info_of_underlying h
  simp [sizeOf, typeInfo, hi, Program.cellsOf]

theorem run_isAgg_u {t : TypeId} {d : TypeDesc} (h : P.underlying t = some d) (w : World) : (isAgg t).run P w = .ok (isAggB P t) w := by
  simp only [isAgg, Sem.run_bind, run_underlying h, Result.andThen_ok, isAggB, h]
  cases d <;> rfl

theorem add_plain (g o j : Nat) : (⟨g, o, none⟩ : Addr).add j = ⟨g, o + j, none⟩ := by
  unfold Addr.add; split <;> simp_all

theorem getD_of {α : Type} {l : List α} {i : Nat} {x d : α} (h : l[i]? = some x) : l.getD i d = x := by simp [List.getD_eq_getElem?_getD, h]

/-- A variable read. -/
theorem run_loadVar_of {t : TypeId} {d : TypeDesc} (hd : P.underlying t = some d) {ad : Addr} {us : List Value} (hl : us.length = P.cellsOf t)
    (h : ∀ (j : Nat) u, us[j]? = some u → w.cell? (ad.add j) = some u) (h1 : isAggB P t = false → us.length = 1) :
    (loadVar t ad).run P w = .ok (if isAggB P t then .agg us.toArray else us.getD 0 undef) w := by
  simp only [loadVar, Sem.run_bind, run_isAgg_u hd, Result.andThen_ok]
  cases hb : isAggB P t with
  | true =>
    simp only [if_true, Sem.run_bind, run_sizeOf_u hd, Result.andThen_ok, ← hl]
    rw [run_loadCells_list w ad us h]
    rfl
  | false =>
    have e := h1 hb
    match us, e with
    | [u], _ =>
      have := h 0 u rfl
      simp only [Addr.add, if_true] at this
      simp [this]

/-- What a variable's value is, of its cells. -/
theorem RV_of_cells {t : TypeId} {vs : List V} {us : List Value} (hv : RVs P w ok vs ρ us) (h1 : ∀ x ∈ us, x.oneCell' = true) (hone : isAggB P t = false → vs.length = 1) :
    RV P w ok (if isAggB P t then .agg vs else vs.getD 0 .undef) ρ (if isAggB P t then .agg us.toArray else us.getD 0 undef) := by
  cases hb : isAggB P t with
  | true => simp only [if_true, RV]; exact ⟨_, rfl, by simpa using h1, by simpa using hv⟩
  | false =>
    have e := hone hb
    match vs, e with
    | [v], _ =>
      simp only [RVs] at hv
      obtain ⟨u, us', rfl, h2, rfl⟩ := hv
      simpa using h2

/-- The cells of a row, from an offset on. -/
theorem CellsOk.range {cs : List V} {cur : Array Value} (h : CellsOk P w ok ρ cs cur) {off n : Nat} (hn : off + n ≤ cs.length) :
    ∃ us : List Value, us.length = n ∧ (∀ (j : Nat) u, us[j]? = some u → cur[off + j]? = some u) ∧ (∀ x ∈ us, x.oneCell' = true) ∧ RVs P w ok ((cs.drop off).take n) ρ us := by
  induction n generalizing off with
  | zero => exact ⟨[], rfl, by simp, by simp, by simp [RVs]⟩
  | succ n ih =>
    obtain ⟨us, h1, h2, h3, h4⟩ := ih (off := off + 1) (by omega)
    have hlt : off < cs.length := by omega
    obtain ⟨u, e1, e2, e3⟩ := h off cs[off] (List.getElem?_eq_getElem hlt)
    refine ⟨u :: us, by simp [h1], ?_, ?_, ?_⟩
    · intro j x hj
      cases j with
      | zero => simp at hj; subst hj; simpa using e1
      | succ j => simp at hj; have := h2 j x hj; rwa [show off + 1 + j = off + (j + 1) from by omega] at this
    · intro x hx
      simp at hx
      rcases hx with rfl | hx
      · exact e2
      · exact h3 x hx
    · rw [List.drop_eq_getElem_cons hlt, List.take_succ_cons]
      exact ⟨u, us, rfl, e3, h4⟩

/-- A row that another row owns, as it is read: its length alone. -/
def V.view : V → V | .tree _ _ len => .frz [] len | v => v

theorem OwnCell.view {kid : Option Nat} {v : V} {u : Value} (h : OwnCell P w ok ρ kid v u) : RV P w ok v.view ρ u := by
  cases v <;> simp only [V.view] <;> first
    | exact h.2
    | (obtain ⟨g, o, cap, cur, fr, h1, h2, h3, h4, _⟩ := h; simp only [RV]; exact ⟨_, cap, h2, h3, h4, fun hne => absurd rfl hne⟩)

/-- What is read at a name and an offset, by the object that lies there. -/
def Ob.rd : Ob → Option (List V) | .arr _ cs | .var _ cs | .froz _ cs => some cs | .own _ cs => some (cs.map V.view) | _ => none

theorem Sat.rd (h : Sat P X M σ w) {n : Nat} {o : Ob} {cs : List V} (hn : σ[n]? = some o) (ho : o.rd = some cs) {off k : Nat} (hk : off + k ≤ cs.length) :
    ∃ g us, M.ρ n = some g ∧ us.length = k ∧ (∀ (j : Nat) u, us[j]? = some u → w.cell? ((⟨g, off, none⟩ : Addr).add j) = some u) ∧ (∀ x ∈ us, x.oneCell' = true) ∧
      RVs P w (okW X M w) ((cs.drop off).take k) M.ρ us := by
  have hob := h.ob n o hn
  cases o with
  | loop L => cases ho
  | arr t cs' =>
    cases ho
    obtain ⟨g, cur, fr, h1, _, h3, _, h5⟩ := hob
    obtain ⟨us, e1, e2, e3, e4⟩ := h5.range hk
    exact ⟨g, us, h1, e1, fun j u hj => by rw [add_plain, cell_of_heap h3]; exact e2 j u hj, e3, RVs.of_no _ _ e4⟩
  | var t cs' =>
    cases ho
    obtain ⟨g, cur, fr, h1, _, h3, _, h5⟩ := hob
    obtain ⟨us, e1, e2, e3, e4⟩ := h5.range hk
    exact ⟨g, us, h1, e1, fun j u hj => by rw [add_plain, cell_of_heap h3]; exact e2 j u hj, e3, e4⟩
  | froz t cs' =>
    cases ho
    obtain ⟨_, g, cur, fr, h1, _, h3, h5⟩ := hob
    obtain ⟨us, e1, e2, e3, e4⟩ := h5.range hk
    exact ⟨g, us, h1, e1, fun j u hj => by rw [add_plain, cell_of_heap h3]; exact e2 j u hj, e3, RVs.of_no _ _ e4⟩
  | own t cs' =>
    cases ho
    obtain ⟨g, cur, fr, kid, h1, h2, h3, h4, h5, h6, h7⟩ := hob
    have hc : CellsOk P w (okW X M w) M.ρ (cs'.map V.view) cur := fun j v hv => by
      rw [List.getElem?_map] at hv
      have h8 := h7 j
      cases hc : cs'[j]? with
      | none => simp [hc] at hv
      | some v0 =>
        simp [hc] at hv
        subst hv
        rw [hc] at h8
        obtain ⟨u, e1, e2, e3⟩ := h8
        exact ⟨u, e1, e2, e3.view⟩
    obtain ⟨us, e1, e2, e3, e4⟩ := hc.range hk
    exact ⟨g, us, h1, e1, fun j u hj => by rw [add_plain, cell_of_heap h2]; exact e2 j u hj, e3, e4⟩
  | gone => simp [Ob.rd] at ho
  | map es c => simp [Ob.rd] at ho
  | res A => simp [Ob.rd] at ho

theorem RCs.range {cs : List V} {ad : Addr} (h : RCs P w ok cs ad) {k : Nat} (hk : k ≤ cs.length) :
    ∃ us, us.length = k ∧ (∀ (j : Nat) u, us[j]? = some u → w.cell? (ad.add j) = some u) ∧ (∀ x ∈ us, x.oneCell' = true) ∧ RVs P w ok (cs.take k) ρ us := by
  induction k generalizing cs ad with
  | zero => exact ⟨[], rfl, by simp, by simp, by simp [RVs]⟩
  | succ k ih =>
    match cs, hk with
    | v :: vs, hk =>
      simp only [RCs] at h
      obtain ⟨⟨u, e1, e2, e3⟩, h4⟩ := h
      obtain ⟨us, f1, f2, f3, f4⟩ := ih h4 (by simpa using hk)
      refine ⟨u :: us, by simp [f1], ?_, ?_, ?_⟩
      · intro j x hj
        cases j with
        | zero => simp at hj; subst hj; simpa [Addr.add] using e1
        | succ j =>
          simp at hj
          rw [← f2 j x hj]
          congr 1
          unfold Addr.add
          by_cases hz : j = 0 <;> simp [hz]; omega
      · intro x hx
        simp at hx
        rcases hx with rfl | hx
        · exact e2
        · exact f3 x hx
      · rw [List.take_succ_cons]
        exact ⟨u, us, rfl, RV.of_no _ _ e3, f4⟩

/-! ### Writing -/
def splice (cs : List V) (off : Nat) (vs : List V) : List V := match vs with | [v] => cs.set off v | vs => cs.take off ++ vs ++ cs.drop (off + vs.length)

theorem splice_get {cs vs : List V} {off : Nat} (h : off + vs.length ≤ cs.length) (j : Nat) :
    (splice cs off vs)[j]? = if off ≤ j ∧ j < off + vs.length then vs[j - off]? else cs[j]? := by
  unfold splice
  split
  · rename_i v
    rw [List.getElem?_set]
    simp at h ⊢
    by_cases e : off = j
    · subst e; simp; omega
    · rw [if_neg e, if_neg (by omega)]
  · by_cases h1 : j < off
    · rw [if_neg (by omega), List.append_assoc, List.getElem?_append_left (by simp; omega), List.getElem?_take, if_pos h1]
    · by_cases h2 : j < off + vs.length
      · rw [if_pos ⟨by omega, h2⟩, List.append_assoc, List.getElem?_append_right (by simp; omega), List.getElem?_append_left (by simp; omega)]
        congr 1; simp; omega
      · rw [if_neg (by omega), List.getElem?_append_right (by simp; omega), List.getElem?_drop]
        congr 1; simp; omega

theorem splice_len {cs vs : List V} {off : Nat} (h : off + vs.length ≤ cs.length) : (splice cs off vs).length = cs.length := by
  unfold splice
  split
  · simp
  · simp; omega

theorem run_storeCells_turn {g o : Nat} {t : TypeId} {fr : Nat × Nat} : ∀ (vs : List Value) (i : Nat) (cur : Array Value) (w : World), w.heap[g]? = some (.cells cur t fr) → FrOk fr cur.size →
    o + i + vs.length ≤ cur.size → (∀ x ∈ vs, x.oneCell' = true) →
    ∃ w' cur', (storeCells ⟨g, o, none⟩ vs i).run P w = .ok () w' ∧ Turn (· = g) w w' ∧ w'.heap[g]? = some (.cells cur' t fr) ∧ cur'.size = cur.size ∧
      ∀ k, cur'[k]? = if o + i ≤ k ∧ k < o + i + vs.length then vs[k - (o + i)]? else cur[k]?
  | [], i, cur, w, hg, _, _, _ => ⟨w, cur, by simp [storeCells], Turn.refl _ _, hg, rfl, fun k => by rw [if_neg (by simp)]⟩
  | v :: vs, i, cur, w, hg, hf, hs, h1 => by
    have hlt : o + i < cur.size := by simp at hs; omega
    have hc : w.cell? ⟨g, o + i, none⟩ = some cur[o + i] := by rw [cell_of_heap hg]; exact Array.getElem?_eq_getElem hlt
    have hz : w.frozen? ⟨g, o + i, none⟩ = false := frozen_of_heap hg hf hlt
    have hg' : (w.setCell ⟨g, o + i, none⟩ v).heap[g]? = some (.cells (cur.setIfInBounds (o + i) v) t fr) := by
      simp [World.setCell, Array.getElem?_modify, hg]
    have hs2 : o + (i + 1) + vs.length ≤ (cur.setIfInBounds (o + i) v).size := by simp at hs ⊢; omega
    obtain ⟨w', cur', e1, e2, e3, e4, e5⟩ := run_storeCells_turn vs (i + 1) _ _ hg' (by simpa using hf) hs2 (fun x hx => h1 x (by simp [hx]))
    refine ⟨w', cur', ?_, (Turn.setCell w ⟨g, o + i, none⟩ v).trans (e2.mono fun k hk => .inl hk), e3, by simpa using e4, fun k => ?_⟩
    · simp only [storeCells, Sem.run_bind, add_plain]
      rw [run_store P w _ v .plain (h1 v (by simp))]
      simp [hc, hz, e1]
    · rw [e5 k]
      simp only [List.length_cons]
      by_cases hk : k = o + i
      · subst hk
        rw [if_neg (by omega), if_pos (by omega)]
        simp [hlt]
      · by_cases hk2 : o + (i + 1) ≤ k ∧ k < o + (i + 1) + vs.length
        · rw [if_pos hk2, if_pos (by omega)]
          rw [show k - (o + i) = (k - (o + (i + 1))) + 1 from by omega]
          simp
        · rw [if_neg hk2, if_neg (by omega)]
          rw [Array.getElem?_setIfInBounds, if_neg (by omega)]

/-- Cells behind a write. -/
theorem CellsOk.splice {cs vs : List V} {cur cur' : Array Value} {us : List Value} {off : Nat} (h : CellsOk P w ok ρ cs cur) (hu : RVs P w ok vs ρ us) (h1 : ∀ x ∈ us, x.oneCell' = true)
    (hl : off + vs.length ≤ cs.length) (he : ∀ k, cur'[k]? = if off ≤ k ∧ k < off + us.length then us[k - off]? else cur[k]?) : CellsOk P w ok ρ (splice cs off vs) cur' := by
  intro j v hv
  rw [splice_get hl] at hv
  rw [he j, hu.len]
  split at hv
  · rename_i hj
    obtain ⟨u, e1, e2⟩ := hu.get hv
    exact ⟨u, by rw [if_pos hj]; exact e1, h1 u (List.mem_of_getElem? e1), e2⟩
  · rename_i hj
    obtain ⟨u, e1, e2, e3⟩ := h j v hv
    exact ⟨u, by rw [if_neg hj]; exact e1, e2, e3⟩

end
end Go.Proofs.Ytncnnbjhginpfaa
