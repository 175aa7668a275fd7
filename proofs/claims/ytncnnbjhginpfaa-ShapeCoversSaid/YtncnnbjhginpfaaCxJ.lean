/- The operations, one by one, part 6: append. Conditions: none; plain definitions and lemmas. -/
import Derived.Test.YtncnnbjhginpfaaCxI
namespace Go.Proofs.Ytncnnbjhginpfaa
set_option linter.unusedVariables false
set_option linter.unusedSimpArgs false
set_option linter.unnecessarySimpa false
open Go.RowKit

section
variable {P : Program} {E : En} {M M' : Env} {st : St} {a : Act} {w w' : World} {X : Nat → Prop} {σ σ' : List Ob} {π ρ : Nat → Option Nat} {ok : Nat → Prop} {k kp : V → St → Prop}

def killπ (n : Nat) : Nat → Option Nat := fun m => if m = n then none else some m
def Env.swap (M : Env) (n s g : Nat) (F : Nat → Prop) : Env := ⟨fun m => if m = s then some g else M.ρ m, fun m b => if m = n then False else if m = s then F b else M.fp m b⟩

/-- A row is let go; what it becomes has the next name. -/
theorem Sat.swap (h : Sat P X M σ w) {n g : Nat} {F : Nat → Prop} (hn : n < σ.length) (hF : ∀ b, F b → M.fp n b ∨ (w.heap.size ≤ b ∧ b < w'.heap.size)) (ht : Turn (M.fp n) w w') (ob : Ob)
    (hob : OkOb P w' (okW X (M.swap n σ.length g F) w') (M.swap n σ.length g F) σ.length ob) :
    Sat P X (M.swap n σ.length g F) ((σ.map (Ob.ren (killπ n))).set n .gone ++ [ob]) w' ∧ Later w w' (okW X M w) (okW X (M.swap n σ.length g F) w') ∧
      (∀ m b, (M.swap n σ.length g F).fp m b → (∃ m, M.fp m b) ∨ w.heap.size ≤ b) := by
  have hown : ∀ m b, (M.swap n σ.length g F).fp m b → (∃ m, M.fp m b) ∨ w.heap.size ≤ b := fun m b hm => by
    simp only [Env.swap] at hm
    split at hm
    · exact hm.elim
    · split at hm
      · exact (hF b hm).elim (fun h => .inl ⟨n, h⟩) (fun h => .inr h.1)
      · exact .inl ⟨m, hm⟩
  have hl := later_step (X := X) (ht.mono fun b hb => ⟨n, hb⟩) hown
  refine ⟨⟨fun m o ho => ?_, fun m hm => ?_, fun m b hm => ?_, fun m m' b h1 h2 => ?_, fun m b hm hx => ?_, fun m b hm => ?_, fun b hb => Nat.lt_of_lt_of_le (h.Xlt b hb) ht.size⟩, hl, hown⟩
  · rw [List.getElem?_append] at ho
    simp only [List.length_set, List.length_map] at ho
    split at ho
    · rename_i hlt
      by_cases e : m = n
      · subst e
        rw [List.getElem?_set_self (by simpa using hlt)] at ho
        cases ho
        simp [OkOb, Env.swap]
      · rw [getElem?_set_ne' e, List.getElem?_map] at ho
        cases hm : σ[m]? with
        | none => simp [hm] at ho
        | some o' =>
          simp [hm] at ho
          subst ho
          refine (h.ob m o' hm).keep hl (fun b hb => ht.blk b (h.lt m b hb) (fun hf => e (h.disj m n b hb hf))) ?_ (fun b => ?_) fun x y b hx hy => ?_
          · simp only [Env.swap]; rw [if_neg (by omega)]
          · simp only [Env.swap]; rw [if_neg e, if_neg (by omega)]
          · simp only [killπ] at hx
            split at hx
            · cases hx
            · cases hx
              simp only [Env.swap]
              split
              · rename_i e'; rw [e', h.dom _ (Nat.le_refl _)] at hy; cases hy
              · exact hy
    · rename_i hge
      have e : m = σ.length := by
        have := (List.getElem?_eq_some_iff.1 ho).1
        simp at this; omega
      subst e
      simp at ho
      subst ho
      exact hob
  · simp at hm
    simp only [Env.swap]
    rw [if_neg (by omega)]; exact h.dom m (by omega)
  · simp at hm
    simp only [Env.swap]
    rw [if_neg (by omega), if_neg (by omega)]; exact h.out m b (by omega)
  · have cross : ∀ m' b, m' ≠ n → F b → M.fp m' b → False := fun m' b hne hf hm' => by
      rcases hF b hf with hg | hg
      · exact hne (h.disj m' n b hm' hg)
      · have := h.lt m' b hm'; omega
    simp only [Env.swap] at h1 h2
    split at h1
    · exact h1.elim
    · rename_i hne1
      split at h2
      · exact h2.elim
      · rename_i hne2
        split at h1 <;> split at h2
        · omega
        · exact (cross m' b hne2 h1 h2).elim
        · exact (cross m b hne1 h2 h1).elim
        · exact h.disj m m' b h1 h2
  · simp only [Env.swap] at hm
    split at hm
    · exact hm
    · split at hm
      · rcases hF b hm with hg | hg
        · exact h.nX n _ hg hx
        · have := h.Xlt _ hx; omega
      · exact h.nX m b hm hx
  · simp only [Env.swap] at hm
    split at hm
    · exact hm.elim
    · split at hm
      · rcases hF b hm with hg | hg
        · exact Nat.lt_of_lt_of_le (h.lt n _ hg) ht.size
        · exact hg.2
      · exact Nat.lt_of_lt_of_le (h.lt m b hm) ht.size

/-- What is appended: its cells and how many elements. -/
def srcCells (sz : Nat) (v : V) (σ : List Ob) : Option (List V × Nat) :=
  match v with
  | .nils | .esl => some ([], 0)
  | .frz cs len => if cs.length = len * sz ∧ 0 < sz then some (cs, len) else none
  | .sl _ n off len => (match σ[n]? with
    | some (.arr _ cs) | some (.froz _ cs) => if off + len * sz ≤ cs.length then some ((cs.drop off).take (len * sz), len) else none
    | _ => none)
  | _ => none

def Ob.rdc : Ob → Option (List V) | .arr _ cs | .froz _ cs => some cs | _ => none

theorem Sat.rdc (h : Sat P X M σ w) {n : Nat} {o : Ob} {cs : List V} (hn : σ[n]? = some o) (ho : o.rdc = some cs) {off k : Nat} (hk : off + k ≤ cs.length) :
    ∃ g us, M.ρ n = some g ∧ us.length = k ∧ (∀ (j : Nat) u, us[j]? = some u → w.cell? ((⟨g, off, none⟩ : Addr).add j) = some u) ∧ (∀ x ∈ us, x.oneCell' = true) ∧
      RVs P w (okW X M w) ((cs.drop off).take k) noρ us := by
  have hob := h.ob n o hn
  cases o with
  | loop L => cases ho
  | arr t cs' =>
    cases ho
    obtain ⟨g, cur, fr, h1, _, h3, _, h5⟩ := hob
    obtain ⟨us, e1, e2, e3, e4⟩ := h5.range hk
    exact ⟨g, us, h1, e1, fun j u hj => by rw [add_plain, cell_of_heap h3]; exact e2 j u hj, e3, e4⟩
  | froz t cs' =>
    cases ho
    obtain ⟨_, g, cur, fr, h1, _, h3, h5⟩ := hob
    obtain ⟨us, e1, e2, e3, e4⟩ := h5.range hk
    exact ⟨g, us, h1, e1, fun j u hj => by rw [add_plain, cell_of_heap h3]; exact e2 j u hj, e3, e4⟩
  | var t cs => simp [Ob.rdc] at ho
  | own t cs => simp [Ob.rdc] at ho
  | gone => simp [Ob.rdc] at ho
  | map es c => simp [Ob.rdc] at ho
  | res A => simp [Ob.rdc] at ho

theorem src_run (h : Sat P X M σ w) {v : V} {u : Value} (hv : RV P w (okW X M w) v M.ρ u) {sz m : Nat} {cs : List V} (hs : srcCells sz v σ = some (cs, m)) :
    ∃ A c us, u = .slice A m c ∧ us.length = m * sz ∧ (∀ (j : Nat) x b, A = some b → us[j]? = some x → w.cell? (b.add j) = some x) ∧ (∀ x ∈ us, x.oneCell' = true) ∧
      RVs P w (okW X M w) cs noρ us ∧ cs.length = m * sz ∧ (A = none → m = 0) := by
  unfold srcCells at hs
  split at hs
  · cases hs
    simp only [RV] at hv
    exact ⟨none, 0, [], hv, by simp, by simp, by simp, by simp [RVs], by simp, by simp⟩
  · cases hs
    simp only [RV] at hv
    obtain ⟨A, hv⟩ := hv
    exact ⟨A, 0, [], hv, by simp, by simp, by simp, by simp [RVs], by simp, by simp⟩
  · rename_i cs' len
    split at hs
    · rename_i hl
      cases hs
      simp only [RV] at hv
      obtain ⟨A, c, rfl, h1, h2, h3⟩ := hv
      by_cases hne : cs = []
      · subst hne
        have hm : m = 0 := by
          rcases Nat.eq_zero_or_pos m with hz | hz
          · exact hz
          · have := Nat.mul_pos hz hl.2
            simp at hl; omega
        subst hm
        exact ⟨A, c, [], rfl, by simp, by simp, by simp, by simp [RVs], by simp, by simp⟩
      · obtain ⟨ad, rfl, g1, g2⟩ := h3 hne
        obtain ⟨us, f1, f2, f3, f4⟩ := RCs.range (ρ := noρ) g2 (Nat.le_refl _)
        exact ⟨some ad, c, us, rfl, by rw [f1, hl.1], fun j x b hb hx => by cases hb; exact f2 j x hx, f3, by simpa using f4, hl.1, by simp⟩
    · cases hs
  · rename_i ow n off len
    simp only [RV] at hv
    obtain ⟨g, o, cap, hg, rfl, h2, h3, h4, h5⟩ := hv
    have key : ∀ (ob : Ob) (cs0 : List V), σ[n]? = some ob → ob.rdc = some cs0 → off + len * sz ≤ cs0.length → some ((cs0.drop off).take (len * sz), len) = some (cs, m) →
        ∃ A c us, Value.slice (some ⟨g, o, none⟩) len cap = .slice A m c ∧ us.length = m * sz ∧ (∀ (j : Nat) x b, A = some b → us[j]? = some x → w.cell? (b.add j) = some x) ∧ (∀ x ∈ us, x.oneCell' = true) ∧
          RVs P w (okW X M w) cs noρ us ∧ cs.length = m * sz ∧ (A = none → m = 0) := by
      intro ob cs0 hn ho hle he
      cases he
      obtain ⟨g', us, f0, f1, f2, f3, f4⟩ := h.rdc hn ho hle
      rw [hg] at f0; cases f0
      refine ⟨_, cap, us, rfl, f1, fun j x b hb hx => ?_, f3, f4, by simp; omega, by simp⟩
      cases hb
      have hc : 0 < cap := by
        rcases Nat.eq_zero_or_pos cap with hz | hz
        · have : m = 0 := by omega
          subst this
          simp at f1; subst f1; simp at hx
        · exact hz
      rw [h4 hc]; exact f2 j x hx
    split at hs
    · rename_i t cs0 hn
      split at hs
      · rename_i hle; exact key _ cs0 hn rfl hle hs
      · cases hs
    · rename_i t cs0 hn
      split at hs
      · rename_i hle; exact key _ cs0 hn rfl hle hs
      · cases hs
    · cases hs
  · cases hs

def noTreeB : List V → Bool
  | [] => true
  | .tree _ _ _ :: _ => false
  | _ :: vs => noTreeB vs

theorem noTree_view {l : List V} (h : noTreeB l = true) : l.map V.view = l := by
  induction l with
  | nil => rfl
  | cons v vs ih => cases v <;> simp only [noTreeB] at h <;> first | (simp at h; done) | simp [V.view, ih h]

/-- What is appended, where it may hold names. -/
def srcN (sz : Nat) (v : V) (σ : List Ob) : Option (List V × Nat) :=
  match v with
  | .sl _ n off len => (match σ[n]? with
    | some (.own _ cs) | some (.var _ cs) => if off + len * sz ≤ cs.length ∧ noTreeB ((cs.drop off).take (len * sz)) = true then some ((cs.drop off).take (len * sz), len) else none
    | _ => none)
  | _ => none

theorem srcN_run (h : Sat P X M σ w) {v : V} {u : Value} (hv : RV P w (okW X M w) v M.ρ u) {sz m : Nat} {cs : List V} (hs : srcN sz v σ = some (cs, m)) :
    ∃ A c us, u = .slice A m c ∧ us.length = m * sz ∧ (∀ (j : Nat) x b, A = some b → us[j]? = some x → w.cell? (b.add j) = some x) ∧ (∀ x ∈ us, x.oneCell' = true) ∧
      RVs P w (okW X M w) cs M.ρ us ∧ cs.length = m * sz ∧ (A = none → m = 0) := by
  unfold srcN at hs
  split at hs
  · rename_i ow n off len
    simp only [RV] at hv
    obtain ⟨g, o, cap, hg, rfl, h2, h3, h4, h5⟩ := hv
    have key : ∀ (ob : Ob) (cs0 cs1 : List V), σ[n]? = some ob → ob.rd = some cs1 → cs1.length = cs0.length → (cs1.drop off).take (len * sz) = (cs0.drop off).take (len * sz) → off + len * sz ≤ cs0.length → some ((cs0.drop off).take (len * sz), len) = some (cs, m) →
        ∃ A c us, Value.slice (some ⟨g, o, none⟩) len cap = .slice A m c ∧ us.length = m * sz ∧ (∀ (j : Nat) x b, A = some b → us[j]? = some x → w.cell? (b.add j) = some x) ∧ (∀ x ∈ us, x.oneCell' = true) ∧
          RVs P w (okW X M w) cs M.ρ us ∧ cs.length = m * sz ∧ (A = none → m = 0) := by
      intro ob cs0 cs1 hn ho hlen heq hle he
      cases he
      obtain ⟨g', us, f0, f1, f2, f3, f4⟩ := h.rd hn ho (off := off) (k := m * sz) (by omega)
      rw [hg] at f0; cases f0
      rw [heq] at f4
      refine ⟨_, cap, us, rfl, f1, fun j x b hb hx => ?_, f3, f4, by simp; omega, by simp⟩
      cases hb
      have hc : 0 < cap := by
        rcases Nat.eq_zero_or_pos cap with hz | hz
        · have : m = 0 := by omega
          subst this
          simp at f1; subst f1; simp at hx
        · exact hz
      rw [h4 hc]; exact f2 j x hx
    split at hs
    · rename_i t cs0 hn
      split at hs
      · rename_i hle
        exact key _ cs0 (cs0.map V.view) hn rfl (by simp) (by rw [← List.map_drop, ← List.map_take, noTree_view hle.2]) hle.1 hs
      · cases hs
    · rename_i t cs0 hn
      split at hs
      · rename_i hle; exact key _ cs0 cs0 hn rfl rfl rfl hle.1 hs
      · cases hs
    · cases hs
  · cases hs

/-! ### append -/
def appendVC (P : Program) (t t2 : TypeId) (x y : V) (st : St) (k : V → St → Prop) : Prop :=
  match P.underlying t, P.underlying t2 with
  | some (.slice e), some (.slice _) => has P e ∧ ((zeroL P e).map List.length = some (P.cellsOf e)) ∧
    (match srcCells (P.cellsOf e) y st.σ with
    | some (news, m) => (match x with
      | .nils => (m = 0 → k .nils st) ∧ (0 < m → m ≤ maxLen ∧ m * P.bytesOf e ≤ 140737488355328 ∧ k (.sl true st.σ.length 0 m) { st with σ := st.σ ++ [.arr e news] })
      | .esl => (m = 0 → k .esl st) ∧ (0 < m → m ≤ maxLen ∧ m * P.bytesOf e ≤ 140737488355328 ∧ k (.sl true st.σ.length 0 m) { st with σ := st.σ ++ [.arr e news] })
      | .sl true n 0 len => (match st.σ[n]? with
        | some (.arr t0 cs) => t0 = e ∧ len * P.cellsOf e ≤ cs.length ∧ len + m ≤ maxLen ∧ (len + m) * P.bytesOf e ≤ 140737488355328 ∧
            k (.sl true st.σ.length 0 (len + m)) ⟨st.slots.map (V.ren (killπ n)), (st.σ.map (Ob.ren (killπ n))).set n .gone ++ [.arr e (cs.take (len * P.cellsOf e) ++ news)]⟩
        | some (.own t0 cs) => t0 = e ∧ cs.length = len * P.cellsOf e ∧ len + m ≤ maxLen ∧ (len + m) * P.bytesOf e ≤ 140737488355328 ∧
            k (.sl true st.σ.length 0 (len + m)) ⟨st.slots.map (V.ren (killπ n)), (st.σ.map (Ob.ren (killπ n))).set n .gone ++ [.own e (V.rens (killπ n) (cs ++ news))]⟩
        | _ => False)
      | _ => False)
    | none => (match srcN (P.cellsOf e) y st.σ with
      | some (news, m) => (match x with
        | .nils => 0 < m ∧ m ≤ maxLen ∧ m * P.bytesOf e ≤ 140737488355328 ∧ k (.sl true st.σ.length 0 m) { st with σ := st.σ ++ [.own e news] }
        | .esl => 0 < m ∧ m ≤ maxLen ∧ m * P.bytesOf e ≤ 140737488355328 ∧ k (.sl true st.σ.length 0 m) { st with σ := st.σ ++ [.own e news] }
        | .sl true n 0 len => (match st.σ[n]? with
          | some (.own t0 cs) => t0 = e ∧ cs.length = len * P.cellsOf e ∧ len + m ≤ maxLen ∧ (len + m) * P.bytesOf e ≤ 140737488355328 ∧
              k (.sl true st.σ.length 0 (len + m)) ⟨st.slots.map (V.ren (killπ n)), (st.σ.map (Ob.ren (killπ n))).set n .gone ++ [.own e (V.rens (killπ n) (cs ++ news))]⟩
          | _ => False)
        | _ => False)
      | none => False))
  | _, _ => False

theorem zeroL_info {t : TypeId} {cs : List V} (h : zeroL P t = some cs) : ∃ i z, P.info? t = some i ∧ i.zero = some z ∧ z.cells.size = cs.length := by
  unfold zeroL at h
  split at h
  · rename_i z hz
    split at h
    · cases h
      cases hi : P.info? t with
      | none => simp [hi] at hz
      | some i => simp [hi] at hz; exact ⟨i, z, rfl, hz, by simp⟩
    · cases h
  · cases h

/-- A row that must grow: whatever it was over. -/
theorem run_grow {t t2 ty e e2 : TypeId} (ht : P.underlying t = some (.slice e)) (ht2 : P.underlying t2 = some (.slice e2)) {i : TypeInfo} {z : Value} (hi : P.info? e = some i) (hz : i.zero = some z) (hzs : z.cells.size = i.size)
    {B : Option Addr} {len cap m c : Nat} {A : Addr} {olds news : List Value} (hlo : olds.length = len * i.size) (holds : ∀ (j : Nat) x b, B = some b → olds[j]? = some x → w.cell? (b.add j) = some x) (hB : B = none → len = 0)
    (hln : news.length = m * i.size) (hnews : ∀ (j : Nat) x, news[j]? = some x → w.cell? (A.add j) = some x) (hg : cap < len + m) (hml : len + m ≤ maxLen) (hb : (len + m) * i.bytes ≤ 140737488355328) :
    ∃ nc cur, (Builtin.append_ #[t, t2] ty #[.slice B len cap, .slice (some A) m c]).run P w = .ok (.slice (some ⟨w.heap.size, 0, none⟩) (len + m) nc) (w.drew.alloc (.cells cur e)) ∧
      len + m ≤ nc ∧ nc ≤ maxLen ∧ cur.size = nc * i.size ∧ ∀ (j : Nat) x, (olds ++ news)[j]? = some x → cur[j]? = some x := by
  have hge := grownCap_ge w (len + m) cap e
  have hcm := grownCap_le_maxLen w (len + m) cap e hml
  have hn : ¬ (len + m ≤ cap) := by omega
  have h63' : ¬ (9223372036854775807 < ((len : Int) + (m : Int))) := by simp only [maxLen] at hml; omega
  have hfit := growslice_fits (bytes := i.bytes) hg hb
  have h48' : ¬ (281474976710656 < Builtin.nextslicecap (len + m) cap * i.bytes) := by omega
  have hf := run_firstCells_some (P := P) w.drew i.size m A m c news hln (by simpa using hnews)
  have hfo : (Builtin.firstCells i.size len (.slice B len cap)).run P w.drew = .ok olds.toArray w.drew := by
    cases B with
    | none =>
      have := hB rfl
      subst this
      have : olds = [] := List.eq_nil_of_length_eq_zero (by simpa using hlo)
      subst this
      simp [Builtin.firstCells]
    | some b => exact run_firstCells_some (P := P) w.drew i.size len b len cap olds hlo (fun j v hj => by simpa using holds j v b rfl hj)
  refine ⟨grownCap w (len + m) cap e, olds.toArray ++ news.toArray ++ Builtin.zeroCells z.cells (grownCap w (len + m) cap e - (len + m)), ?_, hge, hcm, ?_, ?_⟩
  · simp [Builtin.append_, run_underlying ht, run_underlying ht2, sizeOf, typeInfo, zeroValue, hi, hz, Builtin.lenOf, hn, h63', h48', Question.forced, hf, hfo, newRow, grownCap]
    congr 2
    apply Array.ext'
    simp [List.append_assoc]
  · simp only [Array.size_append, List.size_toArray, hlo, hln, size_zeroCells, hzs, ← Nat.add_mul]
    congr 1
    omega
  · intro j x hj
    have hlt := (List.getElem?_eq_some_iff.1 hj).1
    rw [Array.getElem?_append_left (by simpa using hlt)]
    simpa using hj

theorem bytesOf_info {t : TypeId} {i : TypeInfo} (h : P.info? t = some i) : P.bytesOf t = i.bytes ∧ P.cellsOf t = i.size := by simp [Program.bytesOf, Program.cellsOf, h]

theorem append_new (h : Rel P E M st a w) {t t2 ty e e2 : TypeId} (ht : P.underlying t = some (.slice e)) (ht2 : P.underlying t2 = some (.slice e2)) {z0 : List V} (hz : zeroL P e = some z0) (hzl : z0.length = P.cellsOf e)
    {B : Option Addr} {y : V} {u : Value} (hy : RV P w (okW E.X M w) y M.ρ u) {news : List V} {m : Nat} (hs : srcCells (P.cellsOf e) y st.σ = some (news, m)) (hm : 0 < m) (hml : m ≤ maxLen) (hb : m * P.bytesOf e ≤ 140737488355328) :
    ∃ u' w' M', (Builtin.append_ #[t, t2] ty #[.slice B 0 0, u]).run P w = .ok u' w' ∧ Rel P E M' { st with σ := st.σ ++ [.arr e news] } a w' ∧ RV P w' (okW E.X M' w') (.sl true st.σ.length 0 m) M'.ρ u' := by
  obtain ⟨i, z, hi, hiz, hzs⟩ := zeroL_info hz
  obtain ⟨b1, b2⟩ := bytesOf_info hi
  obtain ⟨A, c, us, rfl, f1, f2, f3, f4, f5, f6⟩ := src_run h.sat hy hs
  cases A with
  | none => have := f6 rfl; omega
  | some A =>
    obtain ⟨nc, cur, r1, r2, r3, r4, r5⟩ := run_grow (w := w) (ty := ty) ht ht2 hi hiz (by omega) (B := B) (len := 0) (cap := 0) (m := m) (c := c) (A := A) (olds := []) (news := us) (by simp) (by simp) (fun _ => rfl)
      (by rw [f1, b2]) (fun j x hj => f2 j x A rfl hj) (by omega) (by omega) (by rw [← b1]; simpa using hb)
    have hc : CellsOk P w (okW E.X M w) noρ news cur := by
      intro j v hv
      obtain ⟨x, e1, e2⟩ := f4.get hv
      exact ⟨x, r5 j x (by simpa using e1), f3 x (List.mem_of_getElem? e1), e2⟩
    obtain ⟨q1, q2⟩ := h.newRow (w1 := w.drew) (Turn.drew _ w) (t := e) hc (len := m) (cap := nc) (by omega) r3 (by rw [r4, b2]; exact Nat.le_refl _)
    exact ⟨_, _, _, by simpa using r1, q1, by simpa using q2⟩

/-- A row that may own rows is appended to. -/
theorem append_own (h : Rel P E M st a w) {t t2 ty e e2 : TypeId} (ht : P.underlying t = some (.slice e)) (ht2 : P.underlying t2 = some (.slice e2)) {z0 : List V} (hz : zeroL P e = some z0) (hzl : z0.length = P.cellsOf e)
    {d : TypeDesc} (hd2 : P.underlying e = some d) {n len : Nat} {cs : List V} {u : Value} (hx : RV P w (okW E.X M w) (.sl true n 0 len) M.ρ u) (hn : st.σ[n]? = some (.own e cs)) (hl : cs.length = len * P.cellsOf e)
    {A : Option Addr} {m c : Nat} {us : List Value} {news : List V} (f1 : us.length = m * P.cellsOf e) (f2 : ∀ (j : Nat) x b, A = some b → us[j]? = some x → w.cell? (b.add j) = some x) (f3 : ∀ x ∈ us, x.oneCell' = true)
    (f4 : RVs P w (okW E.X M w) news M.ρ us) (f6 : A = none → m = 0) (hml : len + m ≤ maxLen) (hb : (len + m) * P.bytesOf e ≤ 140737488355328) :
    ∃ u' w' M', (Builtin.append_ #[t, t2] ty #[u, .slice A m c]).run P w = .ok u' w' ∧
      Rel P E M' ⟨st.slots.map (V.ren (killπ n)), (st.σ.map (Ob.ren (killπ n))).set n .gone ++ [.own e (V.rens (killπ n) (cs ++ news))]⟩ a w' ∧ RV P w' (okW E.X M' w') (.sl true st.σ.length 0 (len + m)) M'.ρ u' := by
  obtain ⟨i, z, hi, hiz, hzs⟩ := zeroL_info hz
  obtain ⟨b1, b2⟩ := bytesOf_info hi
  simp only [RV] at hx
  obtain ⟨g, o, cap, hg, rfl, h2, h3, h4, h5⟩ := hx
  obtain ⟨g', cur, fr, kid, k1, k3, k4, k2, k5, k6, k7⟩ := h.sat.ob n _ hn
  rw [hg] at k1; cases k1
  have hnl := (List.getElem?_eq_some_iff.1 hn).1
  have hfpg : M.fp n g := k2 g (.inl rfl)
  have hnewl : news.length = m * P.cellsOf e := by rw [← f4.len]; exact f1
  have hcz : cs.length ≤ cur.size := by
    rcases Nat.eq_zero_or_pos cs.length with hz | hz
    · omega
    · have := k7 (cs.length - 1)
      rw [List.getElem?_eq_getElem (by omega)] at this
      obtain ⟨u, e1, _⟩ := this
      have := (Array.getElem?_eq_some_iff.1 e1).1
      omega
  have hkid : ∀ j, cs.length ≤ j → kid j = none := fun j hj => by
    have := k7 j
    rw [List.getElem?_eq_none hj] at this; exact this
  have hρ : ∀ (g2 : Nat) (F : Nat → Prop), ∀ x y b, killπ n x = some y → M.ρ x = some b → (M.swap n st.σ.length g2 F).ρ y = some b := fun g2 F x y b hx hy => by
    simp only [killπ] at hx
    split at hx
    · cases hx
    · cases hx
      simp only [Env.swap]
      split
      · rename_i e'; rw [e', h.sat.dom _ (Nat.le_refl _)] at hy; cases hy
      · exact hy
  have hownF : ∀ (g2 : Nat) (F : Nat → Prop), (∀ b, F b → M.fp n b ∨ w.heap.size ≤ b) → ∀ m' b, (M.swap n st.σ.length g2 F).fp m' b → (∃ m, M.fp m b) ∨ w.heap.size ≤ b := fun g2 F hF m' b hm' => by
    simp only [Env.swap] at hm'
    split at hm'
    · exact hm'.elim
    · split at hm'
      · exact (hF b hm').imp (fun h => ⟨n, h⟩) id
      · exact .inl ⟨m', hm'⟩
  have hcell : ∀ (w' : World) (g2 : Nat) (F : Nat → Prop) (cur' : Array Value), Later w w' (okW E.X M w) (okW E.X (M.swap n st.σ.length g2 F) w') → (∀ b j, kid j = some b → w'.heap[b]? = w.heap[b]?) →
      (∀ j, j < cs.length → cur'[j]? = cur[j]?) → (∀ j x, us[j]? = some x → cur'[cs.length + j]? = some x) →
      ∀ j : Nat, (match (V.rens (killπ n) (cs ++ news))[j]? with | some v => ∃ u, cur'[j]? = some u ∧ u.oneCell' = true ∧ OwnCell P w' (okW E.X (M.swap n st.σ.length g2 F) w') (M.swap n st.σ.length g2 F).ρ (kid j) v u | none => kid j = none) := by
    intro w' g2 F cur' hl' hk hold hnew j
    rw [V.rens_eq, List.getElem?_map]
    by_cases hj : j < cs.length
    · rw [List.getElem?_append_left hj]
      have h8 := k7 j
      rw [List.getElem?_eq_getElem hj] at h8 ⊢
      obtain ⟨x, x1, x2, x3⟩ := h8
      exact ⟨x, by rw [hold j hj]; exact x1, x2, x3.keep hl' (fun b hb => hk b j hb) (hρ g2 F)⟩
    · rw [List.getElem?_append_right (by omega)]
      cases hv : news[j - cs.length]? with
      | none => exact hkid j (by omega)
      | some v =>
        obtain ⟨x, x1, x2⟩ := f4.get hv
        refine ⟨x, by have := hnew (j - cs.length) x x1; rwa [show cs.length + (j - cs.length) = j by omega] at this, f3 x (List.mem_of_getElem? x1), ?_⟩
        rw [hkid j (by omega)]
        exact OwnCell.ofRV (RV.ren_ hl' (hρ g2 F) _ _ x2)
  by_cases hfit : len + m ≤ cap
  · have hroom : cap = 0 ∨ (o = 0 ∧ cap * P.cellsOf e ≤ cur.size) := by
      rcases Nat.eq_zero_or_pos cap with hz | hz
      · exact .inl hz
      · obtain ⟨t1, kk, s1, s2⟩ := h5 trivial hz
        rw [shape_cells k3] at s1; cases s1
        exact .inr ⟨h4 hz, by omega⟩
    have hstore : ∃ w' cur', (storeCells ((⟨g, o, none⟩ : Addr).add (len * P.cellsOf e)) us).run P w = .ok () w' ∧ Turn (· = g) w w' ∧ w'.heap[g]? = some (.cells cur' e fr) ∧ cur'.size = cur.size ∧
        ∀ j, cur'[j]? = if len * P.cellsOf e ≤ j ∧ j < len * P.cellsOf e + us.length then us[j - len * P.cellsOf e]? else cur[j]? := by
      rcases hroom with hz | ⟨rfl, hz⟩
      · have hl0 : len = 0 := by omega
        have hm0 : m = 0 := by omega
        subst hl0 hm0
        have hus : us = [] := List.eq_nil_of_length_eq_zero (by simpa using f1)
        subst hus
        exact ⟨w, cur, by simp [storeCells], Turn.refl _ _, k3, rfl, fun j => by rw [if_neg (by simp)]⟩
      · rw [add_plain]
        have hle : (len + m) * P.cellsOf e ≤ cap * P.cellsOf e := Nat.mul_le_mul_right _ hfit
        rw [Nat.add_mul] at hle
        obtain ⟨w', cur', e1, e2, e3, e4, e5⟩ := run_storeCells_turn (P := P) (g := g) (o := 0 + len * P.cellsOf e) us 0 cur w k3 k4 (by omega) f3
        exact ⟨w', cur', e1, e2, e3, e4, fun j => by simpa using e5 j⟩
    obtain ⟨w', cur', e1, e2, e3, e4, e5⟩ := hstore
    have hf : (Builtin.firstCells (P.cellsOf e) m (.slice A m c)).run P w = .ok us.toArray w := by
      cases A with
      | none =>
        have := f6 rfl
        subst this
        have hus : us = [] := List.eq_nil_of_length_eq_zero (by simpa using f1)
        subst hus
        simp [Builtin.firstCells]
      | some b => exact run_firstCells_some w _ m b m c us f1 (fun j x hj => f2 j x b rfl hj)
    have hturn : Turn (M.fp n) w w' := e2.mono fun b hb => by have hbg : b = g := hb; rw [hbg]; exact hfpg
    have hl' := later_step (X := E.X) (hturn.mono fun b hb => ⟨n, hb⟩) (hownF g (M.fp n) fun b hb => .inl hb)
    obtain ⟨s1, s2, s3⟩ := h.sat.swap (w' := w') (g := g) (F := M.fp n) hnl (fun b hb => .inl hb) hturn (.own e (V.rens (killπ n) (cs ++ news)))
      ⟨g, cur', fr, kid, by simp [Env.swap], e3, by rw [e4]; exact k4, fun b hb => by simp only [Env.swap]; rw [if_neg (by omega)]; simp only [if_true]; exact k2 b hb, k5, k6,
        hcell w' g (M.fp n) cur' hl' (fun b j hb => e2.blk b (h.sat.lt n b (k2 b (.inr ⟨j, hb⟩))) fun e' => k5 j (e' ▸ hb)) (fun j hj => by rw [e5 j, if_neg (by omega)]) (fun j x hj => by
          have hlt := (List.getElem?_eq_some_iff.1 hj).1
          rw [e5, if_pos (by omega), show cs.length + j - len * P.cellsOf e = j by omega]; exact hj)⟩
    refine ⟨.slice (some ⟨g, o, none⟩) (len + m) cap, w', _, ?_, h.step s1 (hturn.mono fun b hb => ⟨n, hb⟩) (hρ g (M.fp n)) s3 (fun i hi => ?_) (by have := h.len; simp; omega), ?_⟩
    · simp [Builtin.append_, run_underlying ht, run_underlying ht2, run_sizeOf_u hd2, Builtin.lenOf, hfit, hf, e1]
    · simp only [Env.swap]; rw [if_neg (by have := h.len; omega)]
    · simp only [RV]
      refine ⟨g, o, cap, by simp [Env.swap], rfl, hfit, h3, h4, fun _ hc => ?_⟩
      obtain ⟨t1, kk, q1, q2⟩ := h5 trivial hc
      exact ⟨t1, kk, hturn.shape _ _ q1, q2⟩
  · cases A with
    | none => have := f6 rfl; omega
    | some A =>
      have hol : (cur.toList.take (len * P.cellsOf e)).length = len * P.cellsOf e := by rw [List.length_take, Array.length_toList]; omega
      obtain ⟨nc, cur2, r1, r2, r3, r4, r5⟩ := run_grow (w := w) (ty := ty) ht ht2 hi hiz (by omega) (B := some ⟨g, o, none⟩) (len := len) (cap := cap) (m := m) (c := c) (A := A) (olds := cur.toList.take (len * P.cellsOf e)) (news := us)
        (by rw [hol, b2]) (fun j x b hb hj => by
          cases hb
          have hc : 0 < cap := by
            rcases Nat.eq_zero_or_pos cap with hz | hz
            · have : len = 0 := by omega
              subst this
              simp at hj
            · exact hz
          rw [h4 hc, add_plain, cell_of_heap k3]
          rw [List.getElem?_take] at hj
          split at hj
          · rw [Nat.zero_add, ← Array.getElem?_toList]; exact hj
          · cases hj) (by simp)
        (by rw [f1, b2]) (fun j x hj => f2 j x A rfl hj) (by omega) hml (by rw [← b1]; exact hb)
      have hturn : Turn (M.fp n) w (w.drew.alloc (.cells cur2 e)) := (Turn.drew _ w).trans (Turn.alloc _ w.drew _)
      let F : Nat → Prop := fun b => b = w.heap.size ∨ ∃ j, kid j = some b
      have hFn : ∀ b, F b → M.fp n b ∨ (w.heap.size ≤ b ∧ b < (w.drew.alloc (.cells cur2 e)).heap.size) := fun b hb => by
        rcases hb with hb | hb
        · exact .inr (by rw [hb]; simp)
        · exact .inl (k2 b (.inr hb))
      have hl' := later_step (X := E.X) (hturn.mono fun b hb => ⟨n, hb⟩) (hownF w.heap.size F fun b hb => (hFn b hb).imp id (·.1))
      obtain ⟨s1, s2, s3⟩ := h.sat.swap (w' := w.drew.alloc (.cells cur2 e)) (g := w.heap.size) (F := F) hnl hFn hturn (.own e (V.rens (killπ n) (cs ++ news)))
        ⟨w.heap.size, cur2, (0, 0), kid, by simp [Env.swap], heap_alloc_new w.drew _, .inl (Nat.le_refl _), fun b hb => by simp only [Env.swap]; rw [if_neg (by omega)]; simp only [if_true]; exact hb,
          fun j hj => by have := h.sat.lt n _ (k2 _ (.inr ⟨j, hj⟩)); omega, k6,
          hcell _ _ _ cur2 hl' (fun b j hb => Below.heap_alloc w.drew _ b (h.sat.lt n b (k2 b (.inr ⟨j, hb⟩)))) (fun j hj => by
            have hc : cur.toList[j]? = some cur[j] := by rw [Array.getElem?_toList]; exact Array.getElem?_eq_getElem (by omega)
            rw [r5 j cur[j] (by rw [List.getElem?_append_left (by omega), List.getElem?_take, if_pos (by omega)]; exact hc), ← Array.getElem?_toList]; exact hc.symm) (fun j x hj => by
            have hlt := (List.getElem?_eq_some_iff.1 hj).1
            exact r5 _ x (by rw [List.getElem?_append_right (by omega), hol, show cs.length + j - len * P.cellsOf e = j by omega]; exact hj))⟩
      refine ⟨_, _, _, r1, h.step s1 (hturn.mono fun b hb => ⟨n, hb⟩) (hρ w.heap.size F) s3 (fun i hi => ?_) (by have := h.len; simp; omega), ?_⟩
      · simp only [Env.swap]; rw [if_neg (by have := h.len; omega)]
      · simp only [RV]
        exact ⟨w.heap.size, 0, nc, by simp [Env.swap], rfl, r2, r3, fun _ => rfl, fun _ _ => ⟨e, cur2.size, shape_cells (heap_alloc_new w.drew _), by rw [r4, b2]; omega⟩⟩

theorem append_newOwn (h : Rel P E M st a w) {t t2 ty e e2 : TypeId} (ht : P.underlying t = some (.slice e)) (ht2 : P.underlying t2 = some (.slice e2)) {z0 : List V} (hz : zeroL P e = some z0) (hzl : z0.length = P.cellsOf e)
    {B : Option Addr} {A : Option Addr} {m c : Nat} {us : List Value} {news : List V} (f1 : us.length = m * P.cellsOf e) (f2 : ∀ (j : Nat) x b, A = some b → us[j]? = some x → w.cell? (b.add j) = some x) (f3 : ∀ x ∈ us, x.oneCell' = true)
    (f4 : RVs P w (okW E.X M w) news M.ρ us) (f6 : A = none → m = 0) (hm : 0 < m) (hml : m ≤ maxLen) (hb : m * P.bytesOf e ≤ 140737488355328) :
    ∃ u' w' M', (Builtin.append_ #[t, t2] ty #[.slice B 0 0, .slice A m c]).run P w = .ok u' w' ∧ Rel P E M' { st with σ := st.σ ++ [.own e news] } a w' ∧ RV P w' (okW E.X M' w') (.sl true st.σ.length 0 m) M'.ρ u' := by
  obtain ⟨i, z, hi, hiz, hzs⟩ := zeroL_info hz
  obtain ⟨b1, b2⟩ := bytesOf_info hi
  cases A with
  | none => have := f6 rfl; omega
  | some A =>
    obtain ⟨nc, cur, r1, r2, r3, r4, r5⟩ := run_grow (w := w) (ty := ty) ht ht2 hi hiz (by omega) (B := B) (len := 0) (cap := 0) (m := m) (c := c) (A := A) (olds := []) (news := us) (by simp) (by simp) (fun _ => rfl)
      (by rw [f1, b2]) (fun j x hj => f2 j x A rfl hj) (by omega) (by omega) (by rw [← b1]; simpa using hb)
    have hc : CellsOk P w (okW E.X M w) M.ρ news cur := by
      intro j v hv
      obtain ⟨x, e1, e2⟩ := f4.get hv
      exact ⟨x, r5 j x (by simpa using e1), f3 x (List.mem_of_getElem? e1), e2⟩
    obtain ⟨q1, q2⟩ := h.newOwn (w1 := w.drew) (Turn.drew _ w) (t := e) hc (len := m) (cap := nc) (by omega) r3 (by rw [r4, b2]; exact Nat.le_refl _)
    exact ⟨_, _, _, by simpa using r1, q1, by simpa using q2⟩

theorem append_ok (h : Rel P E M st a w) {t t2 : TypeId} {x y : Operand} (hk : appendVC P t t2 (st.ev x) (st.ev y) st k) {dst ty pos af gd} :
    Does P E a ((execOp a.eval ⟨dst, .call { callee := .builtin .append, args := #[x, y], argTypes := #[t, t2] }, ty, pos, af, gd⟩).run P w) k kp := by
  have hx := h.ev x
  have hy := h.ev y
  have hrun : (execOp a.eval ⟨dst, .call { callee := .builtin .append, args := #[x, y], argTypes := #[t, t2] }, ty, pos, af, gd⟩).run P w =
      ((Builtin.append_ #[t, t2] ty #[a.eval x, a.eval y]).run P w).andThen fun v w' => .ok (.value v) w' := by
    simp [execOp, resolve, invoke, builtin]
  rw [hrun]
  unfold appendVC at hk
  split at hk
  · rename_i e e2 ht ht2
    obtain ⟨⟨d, hd2⟩, hzz, hk⟩ := hk
    cases hz : zeroL P e with
    | none => simp [hz] at hzz
    | some z0 =>
      simp [hz] at hzz
      obtain ⟨i, z, hi, hiz, hzs⟩ := zeroL_info hz
      obtain ⟨b1, b2⟩ := bytesOf_info hi
      split at hk
      · rename_i news m hs
        obtain ⟨A, c, us, hu, f1, f2, f3, f4, f5, f6⟩ := src_run h.sat hy hs
        split at hk
        · rename_i hv
          rw [hv] at hx; simp only [RV] at hx
          rcases Nat.eq_zero_or_pos m with hm | hm
          · subst hm
            refine .val (u := .slice none 0 0) (w' := w) ?_ (hk.1 rfl) h rfl
            rw [hx, hu]
            have hus : us = [] := List.eq_nil_of_length_eq_zero (by simpa using f1)
            simp [Builtin.append_, run_underlying ht, run_underlying ht2, run_sizeOf_u hd2, Builtin.lenOf]
            cases A with
            | none => simp [Builtin.firstCells]
            | some b => simp [Builtin.firstCells, loadCells, loadCellsFrom]
          · obtain ⟨g1, g2, g3⟩ := hk.2 hm
            obtain ⟨u', w', M', q1, q2, q3⟩ := append_new (ty := ty) (B := none) h ht ht2 hz hzz hy hs hm g1 g2
            exact .val (by rw [hx, q1]; rfl) g3 q2 q3
        · rename_i hv
          rw [hv] at hx; simp only [RV] at hx
          obtain ⟨B, hx⟩ := hx
          rcases Nat.eq_zero_or_pos m with hm | hm
          · subst hm
            refine .val (u := .slice B 0 0) (w' := w) ?_ (hk.1 rfl) h ⟨B, rfl⟩
            rw [hx, hu]
            simp [Builtin.append_, run_underlying ht, run_underlying ht2, run_sizeOf_u hd2, Builtin.lenOf]
            have hf : (Builtin.firstCells (P.cellsOf e) 0 (.slice A 0 c)).run P w = .ok #[] w := by
              cases A <;> simp [Builtin.firstCells, loadCells, loadCellsFrom]
            rw [hf]
            cases B <;> simp [storeCells]
          · obtain ⟨g1, g2, g3⟩ := hk.2 hm
            obtain ⟨u', w', M', q1, q2, q3⟩ := append_new (ty := ty) (B := B) h ht ht2 hz hzz hy hs hm g1 g2
            exact .val (by rw [hx, q1]; rfl) g3 q2 q3
        · rename_i n len hv
          split at hk
          · rename_i t0 cs hn
            obtain ⟨rfl, g1, g2, g3, hk⟩ := hk
            rw [hv] at hx; simp only [RV] at hx
            obtain ⟨g, o, cap, hg, hux, h2, h3, h4, h5⟩ := hx
            obtain ⟨g', cur, fr, k1, k2, k3, k4, k5⟩ := h.sat.ob n _ hn
            rw [hg] at k1; cases k1
            have hnl := (List.getElem?_eq_some_iff.1 hn).1
            obtain ⟨g'', olds, o0, o1, o2, o3, o4⟩ := h.sat.rdc hn rfl (off := 0) (k := len * P.cellsOf t0) (by omega)
            rw [hg] at o0; cases o0
            simp only [List.drop_zero] at o4
            have hfpg : M.fp n g := (k2 g).2 rfl
            by_cases hfit : len + m ≤ cap
            · -- within the capacity
              have hroom : cap = 0 ∨ (o = 0 ∧ cap * P.cellsOf t0 ≤ cur.size) := by
                rcases Nat.eq_zero_or_pos cap with hz | hz
                · exact .inl hz
                · obtain ⟨t1, kk, s1, s2⟩ := h5 trivial hz
                  rw [shape_cells k3] at s1; cases s1
                  exact .inr ⟨h4 hz, by omega⟩
              have hstore : ∃ w' cur', (storeCells ((⟨g, o, none⟩ : Addr).add (len * P.cellsOf t0)) us).run P w = .ok () w' ∧ Turn (· = g) w w' ∧ w'.heap[g]? = some (.cells cur' t0 fr) ∧ cur'.size = cur.size ∧
                  ∀ j, cur'[j]? = if len * P.cellsOf t0 ≤ j ∧ j < len * P.cellsOf t0 + us.length then us[j - len * P.cellsOf t0]? else cur[j]? := by
                rcases hroom with hz | ⟨rfl, hz⟩
                · have hl0 : len = 0 := by omega
                  have hm0 : m = 0 := by omega
                  subst hl0 hm0
                  have hus : us = [] := List.eq_nil_of_length_eq_zero (by simpa using f1)
                  subst hus
                  exact ⟨w, cur, by simp [storeCells], Turn.refl _ _, k3, rfl, fun j => by rw [if_neg (by simp)]⟩
                · rw [add_plain]
                  have hle : (len + m) * P.cellsOf t0 ≤ cap * P.cellsOf t0 := Nat.mul_le_mul_right _ hfit
                  rw [Nat.add_mul] at hle
                  obtain ⟨w', cur', e1, e2, e3, e4, e5⟩ := run_storeCells_turn (P := P) (g := g) (o := 0 + len * P.cellsOf t0) us 0 cur w k3 k4 (by omega) f3
                  exact ⟨w', cur', e1, e2, e3, e4, fun j => by simpa using e5 j⟩
              obtain ⟨w', cur', e1, e2, e3, e4, e5⟩ := hstore
              have hf : (Builtin.firstCells (P.cellsOf t0) m (.slice A m c)).run P w = .ok us.toArray w := by
                cases A with
                | none =>
                  have := f6 rfl
                  subst this
                  have hus : us = [] := List.eq_nil_of_length_eq_zero (by simpa using f1)
                  subst hus
                  simp [Builtin.firstCells]
                | some b => exact run_firstCells_some w _ m b m c us f1 (fun j x hj => f2 j x b rfl hj)
              have hturn : Turn (M.fp n) w w' := e2.mono fun b hb => (k2 b).2 hb
              have hcells : CellsOk P w (okW E.X M w) noρ (cs.take (len * P.cellsOf t0) ++ news) cur' := by
                intro j v hvj
                have hl1 : (cs.take (len * P.cellsOf t0)).length = len * P.cellsOf t0 := by rw [List.length_take]; omega
                by_cases hj : j < len * P.cellsOf t0
                · rw [List.getElem?_append_left (by omega), List.getElem?_take, if_pos hj] at hvj
                  obtain ⟨x, x1, x2, x3⟩ := k5 j v hvj
                  exact ⟨x, by rw [e5 j, if_neg (by omega)]; exact x1, x2, x3⟩
                · rw [List.getElem?_append_right (by omega), hl1] at hvj
                  obtain ⟨x, x1, x2⟩ := f4.get hvj
                  have hlt := (List.getElem?_eq_some_iff.1 x1).1
                  exact ⟨x, by rw [e5 j, if_pos (by omega)]; exact x1, f3 x (List.mem_of_getElem? x1), x2⟩
              have hown' : ∀ m' b, (M.swap n st.σ.length g (· = g)).fp m' b → (∃ m, M.fp m b) ∨ w.heap.size ≤ b := fun m' b hm' => by
                simp only [Env.swap] at hm'
                split at hm'
                · exact hm'.elim
                · split at hm'
                  · subst hm'; exact .inl ⟨n, hfpg⟩
                  · exact .inl ⟨m', hm'⟩
              have hl := later_step (X := E.X) (hturn.mono fun b hb => ⟨n, hb⟩) hown'
              obtain ⟨s1, s2, s3⟩ := h.sat.swap (w' := w') (g := g) (F := (· = g)) hnl (fun b hb => .inl (hb ▸ hfpg)) hturn (.arr t0 (cs.take (len * P.cellsOf t0) ++ news))
                ⟨g, cur', fr, by simp [Env.swap], fun b => by simp [Env.swap, show st.σ.length ≠ n by omega], e3, by rw [e4]; exact k4, hcells.later_no hl⟩
              refine .val (u := .slice (some ⟨g, o, none⟩) (len + m) cap) (w' := w') ?_ hk (h.step s1 (hturn.mono fun b hb => ⟨n, hb⟩) (fun x y b hx hy => ?_) s3 (fun i hi => ?_) (by have := h.len; simp; omega)) ?_
              · rw [hux, hu]
                simp [Builtin.append_, run_underlying ht, run_underlying ht2, run_sizeOf_u hd2, Builtin.lenOf, hfit, hf, e1]
              · simp only [killπ] at hx
                split at hx
                · cases hx
                · cases hx
                  simp only [Env.swap]
                  split
                  · rename_i e'; rw [e', h.sat.dom _ (Nat.le_refl _)] at hy; cases hy
                  · exact hy
              · simp only [Env.swap]; rw [if_neg (by have := h.len; omega)]
              · simp only [RV]
                refine ⟨g, o, cap, by simp [Env.swap], rfl, hfit, h3, h4, fun _ hc => ?_⟩
                obtain ⟨t1, kk, q1, q2⟩ := h5 trivial hc
                exact ⟨t1, kk, hturn.shape _ _ q1, q2⟩
            · -- it must grow
              cases A with
              | none => have := f6 rfl; omega
              | some A =>
                obtain ⟨nc, cur2, r1, r2, r3, r4, r5⟩ := run_grow (w := w) (ty := ty) ht ht2 hi hiz (by omega) (B := some ⟨g, o, none⟩) (len := len) (cap := cap) (m := m) (c := c) (A := A) (olds := olds) (news := us)
                  (by rw [o1, b2]) (fun j x b hb hj => by
                    cases hb
                    have hc : 0 < cap := by
                      rcases Nat.eq_zero_or_pos cap with hz | hz
                      · have : len = 0 := by omega
                        subst this
                        simp at o1; subst o1; simp at hj
                      · exact hz
                    rw [h4 hc]; exact o2 j x hj) (by simp)
                  (by rw [f1, b2]) (fun j x hj => f2 j x A rfl hj) (by omega) g2 (by rw [← b1]; exact g3)
                have hturn : Turn (M.fp n) w (w.drew.alloc (.cells cur2 t0)) := (Turn.drew _ w).trans (Turn.alloc _ w.drew _)
                have hcells : CellsOk P w (okW E.X M w) noρ (cs.take (len * P.cellsOf t0) ++ news) cur2 := by
                  intro j v hvj
                  obtain ⟨x, x1, x2⟩ := (o4.append f4).get hvj
                  refine ⟨x, r5 j x x1, ?_, x2⟩
                  rcases List.mem_append.1 (List.mem_of_getElem? x1) with hx | hx
                  · exact o3 x hx
                  · exact f3 x hx
                have hown' : ∀ m' b, (M.swap n st.σ.length w.heap.size (· = w.heap.size)).fp m' b → (∃ m, M.fp m b) ∨ w.heap.size ≤ b := fun m' b hm' => by
                  simp only [Env.swap] at hm'
                  split at hm'
                  · exact hm'.elim
                  · split at hm'
                    · subst hm'; exact .inr (Nat.le_refl _)
                    · exact .inl ⟨m', hm'⟩
                have hl := later_step (X := E.X) (hturn.mono fun b hb => ⟨n, hb⟩) hown'
                obtain ⟨s1, s2, s3⟩ := h.sat.swap (w' := w.drew.alloc (.cells cur2 t0)) (g := w.heap.size) (F := (· = w.heap.size)) hnl (fun b hb => .inr (by rw [hb]; simp)) hturn (.arr t0 (cs.take (len * P.cellsOf t0) ++ news))
                  ⟨w.heap.size, cur2, (0, 0), by simp [Env.swap], fun b => by simp [Env.swap, show st.σ.length ≠ n by omega], heap_alloc_new w.drew _, .inl (Nat.le_refl _), hcells.later_no hl⟩
                refine .val (u := .slice (some ⟨w.heap.size, 0, none⟩) (len + m) nc) ?_ hk (h.step s1 (hturn.mono fun b hb => ⟨n, hb⟩) (fun x y b hx hy => ?_) s3 (fun i hi => ?_) (by have := h.len; simp; omega)) ?_
                · rw [hux, hu, r1]; rfl
                · simp only [killπ] at hx
                  split at hx
                  · cases hx
                  · cases hx
                    simp only [Env.swap]
                    split
                    · rename_i e'; rw [e', h.sat.dom _ (Nat.le_refl _)] at hy; cases hy
                    · exact hy
                · simp only [Env.swap]; rw [if_neg (by have := h.len; omega)]
                · simp only [RV]
                  exact ⟨w.heap.size, 0, nc, by simp [Env.swap], rfl, r2, r3, fun _ => rfl, fun _ _ => ⟨t0, cur2.size, shape_cells (heap_alloc_new w.drew _), by rw [r4, b2]; omega⟩⟩
          · rename_i t0 cs hn
            obtain ⟨rfl, g1, g2, g3, hk⟩ := hk
            rw [hv] at hx
            obtain ⟨u', w', M', q1, q2, q3⟩ := append_own (ty := ty) h ht ht2 hz hzz hd2 hx hn g1 f1 f2 f3 (RVs.of_no _ _ f4) f6 g2 g3
            exact .val (by rw [hu, q1]; rfl) hk q2 q3
          · exact hk.elim
        · exact hk.elim
      · split at hk
        · rename_i news m hs
          obtain ⟨A, c, us, hu, f1, f2, f3, f4, f5, f6⟩ := srcN_run h.sat hy hs
          split at hk
          · rename_i hv
            rw [hv] at hx; simp only [RV] at hx
            obtain ⟨g0, g1, g2, hk⟩ := hk
            obtain ⟨u', w', M', q1, q2, q3⟩ := append_newOwn (ty := ty) (B := none) h ht ht2 hz hzz f1 f2 f3 f4 f6 g0 g1 g2
            exact .val (by rw [hx, hu, q1]; rfl) hk q2 q3
          · rename_i hv
            rw [hv] at hx; simp only [RV] at hx
            obtain ⟨B, hx⟩ := hx
            obtain ⟨g0, g1, g2, hk⟩ := hk
            obtain ⟨u', w', M', q1, q2, q3⟩ := append_newOwn (ty := ty) (B := B) h ht ht2 hz hzz f1 f2 f3 f4 f6 g0 g1 g2
            exact .val (by rw [hx, hu, q1]; rfl) hk q2 q3
          · rename_i n len hv
            split at hk
            · rename_i t0 cs hn
              obtain ⟨rfl, g1, g2, g3, hk⟩ := hk
              rw [hv] at hx
              obtain ⟨u', w', M', q1, q2, q3⟩ := append_own (ty := ty) h ht ht2 hz hzz hd2 hx hn g1 f1 f2 f3 f4 f6 g2 g3
              exact .val (by rw [hu, q1]; rfl) hk q2 q3
            · exact hk.elim
          · exact hk.elim
        · exact hk.elim
  · exact hk.elim

end
end Go.Proofs.Ytncnnbjhginpfaa
