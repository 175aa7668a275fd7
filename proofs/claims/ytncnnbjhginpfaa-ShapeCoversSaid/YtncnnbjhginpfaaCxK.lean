/- The operations, one by one, part 7: maps. Conditions: none; plain definitions and lemmas. -/
import Derived.Test.YtncnnbjhginpfaaCxJ
namespace Go.Proofs.Ytncnnbjhginpfaa
set_option linter.unusedVariables false
set_option linter.unusedSimpArgs false
set_option linter.unnecessarySimpa false
open Go.RowKit

section
variable {P : Program} {E : En} {M M' : Env} {st : St} {a : Act} {w w' : World} {X : Nat → Prop} {σ σ' : List Ob} {π ρ : Nat → Option Nat} {ok : Nat → Prop} {k kp : V → St → Prop}

abbrev MapL := List (V × V × Nat)

def keq : V → V → Option Bool
  | .int i a, .int j b => if i = j then some (a == b) else none
  | .str s, .str r => some (s == r)
  | .bool p, .bool q => some (p == q)
  | _, _ => none
def mfind (key : V) : MapL → Nat → Option (Option (Nat × V))
  | [], _ => some none
  | e :: es, i => match keq key e.1 with
    | some true => some (some (i, e.2.1))
    | some false => mfind key es (i + 1)
    | none => none
def keyFits : TypeDesc → V → Bool
  | .int _, .int _ _ => true
  | .string, .str _ => true
  | .bool, .bool _ => true
  | _, _ => false
def plainD : TypeDesc → Bool | .int _ | .string | .bool => true | _ => false
/-- The key is of a plain kind, as the map's type has it. -/
def keyOk (P : Program) (kt : TypeId) (key : V) : Bool := match P.underlying kt with | some d => keyFits d key | none => false
def mset (es : MapL) (clock : Nat) (i : Option (Nat × V)) (key v : V) : MapL × Nat :=
  match i with
  | some (i, _) => (es.set i (key, v, ((es[i]?).map (·.2.2)).getD 0), clock)
  | none => (es ++ [(key, v, clock)], clock + 1)

def keyVal : V → Value | .int i a => .int i a | .str s => .string s | .bool b => .bool b | _ => undef

theorem keq_rv {key kv : V} {u : Value} {b : Bool} {d : TypeDesc} (hk : keq key kv = some b) (hu : RV P w ok kv ρ u) (hd : keyFits d key = true) :
    Instr.sameNow d (keyVal key) u = some b := by
  cases key <;> cases kv <;> first | (simp [keq] at hk; done) | skip
  · rename_i p q
    simp only [RV] at hu; subst hu
    cases d <;> simp [keyFits] at hd
    simpa [Instr.sameNow, keyVal, keq] using hk
  · rename_i i x j y
    simp only [RV] at hu; subst hu
    cases d <;> simp [keyFits] at hd
    simp only [keq] at hk
    simpa [Instr.sameNow, keyVal] using hk
  · rename_i s r
    simp only [RV] at hu; subst hu
    cases d <;> simp [keyFits] at hd
    simpa [Instr.sameNow, keyVal, keq] using hk

/-- What is found by names, and what the model finds, from place i on. -/
def FindRel (P : Program) (w : World) (ok : Nat → Prop) (d : TypeDesc) (key : V) (es' : List MapEntry) (i : Nat) (r : Option (Nat × V)) (r' : Option (Nat × Value)) : Prop :=
  (r = none ∧ r' = none) ∨ ∃ j v u e, r = some (j, v) ∧ r' = some (j, u) ∧ RV P w ok v noρ u ∧ i ≤ j ∧ es'[j - i]? = some e ∧ Instr.sameNow d (keyVal key) e.key = some true ∧ e.val = u

theorem mfind_run {key : V} {d : TypeDesc} (hd : keyFits d key = true) :
    ∀ (es : MapL) (es' : List MapEntry) (i : Nat) (r : Option (Nat × V)), mfind key es i = some r → es.length = es'.length →
      (∀ (j : Nat) e, es[j]? = some e → ∃ e', es'[j]? = some e' ∧ RV P w ok e.1 noρ e'.key ∧ RV P w ok e.2.1 noρ e'.val ∧ e'.born = e.2.2) →
      ∃ r', Instr.findNow d (keyVal key) es' i = some r' ∧ FindRel P w ok d key es' i r r'
  | [], [], i, r, h, _, _ => by simp only [mfind, Option.some.injEq] at h; subst h; exact ⟨none, by simp [Instr.findNow], .inl ⟨rfl, rfl⟩⟩
  | e :: es, e' :: es', i, r, h, hl, hp => by
    obtain ⟨e1, he1, h1, h2, h3⟩ := hp 0 e (by simp)
    simp at he1; subst he1
    simp only [mfind] at h
    split at h
    · rename_i hq
      cases h
      have hs := keq_rv (ρ := noρ) hq h1 hd
      exact ⟨some (i, e'.val), by simp [Instr.findNow, hs], .inr ⟨i, _, _, e', rfl, rfl, h2, Nat.le_refl _, by simp, hs, rfl⟩⟩
    · rename_i hq
      have hs := keq_rv (ρ := noρ) hq h1 hd
      obtain ⟨r', g1, g2⟩ := mfind_run hd es es' (i + 1) r h (by simpa using hl) (fun j e hj => hp (j + 1) e (by simpa using hj))
      refine ⟨r', by simp [Instr.findNow, hs, g1], ?_⟩
      rcases g2 with g2 | ⟨j, v, u, e0, q1, q2, q3, q4, q5, q6, q7⟩
      · exact .inl g2
      · exact .inr ⟨j, v, u, e0, q1, q2, q3, by omega, by rw [show j - i = (j - (i + 1)) + 1 from by omega]; simpa using q5, q6, q7⟩
    · cases h
  | [], _ :: _, _, _, _, hl, _ => by simp at hl
  | _ :: _, [], _, _, _, hl, _ => by simp at hl

theorem keyOk_spec {kt : TypeId} {key : V} (h : keyOk P kt key = true) : ∃ d, P.underlying kt = some d ∧ keyFits d key = true := by
  unfold keyOk at h
  split at h
  · rename_i d hd; exact ⟨d, hd, h⟩
  · cases h

theorem key_val {key : V} {u : Value} {kt : TypeId} (h : keyOk P kt key = true) (hu : RV P w ok key ρ u) : u = keyVal key := by
  obtain ⟨d, hd, hm⟩ := keyOk_spec h
  cases key <;> first | (cases d <;> simp [keyFits] at hm; done) | (simp only [RV] at hu; simp [keyVal]; exact hu)

theorem run_checkKey {kt : TypeId} {d : TypeDesc} (hd : P.underlying kt = some d) (hp : plainD d = true) (b : Bool) (n : Nat) (u : Value) (w : World) :
    (Instr.checkKey b (n + 1) kt u).run P w = .ok () w := by
  cases d <;> first | (simp [plainD] at hp; done) | simp [Instr.checkKey, run_underlying hd]

theorem key_plain {key : V} {d : TypeDesc} (hm : keyFits d key = true) : plainD d = true := by
  cases d <;> cases key <;> simp [keyFits] at hm <;> rfl

theorem findKey_run {kt : TypeId} {key : V} (hk : keyOk P kt key = true) {es : MapL} {es' : Array MapEntry} (hm : MapOk P w ok es es') {r : Option (Nat × V)} (hf : mfind key es 0 = some r) :
    (∀ b (w2 : World), (Instr.checkKey b 10000 kt (keyVal key)).run P w2 = .ok () w2) ∧
    ∃ r' d, keyFits d key = true ∧ (∀ w2 : World, (Instr.findKey kt (keyVal key) es'.toList).run P w2 = .ok r' w2) ∧ FindRel P w ok d key es'.toList 0 r r' := by
  obtain ⟨d, hd, hmt⟩ := keyOk_spec hk
  refine ⟨fun b w2 => run_checkKey hd (key_plain hmt) b 9999 _ w2, ?_⟩
  obtain ⟨r', g1, g2⟩ := mfind_run (P := P) (w := w) (ok := ok) hmt es es'.toList 0 r hf (by simpa using hm.1) (fun j e hj => by simpa using hm.2 j e hj)
  exact ⟨r', d, hmt, fun w2 => by simp [Instr.findKey, run_underlying hd, g1], g2⟩

def zeroV (P : Program) (t : TypeId) : Option V :=
  match (P.info? t).bind (·.zero) with
  | some (.agg cs) => if cs.toList.all (·.oneCell') then some (.agg (cs.toList.map V.ofC)) else none
  | some u => some (V.ofC u)
  | none => none

theorem zeroV_spec {t : TypeId} {v : V} (h : zeroV P t = some v) : ∃ u, (∀ w2, (zeroValue t).run P w2 = .ok u w2) ∧ RV P w ok v ρ u := by
  unfold zeroV at h
  have key : ∀ z, (P.info? t).bind (·.zero) = some z → ∀ w2, (zeroValue t).run P w2 = .ok z w2 := fun z hz w2 => by
    cases hi : P.info? t with
    | none => simp [hi] at hz
    | some i => simp [hi] at hz; simp [zeroValue, typeInfo, hi, hz]
  split at h
  · rename_i cs hz
    split at h
    · rename_i h1
      cases h
      refine ⟨_, key _ hz, ?_⟩
      simp only [RV]
      exact ⟨cs, rfl, List.all_eq_true.1 h1, RVs_ofC _⟩
    · cases h
  · rename_i u hz
    cases h
    exact ⟨_, key _ hz, RV.ofC _⟩
  · cases h

theorem RV_pair {v x : V} {u y : Value} (h : RV P w ok v ρ u) (h' : RV P w ok x ρ y) : RV P w ok (.tup [v, x]) ρ (.tuple #[u, y]) := by
  simp only [RV, RVs]
  exact ⟨_, rfl, u, [y], rfl, h, y, [], rfl, h', rfl⟩

/-! ### Look-ups -/
def mapAt (v : V) (σ : List Ob) : Option MapL := match v with | .nilm => some [] | .mp n => (match σ[n]? with | some (.map es _) => some es | _ => none) | _ => none

def lookupVC (P : Program) (t : TypeId) (m key : V) (cok : Bool) (st : St) (k : V → St → Prop) : Prop :=
  match P.underlying t with
  | some (.map kt et) => keyOk P kt key = true ∧ (match mapAt m st.σ with
    | some es => (match mfind key es 0 with
      | some (some (_, v)) => k (if cok then .tup [v, .bool true] else v) st
      | some none => (match zeroV P et with | some z => k (if cok then .tup [z, .bool false] else z) st | none => False)
      | none => False)
    | none => False)
  | _ => False

theorem lookup_ok (h : Rel P E M st a w) {t : TypeId} {x y : Operand} {cok : Bool} (hk : lookupVC P t (st.ev x) (st.ev y) cok st k) {dst ty pos af gd} :
    Does P E a ((execOp a.eval ⟨dst, .lookup t x y cok, ty, pos, af, gd⟩).run P w) k kp := by
  have hx := h.ev x
  have hy := h.ev y
  unfold lookupVC at hk
  split at hk
  · rename_i kt et hd
    obtain ⟨hko, hk⟩ := hk
    have hky := key_val hko hy
    split at hk
    · rename_i es hes
      -- the map's entries
      have hm : ∃ es', MapOk P w (okW E.X M w) es es' ∧ ((a.eval x = .map none ∧ es' = #[]) ∨ ∃ g c, a.eval x = .map (some g) ∧ w.heap[g]? = some (.map es' c)) := by
        unfold mapAt at hes
        split at hes
        · rename_i hv
          cases hes
          rw [hv] at hx; simp only [RV] at hx
          exact ⟨#[], ⟨by simp, by simp⟩, .inl ⟨hx, rfl⟩⟩
        · rename_i n hv
          rw [hv] at hx; simp only [RV] at hx
          obtain ⟨g, hg, hu⟩ := hx
          split at hes
          · rename_i es0 c hn
            cases hes
            obtain ⟨g', es', f1, f2, f3, f4⟩ := h.sat.ob n _ hn
            rw [hg] at f1; cases f1
            exact ⟨es', f4, .inr ⟨_, _, hu, f3⟩⟩
          · cases hes
        · cases hes
      obtain ⟨es', hm, hcase⟩ := hm
      split at hk
      · rename_i j v hf
        obtain ⟨g1, r', d, _, g2, g3⟩ := findKey_run hko hm hf
        obtain ⟨h0, _⟩ | ⟨j0, v0, u, e0, q1, rfl, g4, _⟩ := g3
        · cases h0
        · cases q1
          have g4' := RV.of_no (ρ := M.ρ) _ _ g4
          refine .val (u := if cok then .tuple #[u, .bool true] else u) ?_ hk h ?_
          · rcases hcase with ⟨hu, rfl⟩ | ⟨g, c, hu, hg⟩
            · have g2' := g2 w
              simp at g2'
              simp [execOp, Instr.lookup, run_underlying hd, hu, hky, g1, g2']
            · simp [execOp, Instr.lookup, run_underlying hd, hu, run_getObj_map hg, hky, g1, g2]
          · cases cok with
            | true => simp only [if_true]; exact RV_pair g4' (by simp [RV])
            | false => simpa using g4'
      · rename_i hf
        obtain ⟨g1, r', d, _, g2, g3⟩ := findKey_run hko hm hf
        split at hk
        · rename_i z hz
          obtain ⟨uz, z1, z2⟩ := zeroV_spec (w := w) (ok := okW E.X M w) (ρ := M.ρ) hz
          obtain ⟨_, rfl⟩ | ⟨j0, v0, u, e0, q1, _⟩ := g3
          · refine .val (u := if cok then .tuple #[uz, .bool false] else uz) ?_ hk h ?_
            · rcases hcase with ⟨hu, rfl⟩ | ⟨g, c, hu, hg⟩
              · have g2' := g2 w
                simp at g2'
                simp [execOp, Instr.lookup, run_underlying hd, hu, hky, g1, g2', z1]
              · simp [execOp, Instr.lookup, run_underlying hd, hu, run_getObj_map hg, hky, g1, g2, z1]
            · cases cok with
              | true => simp only [if_true]; exact RV_pair z2 (by simp [RV])
              | false => simpa using z2
          · cases q1
        · exact hk.elim
      · exact hk.elim
    · exact hk.elim
  · exact hk.elim

/-! ### Writes -/
theorem run_setObj_map {g : Nat} {es : Array MapEntry} {c : Nat} (h : w.heap[g]? = some (.map es c)) (o : Obj) :
    ∃ w', (setObj g o).run P w = .ok () w' ∧ Turn (· = g) w w' ∧ w'.heap[g]? = some o := by
  have hlt := heap_lt h
  refine ⟨{ w with heap := w.heap.setIfInBounds g o }, by simp [setObj, Sem.run, h], ⟨rfl, rfl, rfl, by simp, fun b _ hb => by simp [Array.getElem?_setIfInBounds_ne (Ne.symm hb)], fun b x hx => ?_⟩, by simp [hlt]⟩
  by_cases e : b = g
  · subst e; simp [World.shape?, h] at hx
  · simpa [World.shape?, Array.getElem?_setIfInBounds_ne (Ne.symm e)] using hx

/-- A map of one's own is turned. -/
theorem Rel.setMap (h : Rel P E M st a w) {n g c c' : Nat} {es es2 : MapL} {es' es2' : Array MapEntry} (hn : st.σ[n]? = some (.map es c)) (hg : M.ρ n = some g) (hw : w.heap[g]? = some (.map es' c))
    (hm : MapOk P w (okW E.X M w) es2 es2') :
    ∃ w', (setObj g (.map es2' c')).run P w = .ok () w' ∧ Rel P E M { st with σ := st.σ.set n (.map es2 c') } a w' ∧ (∀ v u, RV P w (okW E.X M w) v M.ρ u → RV P w' (okW E.X M w') v M.ρ u) := by
  obtain ⟨w', e1, e2, e3⟩ := run_setObj_map (P := P) hw (.map es2' c')
  obtain ⟨g', es0, f1, f2, f3, f4⟩ := h.sat.ob n _ hn
  rw [hg] at f1; cases f1
  have ht : Turn (M.fp n) w w' := e2.mono fun b hb => (f2 b).2 hb
  have ht' : Turn (fun g => ∃ n, M.fp n g) w w' := ht.mono fun b hb => ⟨n, hb⟩
  have hl := later_step (X := E.X) (M' := M) ht' (fun n g hn => .inl ⟨n, hn⟩)
  refine ⟨w', e1, h.step_same (h.sat.update (List.getElem?_eq_some_iff.1 hn).1 _ ht ⟨g, es2', hg, f2, e3, hm.later hl⟩) ht' (fun _ _ hh => hh) (fun n g hn => .inl ⟨n, hn⟩) (fun _ _ => rfl) (by simpa using h.len), fun v u hv => ?_⟩
  have := RV.ren_ hl (π := some) (ρ' := M.ρ) (fun n m g e hh => by cases e; exact hh) v u hv
  rwa [V.ren_some] at this

def V.ofCells : V → List V → V | .agg _, cs => .agg cs | _, cs => cs.headD .undef

theorem ofCells_rv {v : V} {cs : List V} {u : Value} (hc : v.okc = true) (hl : cs.length = v.cellsL.length) (hu : RV P w ok v ρ u) (h : RVs P w ok cs noρ u.cells.toList) : RV P w ok (v.ofCells cs) noρ u := by
  have h0 := (RV.cells hc hu).2
  cases v with
  | agg xs =>
    simp only [RV] at hu
    obtain ⟨us, rfl, _, _⟩ := hu
    simp only [V.ofCells, RV]
    exact ⟨us, rfl, h0, h⟩
  | undef => simp [V.okc] at hc
  | tup vs => simp [V.okc] at hc
  | _ =>
    match cs, hl with
    | [c], _ =>
      simp only [V.ofCells, List.headD_cons]
      have : u.cells = #[u] := by
        have hs : u.cells.toList.length = 1 := by have := h.len; simpa using this
        cases u <;> first | rfl | skip
        rename_i ucs
        exfalso
        (simp only [RV] at hu) <;> first
          | (cases hu; done)
          | (obtain ⟨g, _, hu⟩ := hu; cases hu; done)
          | (obtain ⟨g, hu⟩ := hu; cases hu; done)
          | (obtain ⟨g, o, cap, _, hu, _⟩ := hu; cases hu; done)
          | (obtain ⟨g, o, hu, _⟩ := hu; cases hu; done)
          | (obtain ⟨g, hu, _⟩ := hu; cases hu; done)
          | (subst hu; simp [V.okc, Value.oneCell'] at hc)
      rw [this] at h
      simp only [RVs] at h
      obtain ⟨u', us', e, h1, rfl⟩ := h
      simp at e; subst e; exact h1

def mapUpdateVC (P : Program) (t : TypeId) (m key v : V) (st : St) (k : V → St → Prop) : Prop :=
  match P.underlying t, m with
  | some (.map kt _), .mp n => keyOk P kt key = true ∧ v.okc = true ∧ V.closeds (closeVs P v.cellsL st.σ).1 = true ∧ (match (closeVs P v.cellsL st.σ).2[n]? with
    | some (.map es c) => (match mfind key es 0 with
      | some i => k .undef { st with σ := (closeVs P v.cellsL st.σ).2.set n (.map (mset es c i key (v.ofCells (closeVs P v.cellsL st.σ).1)).1 (mset es c i key (v.ofCells (closeVs P v.cellsL st.σ).1)).2) }
      | none => False)
    | _ => False)
  | _, _ => False

theorem keyVal_rv {kt : TypeId} {key : V} (h : keyOk P kt key = true) : RV P w ok key ρ (keyVal key) := by
  obtain ⟨d, hd, hm⟩ := keyOk_spec h
  cases key <;> first | (cases d <;> simp [keyFits] at hm; done) | simp [RV, keyVal]

theorem ba_beq (s r : ByteArray) : (s == r) = (s.data == r.data) := by cases s; cases r; rfl
theorem ba_comm (s r : ByteArray) : (s == r) = (r == s) := by rw [ba_beq, ba_beq, Bool.eq_iff_iff, beq_iff_eq, beq_iff_eq]; exact ⟨Eq.symm, Eq.symm⟩

theorem sameBits_key {d : TypeDesc} {key : V} {u : Value} (hf : keyFits d key = true) (h : Instr.sameNow d (keyVal key) u = some true) (n : Nat) : Instr.sameBits n u (keyVal key) = true := by
  cases key <;> first | (cases d <;> simp [keyFits] at hf; done) | skip
  all_goals
    cases d <;> first | (simp [keyFits] at hf; done) | skip
    cases u <;> simp [Instr.sameNow, keyVal] at h
    first | (simp [Instr.sameBits, keyVal, h]; done) | (simp [Instr.sameBits, keyVal]; rw [ba_comm]; exact h)

theorem MapOk.set {es : MapL} {es' : Array MapEntry} (h : MapOk P w ok es es') {i : Nat} {kv v : V} {ku u : Value} (h1 : RV P w ok kv noρ ku) (h2 : RV P w ok v noρ u) :
    MapOk P w ok (es.set i (kv, v, ((es[i]?).map (·.2.2)).getD 0)) (es'.modify i fun e => { e with key := ku, val := u }) := by
  refine ⟨by simp [h.1], fun j e hj => ?_⟩
  rw [List.getElem?_set] at hj
  rw [Array.getElem?_modify]
  by_cases e0 : i = j
  · subst e0
    rw [if_pos rfl] at hj
    split at hj
    · rename_i hlt
      obtain ⟨e', q1, q2, q3, q4⟩ := h.2 i es[i] (List.getElem?_eq_getElem hlt)
      cases hj
      rw [if_pos rfl, q1]
      exact ⟨_, rfl, h1, h2, by rw [List.getElem?_eq_getElem hlt]; simpa using q4⟩
    · cases hj
  · rw [if_neg e0] at hj
    rw [if_neg e0]
    exact h.2 j e hj

theorem MapOk.push {es : MapL} {es' : Array MapEntry} (h : MapOk P w ok es es') {kv v : V} {ku u : Value} {c : Nat} (h1 : RV P w ok kv noρ ku) (h2 : RV P w ok v noρ u) :
    MapOk P w ok (es ++ [(kv, v, c)]) (es'.push { key := ku, val := u, born := c }) := by
  refine ⟨by simp [h.1], fun j e hj => ?_⟩
  rw [Array.getElem?_push]
  by_cases hlt : j < es.length
  · rw [List.getElem?_append_left hlt] at hj
    rw [if_neg (by have := h.1; omega)]
    exact h.2 j e hj
  · have hj0 := (List.getElem?_eq_some_iff.1 hj).1
    simp at hj0
    have : j = es.length := by omega
    subst this
    simp at hj
    subst hj
    rw [if_pos h.1]
    exact ⟨_, rfl, h1, h2, rfl⟩

theorem mapUpdate_ok (h : Rel P E M st a w) {t : TypeId} {x y z : Operand} (hk : mapUpdateVC P t (st.ev x) (st.ev y) (st.ev z) st k) {dst ty pos af gd} :
    Does P E a ((execOp a.eval ⟨dst, .mapUpdate t x y z, ty, pos, af, gd⟩).run P w) k kp := by
  have hx := h.ev x
  have hy := h.ev y
  have hz := h.ev z
  unfold mapUpdateVC at hk
  split at hk
  · rename_i kt et n hd hv
    obtain ⟨hko, hc, hcl, hk⟩ := hk
    have hky := key_val hko hy
    obtain ⟨r1, r2⟩ := RV.cells hc hz
    obtain ⟨M1, s1, s2, s3, s4, s5⟩ := close_rvs (P := P) h.sat r1
    have h1 := h.less s1 s2 s3 s4
    have hval := ofCells_rv hc (by rw [closeVs_len]) (RV.less s3 s2 hz) (RVs.of_closed (ρ' := noρ) _ _ hcl s5)
    rw [hv] at hx; simp only [RV] at hx
    obtain ⟨g, hg, hu⟩ := hx
    split at hk
    · rename_i es c hn
      obtain ⟨g', es', f1, f2, f3, f4⟩ := s1.ob n _ hn
      rw [s2, hg] at f1; cases f1
      split at hk
      · rename_i i hf
        obtain ⟨g1, r', d, g0, g2, g3⟩ := findKey_run hko f4 hf
        obtain ⟨rfl, rfl⟩ | ⟨j, v, u', e0, rfl, rfl, q3, _, q4, q5, q6⟩ := g3
        · obtain ⟨w', e1, e2, _⟩ := h1.setMap (c' := c + 1) (es2 := es ++ [(st.ev y, (st.ev z).ofCells (closeVs P (st.ev z).cellsL st.σ).1, c)]) hn (by rw [s2]; exact hg) f3 (f4.push (c := c) (keyVal_rv hko) hval)
          refine .skip (w' := w') ?_ hk e2
          simp [execOp, Instr.mapUpdate, run_underlying hd, hu, run_getObj_map f3, hky, g1, g2, e1]
        · simp only [Nat.sub_zero, Array.getElem?_toList] at q4
          obtain ⟨w', e1, e2, _⟩ := h1.setMap (c' := c) hn (by rw [s2]; exact hg) f3 (f4.set (i := j) (keyVal_rv hko) hval)
          refine .skip (w' := w') ?_ hk e2
          have hsb : (Instr.keyThatStays e0.key (keyVal (st.ev y))).run P w = .ok (keyVal (st.ev y)) w := by
            unfold Instr.keyThatStays
            rw [if_pos]
            · rfl
            · exact sameBits_key g0 q5 10000
          simp [execOp, Instr.mapUpdate, run_underlying hd, hu, run_getObj_map f3, hky, g1, g2, q4, hsb, e1]
      · exact hk.elim
    · exact hk.elim
  · exact hk.elim

/-! ### m[k] op= v: the entry and its stamp -/
def mapEntryVC (P : Program) (t : TypeId) (m key : V) (st : St) (k : V → St → Prop) : Prop :=
  match P.underlying t, m with
  | some (.map kt et), .mp n => keyOk P kt key = true ∧ (match st.σ[n]? with
    | some (.map es c) => (match mfind key es 0 with
      | some (some (i, v)) => k (.tup [v, .int .i64 ((((es[i]?).map (·.2.2)).getD 0 : Nat) : Int)]) { st with σ := st.σ.set n (.map (mset es c (some (i, v)) key v).1 c) }
      | some none => (match zeroV P et with
        | some z => z.closed = true ∧ k (.tup [z, .int .i64 (c : Int)]) { st with σ := st.σ.set n (.map (es ++ [(key, z, c)]) (c + 1)) }
        | none => False)
      | none => False)
    | _ => False)
  | _, _ => False

theorem mapEntry_ok (h : Rel P E M st a w) {t : TypeId} {x y : Operand} (hk : mapEntryVC P t (st.ev x) (st.ev y) st k) {dst ty pos af gd} :
    Does P E a ((execOp a.eval ⟨dst, .mapEntry t x y, ty, pos, af, gd⟩).run P w) k kp := by
  have hx := h.ev x
  have hy := h.ev y
  unfold mapEntryVC at hk
  split at hk
  · rename_i kt et n hd hv
    obtain ⟨hko, hk⟩ := hk
    have hky := key_val hko hy
    rw [hv] at hx; simp only [RV] at hx
    obtain ⟨g, hg, hu⟩ := hx
    split at hk
    · rename_i es c hn
      obtain ⟨g', es', f1, f2, f3, f4⟩ := h.sat.ob n _ hn
      rw [hg] at f1; cases f1
      split at hk
      · rename_i j v hf
        obtain ⟨g1, r', d, g0, g2, g3⟩ := findKey_run hko f4 hf
        obtain ⟨h0, _⟩ | ⟨j0, v0, u', e0, q1, rfl, q3, _, q4, q5, q6⟩ := g3
        · cases h0
        · cases q1
          simp only [Nat.sub_zero, Array.getElem?_toList] at q4
          have hb : e0.born = ((es[j]?).map (·.2.2)).getD 0 := by
            have hlt := (Array.getElem?_eq_some_iff.1 q4).1
            have hlt' : j < es.length := by have := f4.1; omega
            obtain ⟨e', p1, _, _, p4⟩ := f4.2 j _ (List.getElem?_eq_getElem hlt')
            rw [q4] at p1; cases p1
            rw [List.getElem?_eq_getElem hlt']; simpa using p4
          have hmod : MapOk P w (okW E.X M w) (mset es c (some (j, v)) (st.ev y) v).1 (es'.modify j fun e => { e with key := keyVal (st.ev y), val := u' }) := f4.set (keyVal_rv hko) q3
          have hsame : (es'.modify j fun e => { e with key := keyVal (st.ev y) }) = (es'.modify j fun e => { e with key := keyVal (st.ev y), val := u' }) := by
            apply Array.ext_getElem?
            intro i
            simp only [Array.getElem?_modify]
            by_cases e : j = i
            · subst e; rw [if_pos rfl, if_pos rfl, q4]; simp [q6]
            · rw [if_neg e, if_neg e]
          obtain ⟨w', e1, e2, e3⟩ := h.setMap (c' := c) hn hg f3 hmod
          have hsb : (Instr.keyThatStays e0.key (keyVal (st.ev y))).run P w = .ok (keyVal (st.ev y)) w := by
            unfold Instr.keyThatStays
            rw [if_pos]
            · rfl
            · exact sameBits_key g0 q5 10000
          refine .val (u := .tuple #[u', .int .i64 (e0.born : Int)]) (w' := w') ?_ hk e2 (RV_pair (e3 _ _ (RV.of_no _ _ q3)) (by simp [RV, hb]))
          simp [execOp, Instr.mapEntry, run_underlying hd, hu, run_getObj_map f3, hky, g1, g2, q4, hsb, hsame, e1, goInt]
      · rename_i hf
        obtain ⟨g1, r', d, g0, g2, g3⟩ := findKey_run hko f4 hf
        obtain ⟨_, rfl⟩ | ⟨j0, v0, u', e0, q1, _⟩ := g3
        · split at hk
          · rename_i z hz
            obtain ⟨hcl, hk⟩ := hk
            obtain ⟨uz, z1, z2⟩ := zeroV_spec (w := w) (ok := okW E.X M w) (ρ := noρ) hz
            obtain ⟨w', e1, e2, e3⟩ := h.setMap (c' := c + 1) hn hg f3 (f4.push (c := c) (keyVal_rv hko) z2)
            refine .val (u := .tuple #[uz, .int .i64 (c : Int)]) (w' := w') ?_ hk e2 (RV_pair (e3 _ _ (RV.of_no _ _ z2)) (by simp [RV]))
            simp [execOp, Instr.mapEntry, run_underlying hd, hu, run_getObj_map f3, hky, g1, g2, z1, e1, goInt]
          · exact hk.elim
        · cases q1
      · exact hk.elim
    · exact hk.elim
  · exact hk.elim

def entryStoreVC (P : Program) (m stamp v : V) (st : St) (k : V → St → Prop) : Prop :=
  match m, stamp with
  | .mp n, .int _ b => v.okc = true ∧ V.closeds (closeVs P v.cellsL st.σ).1 = true ∧ (match (closeVs P v.cellsL st.σ).2[n]? with
    | some (.map es c) => (match es.findIdx? (fun e => (e.2.2 : Int) == b) with
      | some i => k .undef { st with σ := (closeVs P v.cellsL st.σ).2.set n (.map (es.set i (((es[i]?).map (·.1)).getD .undef, v.ofCells (closeVs P v.cellsL st.σ).1, ((es[i]?).map (·.2.2)).getD 0)) c) }
      | none => False)
    | _ => False)
  | _, _ => False

theorem findIdx_born {es : MapL} {es' : Array MapEntry} (h : MapOk P w ok es es') (b : Int) : es'.findIdx? (fun e => (e.born : Int) == b) = es.findIdx? (fun e => (e.2.2 : Int) == b) := by
  have key : ∀ (l : List (V × V × Nat)) (l' : List MapEntry), l.length = l'.length → (∀ (j : Nat) e e', l[j]? = some e → l'[j]? = some e' → e'.born = e.2.2) → l'.findIdx? (fun e => (e.born : Int) == b) = l.findIdx? (fun e => (e.2.2 : Int) == b) := by
    intro l
    induction l with
    | nil => intro l' hl _; simp at hl; have : l' = [] := List.eq_nil_of_length_eq_zero hl.symm; subst this; rfl
    | cons e l ih =>
      intro l' hl hb
      match l', hl with
      | e' :: l', hl =>
        have h0 := hb 0 e e' rfl rfl
        rw [List.findIdx?_cons, List.findIdx?_cons, h0, ih l' (by simpa using hl) (fun j x x' hx hx' => hb (j + 1) x x' (by simpa using hx) (by simpa using hx'))]
  rw [← key es es'.toList (by simpa using h.1) (fun j e e' he he' => ?_)]
  · obtain ⟨l⟩ := es'; simp
  · obtain ⟨e0, p1, _, _, p4⟩ := h.2 j e he
    simp at he'
    rw [he'] at p1; cases p1; exact p4

theorem MapOk.setVal {es : MapL} {es' : Array MapEntry} (h : MapOk P w ok es es') {i : Nat} {v : V} {u : Value} (h2 : RV P w ok v noρ u) :
    MapOk P w ok (es.set i (((es[i]?).map (·.1)).getD .undef, v, ((es[i]?).map (·.2.2)).getD 0)) (es'.modify i fun e => { e with val := u }) := by
  refine ⟨by simp [h.1], fun j e hj => ?_⟩
  rw [List.getElem?_set] at hj
  rw [Array.getElem?_modify]
  by_cases e0 : i = j
  · subst e0
    rw [if_pos rfl] at hj
    split at hj
    · rename_i hlt
      obtain ⟨e', q1, q2, q3, q4⟩ := h.2 i es[i] (List.getElem?_eq_getElem hlt)
      cases hj
      rw [if_pos rfl, q1]
      exact ⟨_, rfl, by rw [List.getElem?_eq_getElem hlt]; simpa using q2, h2, by rw [List.getElem?_eq_getElem hlt]; simpa using q4⟩
    · cases hj
  · rw [if_neg e0] at hj
    rw [if_neg e0]
    exact h.2 j e hj

theorem entryStore_ok (h : Rel P E M st a w) {t : TypeId} {x y z : Operand} (hk : entryStoreVC P (st.ev x) (st.ev y) (st.ev z) st k) {dst ty pos af gd} :
    Does P E a ((execOp a.eval ⟨dst, .entryStore t x y z, ty, pos, af, gd⟩).run P w) k kp := by
  have hx := h.ev x
  have hy := h.ev y
  have hz := h.ev z
  unfold entryStoreVC at hk
  split at hk
  · rename_i n kk b hv hvy
    obtain ⟨hc, hcl, hk⟩ := hk
    obtain ⟨r1, r2⟩ := RV.cells hc hz
    obtain ⟨M1, s1, s2, s3, s4, s5⟩ := close_rvs (P := P) h.sat r1
    have h1 := h.less s1 s2 s3 s4
    have hval := ofCells_rv hc (by rw [closeVs_len]) (RV.less s3 s2 hz) (RVs.of_closed (ρ' := noρ) _ _ hcl s5)
    rw [hv] at hx; simp only [RV] at hx
    rw [hvy] at hy; simp only [RV] at hy
    obtain ⟨g, hg, hu⟩ := hx
    split at hk
    · rename_i es c hn
      obtain ⟨g', es', f1, f2, f3, f4⟩ := s1.ob n _ hn
      rw [s2, hg] at f1; cases f1
      split at hk
      · rename_i i hf
        have hf' := (findIdx_born f4 b).trans hf
        obtain ⟨w', e1, e2, _⟩ := h1.setMap (c' := c) hn (by rw [s2]; exact hg) f3 (f4.setVal (i := i) hval)
        refine .skip (w' := w') ?_ hk e2
        simp [execOp, Instr.entryStore, hu, hy, run_getObj_map f3, asInt, asIntOf, hf', e1]
      · exact hk.elim
    · exact hk.elim
  · exact hk.elim

def deleteVC (P : Program) (t : TypeId) (m key : V) (st : St) (k : V → St → Prop) : Prop :=
  match P.underlying t, m with
  | some (.map kt _), .mp n => keyOk P kt key = true ∧ (match st.σ[n]? with
    | some (.map es c) => (match mfind key es 0 with
      | some (some (i, _)) => k (.tup []) { st with σ := st.σ.set n (.map (es.eraseIdx i) c) }
      | some none => k (.tup []) { st with σ := st.σ.set n (.map es c) }
      | none => False)
    | _ => False)
  | _, _ => False

theorem MapOk.erase {es : MapL} {es' : Array MapEntry} (h : MapOk P w ok es es') {i : Nat} (hi : i < es.length) : MapOk P w ok (es.eraseIdx i) (es'.eraseIdxIfInBounds i) := by
  have hi' : i < es'.size := by have := h.1; omega
  have e : es'.eraseIdxIfInBounds i = es'.eraseIdx i hi' := by simp [Array.eraseIdxIfInBounds, hi']
  rw [e]
  have ht : (es'.eraseIdx i hi').toList = es'.toList.eraseIdx i := by simp
  refine ⟨by rw [← Array.length_toList, ht]; simp [List.length_eraseIdx, h.1], fun j x hj => ?_⟩
  rw [← Array.getElem?_toList, ht]
  rw [List.getElem?_eraseIdx] at hj ⊢
  split at hj
  · rename_i hlt
    rw [if_pos hlt]; simpa using h.2 j x hj
  · rename_i hlt
    rw [if_neg hlt]; simpa using h.2 (j + 1) x hj

theorem delete_ok (h : Rel P E M st a w) {t : TypeId} {x y : Operand} {ts : Array TypeId} (hk : deleteVC P t (st.ev x) (st.ev y) st k) (hts : ts[0]? = some t) {dst ty pos af gd} :
    Does P E a ((execOp a.eval ⟨dst, .call { callee := .builtin .delete, args := #[x, y], argTypes := ts }, ty, pos, af, gd⟩).run P w) k kp := by
  have hx := h.ev x
  have hy := h.ev y
  unfold deleteVC at hk
  split at hk
  · rename_i kt et n hd hv
    obtain ⟨hko, hk⟩ := hk
    have hky := key_val hko hy
    rw [hv] at hx; simp only [RV] at hx
    obtain ⟨g, hg, hu⟩ := hx
    split at hk
    · rename_i es c hn
      obtain ⟨g', es', f1, f2, f3, f4⟩ := h.sat.ob n _ hn
      rw [hg] at f1; cases f1
      split at hk
      · rename_i j v hf
        obtain ⟨g1, r', d, g0, g2, g3⟩ := findKey_run hko f4 hf
        obtain ⟨h0, _⟩ | ⟨j0, v0, u', e0, q1, rfl, q3, _, q4, q5, q6⟩ := g3
        · cases h0
        · cases q1
          simp only [Nat.sub_zero, Array.getElem?_toList] at q4
          have hlt := (Array.getElem?_eq_some_iff.1 q4).1
          obtain ⟨w', e1, e2, e3⟩ := h.setMap (c' := c) hn hg f3 (f4.erase (i := j) (by have := f4.1; omega))
          refine .val (u := .tuple #[]) (w' := w') ?_ hk e2 (by simp [RV, RVs])
          simp [execOp, resolve, invoke, builtin, Builtin.delete_, hts, run_underlying hd, hu, run_getObj_map f3, hky, g1, g2, e1]
      · rename_i hf
        obtain ⟨g1, r', d, g0, g2, g3⟩ := findKey_run hko f4 hf
        obtain ⟨_, rfl⟩ | ⟨j0, v0, u', e0, q1, _⟩ := g3
        · obtain ⟨w', e1, e2, e3⟩ := h.setMap (c' := c) hn hg f3 f4
          refine .val (u := .tuple #[]) (w' := w') ?_ hk e2 (by simp [RV, RVs])
          simp [execOp, resolve, invoke, builtin, Builtin.delete_, hts, run_underlying hd, hu, run_getObj_map f3, hky, g1, g2, e1]
        · cases q1
      · exact hk.elim
    · exact hk.elim
  · exact hk.elim

theorem makeMap_ok (h : Rel P E M st a w) {t : TypeId} (hk : k (.mp st.σ.length) { st with σ := st.σ ++ [.map [] 0] }) {dst ty pos af gd} :
    Does P E a ((execOp a.eval ⟨dst, .makeMap t none, ty, pos, af, gd⟩).run P w) k kp := by
  have hown : ∀ n g, (M.add st.σ.length w.heap.size).fp n g → (∃ m, M.fp m g) ∨ w.heap.size ≤ g := fun n g hn => by
    simp only [Env.add] at hn
    split at hn
    · exact .inr (by omega)
    · exact .inl ⟨n, hn⟩
  have hρ : ∀ n g, M.ρ n = some g → (M.add st.σ.length w.heap.size).ρ n = some g := fun n g hn => by
    simp only [Env.add]
    split
    · rename_i e; subst e; rw [h.sat.dom _ (Nat.le_refl _)] at hn; cases hn
    · exact hn
  have hs : Sat P E.X (M.add st.σ.length w.heap.size) (st.σ ++ [.map [] 0]) (w.alloc (.map #[] 0)) :=
    h.sat.alloc _ _ ⟨w.heap.size, #[], by simp [Env.add], fun g => by simp [Env.add], by show (w.heap.push _)[w.heap.size]? = _; simp, by simp, by simp⟩
  refine .val (u := .map (some w.heap.size)) (w' := w.alloc (.map #[] 0)) ?_ hk (h.step_same hs (Turn.alloc _ w _) hρ hown (fun n hn => ?_) (by have := h.len; simp; omega)) ?_
  · simp [execOp, Instr.makeMap]
  · simp only [Env.add]; rw [if_neg (by have := h.len; omega)]
  · simp [RV, Env.add]

end
end Go.Proofs.Ytncnnbjhginpfaa
