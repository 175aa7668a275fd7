/- The operations, one by one, part 2: addresses, parts, slices, lengths. Conditions: none; plain definitions and lemmas. -/
import Derived.Test.YtncnnbjhginpfaaCxE
namespace Go.Proofs.Ytncnnbjhginpfaa
set_option linter.unusedVariables false
set_option linter.unusedSimpArgs false
set_option linter.unnecessarySimpa false
open Go.RowKit

section
variable {P : Program} {E : En} {M M' : Env} {st : St} {a : Act} {w w' : World} {X : Nat → Prop} {σ σ' : List Ob} {π ρ : Nat → Option Nat} {ok : Nat → Prop} {k kp : V → St → Prop}

theorem move_q (h : Rel P E M st a w) {x : Operand} (hk : k (st.ev x) st) {dst ty pos af gd} : Quiet P E M st a w (execOp a.eval ⟨dst, .move x, ty, pos, af, gd⟩) k :=
  .val (by simp [execOp]) hk h (h.ev x)
theorem assign_q (h : Rel P E M st a w) {x : Operand} (hk : k (st.ev x) st) {dst ty pos af gd} : Quiet P E M st a w (execOp a.eval ⟨dst, .assign x, ty, pos, af, gd⟩) k :=
  .val (by simp [execOp]) hk h (h.ev x)

def pickVC (c x y : V) (st : St) (k : V → St → Prop) : Prop := match c with | .bool t => bcase t (fun _ => k x st) (fun _ => k y st) | _ => False
theorem pick_q (h : Rel P E M st a w) {c x y : Operand} (hk : pickVC (st.ev c) (st.ev x) (st.ev y) st k) {dst ty pos af gd} : Quiet P E M st a w (execOp a.eval ⟨dst, .pick c x y, ty, pos, af, gd⟩) k := by
  have hc := h.ev c
  unfold pickVC at hk
  split at hk
  · rename_i t hv
    rw [hv] at hc
    simp only [RV] at hc
    cases t with
    | true => exact .val (by simp [execOp, hc, asBool]) (hk.1 rfl) h (h.ev x)
    | false => exact .val (by simp [execOp, hc, asBool]) (hk.2 rfl) h (h.ev y)
  · exact hk.elim

def nilCheckVC (v : V) (st : St) (k : V → St → Prop) : Prop := match v with | .ptr .. | .fptr _ | .fn (.func _) _ _ => k v st | _ => False
theorem nilCheck_q (h : Rel P E M st a w) {x : Operand} (hk : nilCheckVC (st.ev x) st k) {dst ty pos af gd} : Quiet P E M st a w (execOp a.eval ⟨dst, .nilCheck x, ty, pos, af, gd⟩) k := by
  have hx := h.ev x
  unfold nilCheckVC at hk
  split at hk
  · rename_i n off hv
    have hx0 := hx
    rw [hv] at hx
    simp only [RV] at hx
    obtain ⟨g, _, hu⟩ := hx
    exact .val (by simp [execOp, hu]; rfl) hk h (by rw [← hu]; exact hx0)
  · rename_i cs hv
    have hx0 := hx
    rw [hv] at hx
    simp only [RV] at hx
    obtain ⟨ad, hu, _⟩ := hx
    exact .val (by simp [execOp, hu]; rfl) hk h (by rw [← hu]; exact hx0)
  · rename_i f x1 y1 hv
    have hx0 := hx
    rw [hv] at hx
    simp only [RV] at hx
    obtain ⟨us, vs, hu, _⟩ := hx
    exact .val (by simp [execOp, hu]; rfl) hk h (by rw [← hu]; exact hx0)
  · exact hk.elim

theorem makeFunc_q (h : Rel P E M st a w) {f : Fn} {x y : Array Operand} (hk : k (.fn f (x.toList.map st.ev) (y.toList.map st.ev)) st) {dst ty pos af gd} :
    Quiet P E M st a w (execOp a.eval ⟨dst, .makeFunc f x y, ty, pos, af, gd⟩) k := by
  have key : ∀ l : List Operand, RVs P w (okW E.X M w) (l.map st.ev) M.ρ (l.map a.eval) := fun l => by
    induction l with
    | nil => simp [RVs]
    | cons z l ih => simp only [List.map_cons, RVs]; exact ⟨_, _, rfl, h.ev z, ih⟩
  refine .val (u := .func f (x.map a.eval) (y.map a.eval)) (by simp [execOp, Instr.makeFunc]) hk h ?_
  simp only [RV]
  exact ⟨_, _, rfl, by simpa using key x.toList, by simpa using key y.toList⟩

def makeIfaceVC (P : Program) (t : TypeId) (v : V) (st : St) (k : V → St → Prop) : Prop := match P.underlying t with | some (.interface _) => False | some _ => k (.iface t v) st | none => False
theorem makeIface_q (h : Rel P E M st a w) {t : TypeId} {x : Operand} (hk : makeIfaceVC P t (st.ev x) st k) {dst ty pos af gd} :
    Quiet P E M st a w (execOp a.eval ⟨dst, .makeInterface t x, ty, pos, af, gd⟩) k := by
  unfold makeIfaceVC at hk
  cases hd : P.underlying t with
  | none => simp [hd] at hk
  | some d =>
    have hk' : k (.iface t (st.ev x)) st := by cases d <;> simp [hd] at hk <;> exact hk
    have hni : ∀ m, d ≠ .interface m := fun m e => by subst e; simp [hd] at hk
    refine .val (u := .iface t (a.eval x)) ?_ hk' h ⟨_, rfl, h.ev x⟩
    cases d <;> first | exact absurd rfl (hni _) | simp [execOp, Instr.makeInterface, run_underlying hd]

theorem panic_ok (h : Rel P E M st a w) {x : Operand} (hk : match st.ev x with | .iface t v => kp (.iface t v) st | _ => False) {dst ty pos af gd} :
    Does P E a ((execOp a.eval ⟨dst, .panic x, ty, pos, af, gd⟩).run P w) k kp := by
  have hx := h.ev x
  split at hk
  · rename_i t v hv
    rw [hv] at hx
    have hx0 := hx
    simp only [RV] at hx
    obtain ⟨u, hu, _⟩ := hx
    exact .pan (by simp [execOp, Instr.panic, hu]; rfl) hk h (by rw [← hu]; exact hx0)
  · exact hk.elim

def extractVC (v : V) (i : Nat) (st : St) (k : V → St → Prop) : Prop := match v with | .tup vs => (match vs[i]? with | some v => k v st | none => False) | _ => False
theorem extract_q (h : Rel P E M st a w) {x : Operand} {i : Nat} (hk : extractVC (st.ev x) i st k) {dst ty pos af gd} :
    Quiet P E M st a w (execOp a.eval ⟨dst, .extract x i, ty, pos, af, gd⟩) k := by
  have hx := h.ev x
  unfold extractVC at hk
  split at hk
  · rename_i vs hv
    rw [hv] at hx
    simp only [RV] at hx
    obtain ⟨us, hu, hr⟩ := hx
    split at hk
    · rename_i v hi
      obtain ⟨u, e1, e2⟩ := hr.get hi
      exact .val (by simp [execOp, Instr.extract, hu, show us[i]? = some u by simpa using e1]) hk h e2
    · exact hk.elim
  · exact hk.elim

/-! ### Parts -/
theorem run_part_of {t : TypeId} {cs : List V} {us : List Value} {off : Nat} (hk : loadVC P t cs off st k) (hr : RVs P w ok cs ρ us) (h1 : ∀ x ∈ us, x.oneCell' = true) :
    ∃ u v, (part t us.toArray off).run P w = .ok u w ∧ k v st ∧ RV P w ok v ρ u := by
  obtain ⟨⟨d, hd⟩, hk⟩ := hk
  cases hb : isAggB P t with
  | true =>
    simp only [hb, if_true] at hk
    refine ⟨.agg ((us.drop off).take (P.cellsOf t)).toArray, _, ?_, hk.2, ?_⟩
    · simp [part, run_isAgg_u hd, hb, run_sizeOf_u hd]
    · simp only [RV]
      refine ⟨_, rfl, fun x hx => h1 x (List.mem_of_mem_drop (List.mem_of_mem_take (by simpa using hx))), ?_⟩
      refine RVs.mk (by simp [hr.len]) fun i v u hv hu => ?_
      simp only [List.getElem?_take, List.getElem?_drop] at hv hu
      split at hv
      · rename_i hi
        rw [if_pos hi] at hu
        obtain ⟨u', e1, e2⟩ := hr.get hv
        rw [e1] at hu; cases hu; exact e2
      · cases hv
  | false =>
    simp only [hb, Bool.false_eq_true, if_false] at hk
    obtain ⟨_, v, hv, hk⟩ := hk
    obtain ⟨u, e1, e2⟩ := hr.get hv
    exact ⟨u, v, by simp [part, run_isAgg_u hd, hb, e1], hk, e2⟩

def fieldVC (P : Program) (t : TypeId) (v : V) (f : Nat) (st : St) (k : V → St → Prop) : Prop :=
  match P.underlying t with
  | some (.struct fs) => (match fs[f]? with | some fd => (match v with | .agg cs => loadVC P fd.type cs fd.offset st k | _ => False) | none => False)
  | _ => False
theorem field_q (h : Rel P E M st a w) {t : TypeId} {x : Operand} {f : Nat} (hk : fieldVC P t (st.ev x) f st k) {dst ty pos af gd} :
    Quiet P E M st a w (execOp a.eval ⟨dst, .field t x f, ty, pos, af, gd⟩) k := by
  have hx := h.ev x
  unfold fieldVC at hk
  split at hk
  · rename_i fs hd
    split at hk
    · rename_i fd hf
      split at hk
      · rename_i cs hv
        rw [hv] at hx
        simp only [RV] at hx
        obtain ⟨us, hu, h1, hr⟩ := hx
        obtain ⟨u, v, e1, e2, e3⟩ := run_part_of hk hr h1
        exact .val (by simp [execOp, Instr.field, run_underlying hd, hf, hu, asAgg]; simp at e1; rw [e1]; rfl) e2 h e3
      · exact hk.elim
    · exact hk.elim
  · exact hk.elim

def fieldAddrVC (P : Program) (t : TypeId) (v : V) (f : Nat) (st : St) (k : V → St → Prop) : Prop :=
  match P.underlying t with
  | some (.struct fs) => (match fs[f]? with
    | some fd => has P fd.type ∧ P.cellsOf fd.type ≠ 0 ∧
      (match v with | .ptr n off => k (.ptr n (off + fd.offset)) st | .fptr cs => k (.fptr (cs.drop fd.offset)) st | _ => False)
    | none => False)
  | _ => False

theorem add_block (ad : Addr) (n : Nat) : (ad.add n).block = ad.block := by unfold Addr.add; split <;> rfl

theorem RV.fptr_drop {cs : List V} {ad : Addr} (h : cs ≠ [] → ok ad.block ∧ RCs P w ok cs ad) (n : Nat) : RV P w ok (.fptr (cs.drop n)) ρ (.pointer (some (ad.add n))) := by
  simp only [RV]
  refine ⟨_, rfl, fun hne => ?_⟩
  have hc : cs ≠ [] := fun e => by subst e; simp at hne
  obtain ⟨h1, h2⟩ := h hc
  exact ⟨by rw [add_block]; exact h1, h2.drop n⟩

theorem fieldAddr_q (h : Rel P E M st a w) {t : TypeId} {x : Operand} {f : Nat} (hk : fieldAddrVC P t (st.ev x) f st k) {dst ty pos af gd} :
    Quiet P E M st a w (execOp a.eval ⟨dst, .fieldAddr t x f, ty, pos, af, gd⟩) k := by
  have hx := h.ev x
  unfold fieldAddrVC at hk
  split at hk
  · rename_i fs hd
    split at hk
    · rename_i fd hf
      obtain ⟨⟨d, hd2⟩, hz, hk⟩ := hk
      split at hk
      · rename_i n off hv
        rw [hv] at hx
        simp only [RV] at hx
        obtain ⟨g, hg, hu⟩ := hx
        refine .val (u := .pointer (some ⟨g, off + fd.offset, none⟩)) ?_ hk h ⟨g, hg, rfl⟩
        simp [execOp, Instr.fieldAt, run_underlying hd, hf, hu, Instr.sureAddr, fieldPlace, run_sizeOf_u hd2, hz, add_plain]
      · rename_i cs hv
        rw [hv] at hx
        simp only [RV] at hx
        obtain ⟨ad, hu, hc⟩ := hx
        refine .val (u := .pointer (some (ad.add fd.offset))) ?_ hk h (RV.fptr_drop hc _)
        simp [execOp, Instr.fieldAt, run_underlying hd, hf, hu, Instr.sureAddr, fieldPlace, run_sizeOf_u hd2, hz]
      · exact hk.elim
    · exact hk.elim
  · exact hk.elim

/-! ### Indices -/
def indexAddrVC (P : Program) (t : TypeId) (v ix : V) (st : St) (k : V → St → Prop) : Prop :=
  match ix with
  | .int _ i => (match P.underlying t with
    | some (.slice e) => has P e ∧ (match v with
      | .sl _ n off len => 0 ≤ i ∧ i < len ∧ k (.ptr n (off + i.toNat * P.cellsOf e)) st
      | .frz cs len => 0 ≤ i ∧ i < len ∧ cs.length = len * P.cellsOf e ∧ 0 < P.cellsOf e ∧ k (.fptr (cs.drop (i.toNat * P.cellsOf e))) st
      | _ => False)
    | some (.array len e) => has P e ∧ 0 ≤ i ∧ i < len ∧ (match v with
      | .ptr n off => k (.ptr n (off + i.toNat * P.cellsOf e)) st
      | .fptr cs => k (.fptr (cs.drop (i.toNat * P.cellsOf e))) st
      | _ => False)
    | _ => False)
  | _ => False

theorem indexAddr_q (h : Rel P E M st a w) {t : TypeId} {x ix : Operand} (hk : indexAddrVC P t (st.ev x) (st.ev ix) st k) {dst ty pos af gd} :
    Quiet P E M st a w (execOp a.eval ⟨dst, .indexAddr t x ix, ty, pos, af, gd⟩) k := by
  have hx := h.ev x
  have hi := h.ev ix
  unfold indexAddrVC at hk
  split at hk
  · rename_i kk i hiv
    rw [hiv] at hi
    simp only [RV] at hi
    split at hk
    · rename_i e hd
      obtain ⟨⟨d, hd2⟩, hk⟩ := hk
      split at hk
      · rename_i ow n off len hv
        obtain ⟨h0, h1, hk⟩ := hk
        rw [hv] at hx
        simp only [RV] at hx
        obtain ⟨g, o, cap, hg, hu, h2, h3, h4, h5⟩ := hx
        have ho := h4 (by omega)
        subst ho
        refine .val (u := .pointer (some ⟨g, o + i.toNat * P.cellsOf e, none⟩)) ?_ hk h ⟨g, hg, rfl⟩
        simp [execOp, Instr.indexAt, run_underlying hd, hu, hi, asIntOf, h0, h1, run_sizeOf_u hd2, add_plain]
      · rename_i cs len hv
        obtain ⟨h0, h1, hlen, hpos, hk⟩ := hk
        rw [hv] at hx
        simp only [RV] at hx
        obtain ⟨A, cap, hu, h2, h3, h4⟩ := hx
        have hne : cs ≠ [] := fun e => by
          subst e
          have hp : 0 < len * P.cellsOf e := Nat.mul_pos (by omega) hpos
          simp at hlen
          omega
        obtain ⟨ad, rfl, hb, hc⟩ := h4 hne
        refine .val (u := .pointer (some (ad.add (i.toNat * P.cellsOf e)))) ?_ hk h (RV.fptr_drop (fun _ => ⟨hb, hc⟩) _)
        simp [execOp, Instr.indexAt, run_underlying hd, hu, hi, asIntOf, h0, h1, run_sizeOf_u hd2]
      · exact hk.elim
    · rename_i len e hd
      obtain ⟨⟨d, hd2⟩, h0, h1, hk⟩ := hk
      split at hk
      · rename_i n off hv
        rw [hv] at hx
        simp only [RV] at hx
        obtain ⟨g, hg, hu⟩ := hx
        refine .val (u := .pointer (some ⟨g, off + i.toNat * P.cellsOf e, none⟩)) ?_ hk h ⟨g, hg, rfl⟩
        simp [execOp, Instr.indexAt, run_underlying hd, hu, hi, asIntOf, h0, h1, run_sizeOf_u hd2, add_plain, Instr.sureAddr]
      · rename_i cs hv
        rw [hv] at hx
        simp only [RV] at hx
        obtain ⟨ad, hu, hc⟩ := hx
        refine .val (u := .pointer (some (ad.add (i.toNat * P.cellsOf e)))) ?_ hk h (RV.fptr_drop hc _)
        simp [execOp, Instr.indexAt, run_underlying hd, hu, hi, asIntOf, h0, h1, run_sizeOf_u hd2, Instr.sureAddr]
      · exact hk.elim
    · exact hk.elim
  · exact hk.elim

def indexVC (P : Program) (t : TypeId) (v ix : V) (st : St) (k : V → St → Prop) : Prop :=
  match ix with
  | .int _ i => 0 ≤ i ∧ (match P.underlying t, v with
    | some (.array len e), .agg cs => has P e ∧ i < len ∧ loadVC P e cs (i.toNat * P.cellsOf e) st k
    | some .string, .str s => ∃ b, s[i.toNat]? = some b ∧ k (.int .u8 b.toNat) st
    | _, _ => False)
  | _ => False
theorem index_q (h : Rel P E M st a w) {t : TypeId} {x ix : Operand} (hk : indexVC P t (st.ev x) (st.ev ix) st k) {dst ty pos af gd} :
    Quiet P E M st a w (execOp a.eval ⟨dst, .index t x ix, ty, pos, af, gd⟩) k := by
  have hx := h.ev x
  have hi := h.ev ix
  unfold indexVC at hk
  split at hk
  · rename_i kk i hiv
    rw [hiv] at hi
    simp only [RV] at hi
    obtain ⟨h0, hk⟩ := hk
    split at hk
    · rename_i len e cs hd hv
      obtain ⟨⟨d, hd2⟩, h1, hk⟩ := hk
      rw [hv] at hx
      simp only [RV] at hx
      obtain ⟨us, hu, g1, hr⟩ := hx
      obtain ⟨u, v, e1, e2, e3⟩ := run_part_of hk hr g1
      refine .val ?_ e2 h e3
      simp at e1
      simp [execOp, Instr.index, run_underlying hd, hu, hi, asIntOf, h0, h1, run_sizeOf_u hd2]
      rw [e1]; rfl
    · rename_i s hd hv
      obtain ⟨b, hb, hk⟩ := hk
      rw [hv] at hx
      simp only [RV] at hx
      refine .val (u := .int .u8 b.toNat) ?_ hk h rfl
      simp [execOp, Instr.index, run_underlying hd, hx, hi, asIntOf, h0, hb]
    · exact hk.elim
  · exact hk.elim

/-! ### Lengths -/
def lenVC (P : Program) (t : TypeId) (v : V) (st : St) (k : V → St → Prop) : Prop :=
  match P.underlying t, v with
  | some .string, .str s => k (.int .i64 s.size) st
  | some (.slice _), .sl _ _ _ len => k (.int .i64 len) st
  | some (.slice _), .frz _ len => k (.int .i64 len) st
  | some (.slice _), .nils => k (.int .i64 0) st
  | some (.slice _), .esl => k (.int .i64 0) st
  | some (.array n _), _ => k (.int .i64 n) st
  | some (.map _ _), .nilm => k (.int .i64 0) st
  | some (.map _ _), .mp n => (match st.σ[n]? with | some (.map es _) => k (.int .i64 es.length) st | _ => False)
  | _, _ => False

theorem run_getObj_map {g : Nat} {es : Array MapEntry} {c : Nat} (h : w.heap[g]? = some (.map es c)) : (getObj g).run P w = .ok (.map es c) w := by simp [getObj, Sem.run, h]

theorem len_q (h : Rel P E M st a w) {t : TypeId} {x : Operand} (hk : lenVC P t (st.ev x) st k) {dst ty pos af gd} :
    Quiet P E M st a w (execOp a.eval ⟨dst, .call { callee := .builtin .len, args := #[x], argTypes := #[t] }, ty, pos, af, gd⟩) k := by
  have hx := h.ev x
  unfold lenVC at hk
  split at hk
  · rename_i s hd hv
    rw [hv] at hx; simp only [RV] at hx
    exact .val (u := .int .i64 s.size) (by simp [execOp, resolve, invoke, builtin, Builtin.len_, run_underlying hd, hx, goInt]) hk h rfl
  · rename_i e ow n off len hd hv
    rw [hv] at hx; simp only [RV] at hx
    obtain ⟨g, o, cap, hg, hu, _⟩ := hx
    exact .val (u := .int .i64 len) (by simp [execOp, resolve, invoke, builtin, Builtin.len_, run_underlying hd, hu, goInt]) hk h rfl
  · rename_i e cs len hd hv
    rw [hv] at hx; simp only [RV] at hx
    obtain ⟨A, cap, hu, _⟩ := hx
    exact .val (u := .int .i64 len) (by simp [execOp, resolve, invoke, builtin, Builtin.len_, run_underlying hd, hu, goInt]) hk h rfl
  · rename_i e hd hv
    rw [hv] at hx; simp only [RV] at hx
    exact .val (u := .int .i64 0) (by simp [execOp, resolve, invoke, builtin, Builtin.len_, run_underlying hd, hx, goInt]) hk h rfl
  · rename_i e hd hv
    rw [hv] at hx; simp only [RV] at hx
    obtain ⟨A, hu⟩ := hx
    exact .val (u := .int .i64 0) (by simp [execOp, resolve, invoke, builtin, Builtin.len_, run_underlying hd, hu, goInt]) hk h rfl
  · rename_i n e hd
    exact .val (u := .int .i64 n) (by simp [execOp, resolve, invoke, builtin, Builtin.len_, run_underlying hd, goInt]) hk h rfl
  · rename_i e1 e2 hd hv
    rw [hv] at hx; simp only [RV] at hx
    exact .val (u := .int .i64 0) (by simp [execOp, resolve, invoke, builtin, Builtin.len_, run_underlying hd, hx, goInt]) hk h rfl
  · rename_i e1 e2 n hd hv
    rw [hv] at hx; simp only [RV] at hx
    obtain ⟨g, hg, hu⟩ := hx
    split at hk
    · rename_i es c hn
      obtain ⟨g', es', f1, f2, f3, f4⟩ := h.sat.ob n _ hn
      rw [hg] at f1; cases f1
      refine .val (u := .int .i64 es.length) ?_ hk h rfl
      simp [execOp, resolve, invoke, builtin, Builtin.len_, run_underlying hd, hu, run_getObj_map f3, goInt, f4.1]
    · exact hk.elim
  · exact hk.elim

end
end Go.Proofs.Ytncnnbjhginpfaa
