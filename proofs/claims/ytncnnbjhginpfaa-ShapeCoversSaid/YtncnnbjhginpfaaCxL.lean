/- The operations, one by one, part 8: a nil slice with room; capacities. Conditions: none; plain definitions and lemmas. -/
import Derived.Test.YtncnnbjhginpfaaCxK
import Derived.IntWalk
namespace Go.Proofs.Ytncnnbjhginpfaa
set_option linter.unusedVariables false
set_option linter.unusedSimpArgs false
set_option linter.unnecessarySimpa false
open Go.RowKit

section
variable {P : Program} {E : En} {M M' : Env} {st : St} {a : Act} {w w' : World} {X : Nat → Prop} {σ σ' : List Ob} {π ρ : Nat → Option Nat} {ok : Nat → Prop} {k kp : V → St → Prop}

/-- append(nil, make([]T, m)...): of what stands in it nothing is told. -/
def append0VC (P : Program) (t : TypeId) (x y : V) (st : St) (k : V → St → Prop) : Prop :=
  match P.underlying t, x, y with
  | some (.slice e), .nils, .int _ m => has P e ∧ (zeroL P e).map List.length = some (P.cellsOf e) ∧ P.cellsOf e ≠ 0 ∧ 0 < m ∧ m ≤ maxLen ∧ m.toNat * P.bytesOf e ≤ 140737488355328 ∧ k (.sl true st.σ.length 0 m.toNat) { st with σ := st.σ ++ [.arr e []] }
  | _, _, _ => False

theorem append0_run {t t2 ty e : TypeId} {kk : IntKind} (ht : P.underlying t = some (.slice e)) (ht2 : P.underlying t2 = some (.int kk)) {i : TypeInfo} {z : Value} (hi : P.info? e = some i) (hz : i.zero = some z) (hzs : z.cells.size = i.size) (hsz : i.size ≠ 0)
    {ki : IntKind} {m : Nat} (hm : 0 < m) (hml : m ≤ maxLen) (hb : m * i.bytes ≤ 140737488355328) :
    ∃ nc cur, (Builtin.append_ #[t, t2] ty #[.slice none 0 0, .int ki (m : Int)]).run P w = .ok (.slice (some ⟨w.heap.size, 0, none⟩) m nc) (w.drew.alloc (.cells cur e)) ∧
      m ≤ nc ∧ nc ≤ maxLen ∧ cur.size = nc * i.size := by
  have hge := grownCap_ge w m 0 e
  have hcm := grownCap_le_maxLen w m 0 e hml
  have h63' : ¬ (9223372036854775807 < (m : Int)) := by simp only [maxLen] at hml; omega
  have hfit := growslice_fits (bytes := i.bytes) hm hb
  have h48' : ¬ (281474976710656 < Builtin.nextslicecap m 0 * i.bytes) := by omega
  have hw : IntKind.i64.wrap (m : Int) = (m : Int) := IntWalk.i64_in _ ⟨by omega, by simp only [maxLen] at hml; omega⟩
  have hneg : ¬ ((m : Int) < 0) := by omega
  have hbb : ¬ (281474976710656 < (m : Int) * (i.bytes : Int)) := by
    rw [← Int.natCast_mul]; omega
  have hfo : (Builtin.firstCells i.size 0 (.slice none 0 0)).run P w.drew = .ok #[] w.drew := by simp [Builtin.firstCells]
  have hm0 : m ≠ 0 := by omega
  refine ⟨grownCap w m 0 e, Builtin.zeroCells z.cells m ++ Builtin.zeroCells z.cells (grownCap w m 0 e - m), ?_, by omega, hcm, ?_⟩
  · simp [Builtin.append_, run_underlying ht, run_underlying ht2, sizeOf, typeInfo, zeroValue, hi, hz, Builtin.lenOf, h63', h48', Question.forced, hfo, newRow, grownCap, hw, hneg, hbb, hm0, hsz, asInt, asIntOf]
    exact fun h => absurd h (by rw [Nat.mul_eq_zero]; omega)
  · simp only [Array.size_append, size_zeroCells, hzs, ← Nat.add_mul]
    congr 1
    omega

theorem append0_ok (h : Rel P E M st a w) {t t2 : TypeId} {kk : IntKind} (ht2 : P.underlying t2 = some (.int kk)) {x y : Operand} (hk : append0VC P t (st.ev x) (st.ev y) st k) {dst ty pos af gd} :
    Does P E a ((execOp a.eval ⟨dst, .call { callee := .builtin .append, args := #[x, y], argTypes := #[t, t2] }, ty, pos, af, gd⟩).run P w) k kp := by
  have hx := h.ev x
  have hy := h.ev y
  have hrun : (execOp a.eval ⟨dst, .call { callee := .builtin .append, args := #[x, y], argTypes := #[t, t2] }, ty, pos, af, gd⟩).run P w =
      ((Builtin.append_ #[t, t2] ty #[a.eval x, a.eval y]).run P w).andThen fun v w' => .ok (.value v) w' := by
    simp [execOp, resolve, invoke, builtin]
  rw [hrun]
  unfold append0VC at hk
  split at hk
  · rename_i e ki m ht hvx hvy
    rw [hvx] at hx; rw [hvy] at hy
    simp only [RV] at hx hy
    obtain ⟨⟨d, hd2⟩, hzz, hsz, h0, h1, h2, hk⟩ := hk
    cases hz : zeroL P e with
    | none => simp [hz] at hzz
    | some z0 =>
      simp [hz] at hzz
      obtain ⟨i, z, hi, hiz, hzs⟩ := zeroL_info hz
      obtain ⟨b1, b2⟩ := bytesOf_info hi
      obtain ⟨mn, rfl⟩ : ∃ mn : Nat, m = mn := ⟨m.toNat, by omega⟩
      simp only [Int.toNat_natCast] at h2 hk
      obtain ⟨nc, cur, r1, r2, r3, r4⟩ := append0_run (w := w) (ty := ty) (ki := ki) ht ht2 hi hiz (by omega) (by rw [← b2]; exact hsz) (m := mn) (by omega) (by omega) (by rw [← b1]; exact h2)
      obtain ⟨q1, q2⟩ := h.newRow (w1 := w.drew) (Turn.drew _ w) (t := e) (cs := []) (cur := cur) (fun j v hv => by simp at hv) (len := mn) (cap := nc) r2 r3 (by rw [r4, b2]; exact Nat.le_refl _)
      exact .val (by rw [hx, hy, r1]; rfl) hk q1 q2
  · exact hk.elim

theorem cap_ok (h : Rel P E M st a w) {t e : TypeId} {x : Operand} (ht : P.underlying t = some (.slice e)) (hk : match st.ev x with | .nils => k (.int .i64 0) st | .esl => k (.int .i64 0) st | _ => False) {dst ty pos af gd} :
    Does P E a ((execOp a.eval ⟨dst, .call { callee := .builtin .cap, args := #[x], argTypes := #[t] }, ty, pos, af, gd⟩).run P w) k kp := by
  have hx := h.ev x
  have hrun : (execOp a.eval ⟨dst, .call { callee := .builtin .cap, args := #[x], argTypes := #[t] }, ty, pos, af, gd⟩).run P w =
      ((Builtin.cap_ #[t] ty #[a.eval x]).run P w).andThen fun v w' => .ok (.value v) w' := by
    simp [execOp, resolve, invoke, builtin]
  rw [hrun]
  split at hk
  · rename_i hv
    rw [hv] at hx; simp only [RV] at hx
    exact .val (u := .int .i64 0) (by rw [hx]; simp [Builtin.cap_, run_underlying ht, goInt]) hk h rfl
  · rename_i hv
    rw [hv] at hx; simp only [RV] at hx
    obtain ⟨A, hx⟩ := hx
    exact .val (u := .int .i64 0) (by rw [hx]; simp [Builtin.cap_, run_underlying ht, goInt]) hk h rfl
  · exact hk.elim

def capVC (P : Program) (t : TypeId) (v : V) (st : St) (k : V → St → Prop) : Prop := match P.underlying t with | some (.slice _) => (match v with | .nils => k (.int .i64 0) st | .esl => k (.int .i64 0) st | _ => False) | _ => False

end
end Go.Proofs.Ytncnnbjhginpfaa
