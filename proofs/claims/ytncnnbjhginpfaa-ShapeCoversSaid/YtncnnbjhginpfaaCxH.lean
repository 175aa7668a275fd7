/- The operations, one by one, part 4: slices of slices, conversions, composites, new rows. Conditions: none; plain definitions and lemmas. -/
import Derived.Test.YtncnnbjhginpfaaCxG
namespace Go.Proofs.Ytncnnbjhginpfaa
set_option linter.unusedVariables false
set_option linter.unusedSimpArgs false
set_option linter.unnecessarySimpa false
open Go.RowKit

section
variable {P : Program} {E : En} {M M' : Env} {st : St} {a : Act} {w w' : World} {X : Nat → Prop} {σ σ' : List Ob} {π ρ : Nat → Option Nat} {ok : Nat → Prop} {k kp : V → St → Prop}

/-! ### x[l:h:m] -/
/-- A bound: the number, or what stands where none is given. -/
def bndV (x : Option V) (d : Nat) (K : Nat → Prop) : Prop := match x with | none => K d | some (.int _ i) => 0 ≤ i ∧ K i.toNat | _ => False

def sliceVC (P : Program) (t : TypeId) (v : V) (lo hi mx : Option V) (st : St) (k : V → St → Prop) : Prop :=
  match P.underlying t with
  | some .string => (match v with
    | .str s => mx = none ∧ bndV hi s.size fun h => h ≤ s.size ∧ bndV lo 0 fun l => l ≤ h ∧ k (.str (s.extract l h)) st
    | _ => False)
  | some (.slice e) => has P e ∧ (match v with
    | .nils => (mx.isSome = true → hi.isSome = true) ∧ bndV mx 0 fun m => m ≤ 0 ∧ bndV hi 0 fun h => h ≤ m ∧ bndV lo 0 fun l => l ≤ h ∧ k .nils st
    | .esl => (mx.isSome = true → hi.isSome = true) ∧ bndV mx 0 fun m => m ≤ 0 ∧ bndV hi 0 fun h => h ≤ m ∧ bndV lo 0 fun l => l ≤ h ∧ k .esl st
    | .sl ow n off len => (mx.isSome = true → hi.isSome = true) ∧ bndV mx len fun m => m ≤ len ∧ bndV hi len fun h => h ≤ m ∧ bndV lo 0 fun l => l ≤ h ∧
        (mx.isSome = true ∧ m = l → k .esl st) ∧ (¬ (mx.isSome = true ∧ m = l) →
          k (.sl (ow && (match st.σ[n]? with | some (.arr t0 _) => t0 == e | _ => false)) n (off + l * P.cellsOf e) (h - l)) st)
    | .frz cs len => (mx.isSome = true → hi.isSome = true) ∧ bndV mx len fun m => m ≤ len ∧ bndV hi len fun h => h ≤ m ∧ bndV lo 0 fun l => l ≤ h ∧
        (mx.isSome = true ∧ m = l → k .esl st) ∧ (¬ (mx.isSome = true ∧ m = l) →
          k (.frz ((cs.drop (l * P.cellsOf e)).take ((h - l) * P.cellsOf e)) (h - l)) st)
    | _ => False)
  | some (.array n e) => has P e ∧ n ≤ maxLen ∧ mx = none ∧ bndV hi n fun h => h ≤ n ∧ bndV lo 0 fun l => l ≤ h ∧ (match v with
    | .ptr m off => k (.sl false m (off + l * P.cellsOf e) (h - l)) st
    | .fptr cs => k (.frz ((cs.drop (l * P.cellsOf e)).take ((h - l) * P.cellsOf e)) (h - l)) st
    | _ => False)
  | _ => False

theorem bnd_run (h : Rel P E M st a w) {x : Option Operand} {d y y' : Nat} {K : Nat → Prop} (hk : bndV (x.map st.ev) d fun n => n ≤ y' ∧ K n) (hy : y' ≤ y) (code : BoundsCode) :
    ∃ n, n ≤ y' ∧ K n ∧ (∀ v, x.map a.eval = some v → (Instr.sliceBound v y code).run P w = .ok n w) ∧ (x = none → n = d) := by
  cases x with
  | none => simp only [Option.map_none, bndV] at hk; exact ⟨d, hk.1, hk.2, by simp, fun _ => rfl⟩
  | some o =>
    have ho := h.ev o
    simp only [Option.map_some] at hk
    generalize hvv : st.ev o = vv at hk ho
    cases vv with
    | int kk i =>
      simp only [bndV] at hk
      simp only [RV] at ho
      obtain ⟨h0, h1, h2⟩ := hk
      refine ⟨i.toNat, h1, h2, fun v hv => ?_, by simp⟩
      simp at hv; subst hv
      simp [Instr.sliceBound, ho, asIntOf, h0, show i ≤ (y : Int) by omega]
    | _ => simp [bndV] at hk

theorem bnds_run (h : Rel P E M st a w) {lo hi mx : Option Operand} {len cap : Nat} (hc : len ≤ cap) {K : Nat → Nat → Nat → Prop}
    (hk : ((mx.map st.ev).isSome = true → (hi.map st.ev).isSome = true) ∧ bndV (mx.map st.ev) len fun m => m ≤ len ∧ bndV (hi.map st.ev) len fun hh => hh ≤ m ∧ bndV (lo.map st.ev) 0 fun l => l ≤ hh ∧ K m hh l) (b : Bool) :
    ∃ m hh l, m ≤ len ∧ hh ≤ m ∧ l ≤ hh ∧ K m hh l ∧ (Instr.sliceBounds b len cap (lo.map a.eval) (hi.map a.eval) (mx.map a.eval)).run P w = .ok (l, hh, if mx.isSome then m else cap) w ∧ (mx = none → m = len) := by
  obtain ⟨hmh, hk⟩ := hk
  obtain ⟨m, m1, m2, m3, m4⟩ := bnd_run h hk hc (if b then .slice3Acap else .slice3Alen)
  obtain ⟨hh, h1, h2, h3, h4⟩ := bnd_run h m2 (Nat.le_refl m) .slice3B
  obtain ⟨hh', h1', h2', h3', h4'⟩ := bnd_run h m2 (show m ≤ cap by omega) (if b then .sliceAcap else .sliceAlen)
  cases hmx : mx with
  | none =>
    obtain ⟨l, l1, l2, l3, l4⟩ := bnd_run h h2' (Nat.le_refl hh') .sliceB
    refine ⟨m, hh', l, m1, h1', l1, l2, ?_, fun _ => m4 hmx⟩
    cases hhi : hi with
    | none =>
      have e := h4' hhi
      subst e
      cases hlo : lo with
      | none => simp [Instr.sliceBounds, l4 hlo]
      | some o => simp [Instr.sliceBounds]; rw [l3 _ (by rw [hlo]; rfl)]; rfl
    | some oh =>
      have e := h3' _ (by rw [hhi]; rfl)
      cases hlo : lo with
      | none => simp [Instr.sliceBounds, e, l4 hlo]
      | some o => simp [Instr.sliceBounds, e]; rw [l3 _ (by rw [hlo]; rfl)]; rfl
  | some om =>
    obtain ⟨l, l1, l2, l3, l4⟩ := bnd_run h h2 (Nat.le_refl hh) .slice3C
    refine ⟨m, hh, l, m1, h1, l1, l2, ?_, by simp⟩
    have em := m3 _ (by rw [hmx]; rfl)
    cases hhi : hi with
    | none => rw [hmx, hhi] at hmh; simp at hmh
    | some oh =>
      have e := h3 _ (by rw [hhi]; rfl)
      cases hlo : lo with
      | none => simp [Instr.sliceBounds, e, em, l4 hlo]
      | some o => simp [Instr.sliceBounds, e, em]; rw [l3 _ (by rw [hlo]; rfl)]; rfl

theorem slice_q (h : Rel P E M st a w) {t : TypeId} {x : Operand} {lo hi mx : Option Operand} (hk : sliceVC P t (st.ev x) (lo.map st.ev) (hi.map st.ev) (mx.map st.ev) st k) {dst ty pos af gd} :
    Quiet P E M st a w (execOp a.eval ⟨dst, .slice t x lo hi mx, ty, pos, af, gd⟩) k := by
  have hx := h.ev x
  unfold sliceVC at hk
  split at hk
  · rename_i hd
    split at hk
    · rename_i s hv
      rw [hv] at hx
      simp only [RV] at hx
      obtain ⟨hmx, hk⟩ := hk
      have hmx' : mx = none := by cases mx <;> simp at hmx ⊢
      subst hmx'
      obtain ⟨m, hh, l, b1, b2, b3, b4, b5, _⟩ := bnds_run (mx := none) (K := fun _ hh l => k (.str (s.extract l hh)) st) h (Nat.le_refl s.size) ⟨by simp, show _ ∧ _ from ⟨Nat.le_refl _, hk⟩⟩ false
      refine .val (u := .string (s.extract l hh)) ?_ b4 h rfl
      simp only [Option.map_none, Option.isSome_none, Bool.false_eq_true, if_false] at b5
      simp [execOp, Instr.sliceAt, Instr.slice, run_underlying hd, hx, b5]
    · exact hk.elim
  · rename_i e hd
    obtain ⟨⟨d, hd2⟩, hk⟩ := hk
    split at hk
    · rename_i hv
      rw [hv] at hx
      simp only [RV] at hx
      obtain ⟨m, hh, l, b1, b2, b3, b4, b5, _⟩ := bnds_run (K := fun _ _ _ => k .nils st) h (Nat.le_refl 0) hk true
      refine .val (u := .slice none 0 0) ?_ b4 h rfl
      have hl : l = 0 := by omega
      have hhz : hh = 0 := by omega
      subst hl hhz
      have hm0 : (if mx.isSome then m else 0) = 0 := by split <;> omega
      rw [hm0] at b5
      simp [execOp, Instr.sliceAt, Instr.slice, run_underlying hd, hx, b5, run_sizeOf_u hd2]
    · rename_i hv
      rw [hv] at hx
      simp only [RV] at hx
      obtain ⟨A, hx⟩ := hx
      obtain ⟨m, hh, l, b1, b2, b3, b4, b5, _⟩ := bnds_run (K := fun _ _ _ => k .esl st) h (Nat.le_refl 0) hk true
      refine .val (u := .slice A 0 0) ?_ b4 h ⟨A, rfl⟩
      have hl : l = 0 := by omega
      have hhz : hh = 0 := by omega
      subst hl hhz
      have hm0 : (if mx.isSome then m else 0) = 0 := by split <;> omega
      rw [hm0] at b5
      simp [execOp, Instr.sliceAt, Instr.slice, run_underlying hd, hx, b5, run_sizeOf_u hd2]
    · rename_i ow n off len hv
      rw [hv] at hx
      simp only [RV] at hx
      obtain ⟨g, o, cap, hg, hu, h2, h3, h4, h5⟩ := hx
      obtain ⟨m, hh, l, b1, b2, b3, ⟨b4, b4'⟩, b5, b6⟩ := bnds_run h h2 hk true
      have hrun : (execOp a.eval ⟨dst, .slice t x lo hi mx, ty, pos, af, gd⟩).run P w = .ok (.value (.slice (some (if (if mx.isSome then m else cap) = l then (⟨g, o, none⟩ : Addr) else (⟨g, o, none⟩ : Addr).add (l * P.cellsOf e))) (hh - l) ((if mx.isSome then m else cap) - l))) w := by
        simp [execOp, Instr.sliceAt, Instr.slice, run_underlying hd, hu, b5, run_sizeOf_u hd2]
        split <;> (split <;> rfl)
      have hcm : (if mx.isSome then m else cap) ≤ cap := by split <;> omega
      have hhm : hh ≤ (if mx.isSome then m else cap) := by split <;> omega
      generalize hcap : (if mx.isSome then m else cap) = cap' at hrun hcm hhm
      by_cases he : mx.isSome = true ∧ m = l
      · refine .val hrun (b4 (by simpa using he)) h ?_
        simp only [he.1, if_true] at hcap
        have e1 : cap' - l = 0 := by omega
        have e2 : hh - l = 0 := by omega
        rw [e1, e2]
        exact ⟨_, rfl⟩
      · refine .val hrun (b4' (by simpa using he)) h ?_
        simp only [RV]
        by_cases hcl : cap' = l
        · rw [if_pos hcl]
          exact ⟨g, o, cap' - l, hg, rfl, by omega, by omega, by omega, by omega⟩
        · rw [if_neg hcl, add_plain]
          have hop : o = off := h4 (by omega)
          subst hop
          refine ⟨g, _, cap' - l, hg, rfl, by omega, by omega, fun _ => rfl, fun how _ => ?_⟩
          simp only [Bool.and_eq_true] at how
          obtain ⟨hw1, hw2⟩ := how
          obtain ⟨t0, kk, r1, r2⟩ := h5 hw1 (by omega)
          obtain ⟨cs1, hn⟩ : ∃ cs1, st.σ[n]? = some (.arr e cs1) := by
            revert hw2
            cases st.σ[n]? with
            | none => simp
            | some ob => cases ob <;> simp
          · skip
            obtain ⟨g', cur, fr, f1, f2, f3, f4, f5⟩ := h.sat.ob n _ hn
            rw [hg] at f1; cases f1
            rw [shape_cells f3] at r1
            cases r1
            refine ⟨_, cur.size, shape_cells f3, ?_⟩
            have : l * P.cellsOf e + (cap' - l) * P.cellsOf e = cap' * P.cellsOf e := by rw [← Nat.add_mul]; congr 1; omega
            have h7 : cap' * P.cellsOf e ≤ cap * P.cellsOf e := Nat.mul_le_mul_right _ hcm
            omega
    · rename_i cs len hv
      rw [hv] at hx
      simp only [RV] at hx
      obtain ⟨A, cap, hu, h2, h3, h4⟩ := hx
      obtain ⟨m, hh, l, b1, b2, b3, ⟨b4, b4'⟩, b5, b6⟩ := bnds_run h h2 hk true
      have hrun : (execOp a.eval ⟨dst, .slice t x lo hi mx, ty, pos, af, gd⟩).run P w = .ok (.value (.slice (if (if mx.isSome then m else cap) = l then A else A.map (·.add (l * P.cellsOf e))) (hh - l) ((if mx.isSome then m else cap) - l))) w := by
        simp [execOp, Instr.sliceAt, Instr.slice, run_underlying hd, hu, b5, run_sizeOf_u hd2]
      have hcm : (if mx.isSome then m else cap) ≤ cap := by split <;> omega
      have hhm : hh ≤ (if mx.isSome then m else cap) := by split <;> omega
      generalize hcap : (if mx.isSome then m else cap) = cap' at hrun hcm hhm
      by_cases he : mx.isSome = true ∧ m = l
      · refine .val hrun (b4 (by simpa using he)) h ?_
        simp only [he.1, if_true] at hcap
        have e1 : cap' - l = 0 := by omega
        have e2 : hh - l = 0 := by omega
        rw [e1, e2]
        exact ⟨_, rfl⟩
      · refine .val hrun (b4' (by simpa using he)) h ?_
        simp only [RV]
        refine ⟨_, cap' - l, rfl, by omega, by omega, fun hne => ?_⟩
        have hpos : l < hh := by
          rcases Nat.lt_or_ge l hh with hlt | hge
          · exact hlt
          · have : hh - l = 0 := by omega
            rw [this] at hne; simp at hne
        have hne0 : cs ≠ [] := fun e => by subst e; simp at hne
        obtain ⟨ad, rfl, g1, g2⟩ := h4 hne0
        rw [if_neg (by omega)]
        exact ⟨_, rfl, by rw [add_block]; exact g1, (g2.drop _).take _⟩
    · exact hk.elim
  · rename_i n e hd
    obtain ⟨⟨d, hd2⟩, hn, hmx, hk⟩ := hk
    have hmx' : mx = none := by cases mx <;> simp at hmx ⊢
    subst hmx'
    have hk' : ((none : Option V).isSome = true → (hi.map st.ev).isSome = true) ∧ bndV none n fun m => m ≤ n ∧ bndV (hi.map st.ev) n fun hh => hh ≤ m ∧ bndV (lo.map st.ev) 0 fun l => l ≤ hh ∧ (match st.ev x with
        | .ptr m off => k (.sl false m (off + l * P.cellsOf e) (hh - l)) st
        | .fptr cs => k (.frz ((cs.drop (l * P.cellsOf e)).take ((hh - l) * P.cellsOf e)) (hh - l)) st
        | _ => False) := ⟨by simp, Nat.le_refl _, hk⟩
    obtain ⟨m, hh, l, b1, b2, b3, b4, b5, _⟩ := bnds_run (mx := none) (K := fun _ hh l => match st.ev x with
        | .ptr m off => k (.sl false m (off + l * P.cellsOf e) (hh - l)) st
        | .fptr cs => k (.frz ((cs.drop (l * P.cellsOf e)).take ((hh - l) * P.cellsOf e)) (hh - l)) st
        | _ => False) h (Nat.le_refl n) hk' false
    simp only [Option.map_none, Option.isSome_none, Bool.false_eq_true, if_false] at b5
    split at b4
    · rename_i m' off hv
      rw [hv] at hx
      simp only [RV] at hx
      obtain ⟨g, hg, hu⟩ := hx
      refine .val (u := .slice (some (if n = l then (⟨g, off, none⟩ : Addr) else (⟨g, off, none⟩ : Addr).add (l * P.cellsOf e))) (hh - l) (n - l)) ?_ b4 h ?_
      · simp [execOp, Instr.sliceAt, run_underlying hd, hu, Instr.sureAddr, b5, run_sizeOf_u hd2]
      · simp only [RV]
        by_cases hcl : n = l
        · rw [if_pos hcl]; exact ⟨g, off, n - l, hg, rfl, by omega, by omega, by omega, by simp⟩
        · rw [if_neg hcl, add_plain]; exact ⟨g, _, n - l, hg, rfl, by omega, by omega, fun _ => rfl, by simp⟩
    · rename_i cs hv
      rw [hv] at hx
      simp only [RV] at hx
      obtain ⟨ad, hu, hc⟩ := hx
      refine .val (u := .slice (some (if n = l then ad else ad.add (l * P.cellsOf e))) (hh - l) (n - l)) ?_ b4 h ?_
      · simp [execOp, Instr.sliceAt, run_underlying hd, hu, Instr.sureAddr, b5, run_sizeOf_u hd2]
      · simp only [RV]
        refine ⟨_, n - l, rfl, by omega, by omega, fun hne => ?_⟩
        have hpos : l < hh := by
          rcases Nat.lt_or_ge l hh with hlt | hge
          · exact hlt
          · have : hh - l = 0 := by omega
            rw [this] at hne; simp at hne
        have hne0 : cs ≠ [] := fun e => by subst e; simp at hne
        obtain ⟨g1, g2⟩ := hc hne0
        rw [if_neg (by omega)]
        exact ⟨_, rfl, by rw [add_block]; exact g1, (g2.drop _).take _⟩
    · exact b4.elim
  · exact hk.elim

end
end Go.Proofs.Ytncnnbjhginpfaa
