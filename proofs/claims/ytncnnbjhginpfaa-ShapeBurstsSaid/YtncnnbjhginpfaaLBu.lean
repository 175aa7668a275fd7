/- The law ShapeBursts holds of the program, whatever the input. Conditions: none. -/
import Derived.Test.YtncnnbjhginpfaaRows
import Derived.Test.YtncnnbjhginpfaaA30
import Derived.Test.YtncnnbjhginpfaaA26
namespace Go.Proofs.Ytncnnbjhginpfaa.shapeBursts
set_option linter.unusedVariables false
set_option linter.unusedSimpArgs false
set_option linter.unnecessarySimpa false
open Go.ChangeShapes Go.WideShapes Go.ChangeAt Go.RowKit

theorem own : ownKnob Try.prog.godebug = none := by kernel_rfl

set_option maxRecDepth 100000 in
theorem lifted (os : Os) (started : os.Started) (H : Type) (enc : TypeId × Value → H) :
    ReturnsInHanded {} Try.checked os 4 .any (Rows.shapeBurstsSpec.pre6 enc Try.prog Try.f4 Rows.shapeBurstsRow.domain false) (Rows.shapeBurstsSpec.post enc Try.prog Try.f4 false true false false) := by
  refine returnsInHanded_of_change (C := Try.checked) own started (by kernel_rfl) Try.func4
    (ChangeSpec.witness6 (enc := enc) (C := Try.checked) false ⟨#[], #[.slice none 0 0, .int .i64 0], []⟩ 8 (by kernel_rfl) (by kernel_rfl) (by kernel_rfl) (by kernel_rfl)) ?_
  intro W base args ds gs before hval0 hW hcnd _
  have hval : ∀ (j : Nat) t v, Try.f4.params[j]? = some t → args[j]? = some v → Value.okWide Try.prog W .any base t v := hval0
  have hW' := hW
  obtain ⟨p, q, hA0, hV, rfl, hfz, hnd⟩ := hW
  have hA : DataW.TrodAll enc Try.prog W 0 (fun _ => true) true Try.f4.params.toList args.toList ds p := hA0
  rw [Try.params4] at hA hval
  obtain ⟨v0, vs0, d0, ds0, p0, q0, hargs, rfl, rfl, h0, r0⟩ := trodAll_cons hA
  obtain ⟨v1, vs1, d1, ds1, p1, q1, rfl, rfl, rfl, h1, r1⟩ := trodAll_cons r0
  obtain ⟨rfl, rfl, rfl⟩ := trodAll_nil r1
  obtain rfl : args = #[v0, v1] := by cases args; simp_all
  obtain ⟨rfl, rfl⟩ := trodVars_none hV
  obtain ⟨a1, rfl, rfl, rfl, w1⟩ := open_int Try.underlying3 (hval 1 3 v1 rfl rfl) h1
  obtain ⟨x, len, cap, rfl⟩ := okWide_slice Try.underlying27 (hval 0 27 v0 rfl rfl)
  obtain ⟨F, hF⟩ : ∃ F : List (List Int), RV Try.prog W (ok0 W) (lists F) noρ (.slice x len cap) := by
    obtain ⟨fuel, hf⟩ := h0
    exact rv_lists hf
  have hlt := hW'.lt
  clear hA0 hval0
  refine (ACalls.law2 (bursts_ok F a1) W [.slice x len cap, .int .i64 a1] ⟨_, _, rfl, hF, _, _, rfl, rfl, rfl⟩).mono fun e W' ⟨he, hg, hh⟩ => ?_
  subst he
  exact ⟨_, rfl, post_same0 (pv := []) hW' (fun _ _ _ => (trodAll_cons_mk (shut_bool Try.underlying4 _) trodAll_mk0))
    (fun sp hsp => (trodAll_cons_mk (Go.WideElems.Trod_stays (by kernel_rfl) (by kernel_rfl) (of_decide_eq_true (by kernel_rfl)) h0 (fun p hp => same_at hh (hlt p (by simp [hp]))) (fun p hp => hsp p (by simp [hp]))) (trodAll_cons_mk (shut_int Try.underlying3 w1) trodAll_mk0))) (fun _ _ => rfl) hg⟩

theorem over : Rows.shapeBurstsRow.holds Try.pinned (OpenSpec.ofChange Rows.shapeBurstsSpec) :=
  OpenClaim.holds_of_wide 4 Try.f4 rfl rfl rfl rfl rfl rfl rfl ⟨rfl, rfl, rfl, rfl, rfl⟩ rfl rfl rfl rfl rfl (by kernel_rfl) Try.func4 (by kernel_rfl)
    (of_decide_eq_true (by kernel_rfl)) (by unfold Func.isWrapper; first | (rw [if_pos (by decide +kernel)]; kernel_rfl) | (rw [if_neg (by decide +kernel)]; exact ⟨rfl, rfl⟩))
    (fun os started H enc _ => lifted os started H enc)

theorem proved : Rows.ShapeBurstsSaid :=
  over
end Go.Proofs.Ytncnnbjhginpfaa.shapeBursts
