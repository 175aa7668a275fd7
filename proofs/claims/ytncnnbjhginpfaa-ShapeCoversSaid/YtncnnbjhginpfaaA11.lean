/- Contracts: insert of the document's answer. Conditions: none; plain lemmas. -/
import Derived.Test.YtncnnbjhginpfaaA10
namespace Go.Proofs.Ytncnnbjhginpfaa
set_option linter.unusedVariables false
set_option linter.unusedSimpArgs false
set_option linter.unnecessarySimpa false
open Go.Proofs
set_option maxHeartbeats 4000000
set_option cbv.maxSteps 1000000
set_option maxRecDepth 100000
set_option pp.maxSteps 900

def insStep (x : Int) (s : List Int × Bool) (y : Int) : List Int × Bool := if s.2 = false ∧ y > x then (s.1 ++ [x, y], true) else (s.1 ++ [y], s.2)
def insGo (x : Int) (ys : List Int) : List Int × Bool := ys.foldl (insStep x) ([], false)
def insertS (xs : List Int) (x : Int) : List Int := if (insGo x xs).2 then (insGo x xs).1 else (insGo x xs).1 ++ [x]
attribute [cbv_opaque] insGo insertS
theorem insGo_succ {x : Int} {xs : List Int} {k : Nat} {y : Int} (hy : xs[k]? = some y) : insGo x (xs.take (k + 1)) = insStep x (insGo x (xs.take k)) y := by
  simp [insGo, List.take_add_one, hy]
theorem insGo_len (x : Int) (ys : List Int) : (insGo x ys).1.length ≤ ys.length + 1 ∧ ((insGo x ys).2 = false → (insGo x ys).1.length = ys.length) := by
  have key : ∀ (ys : List Int) (s : List Int × Bool) (n : Nat), s.1.length ≤ n + 1 → (s.2 = false → s.1.length = n) → ((ys.foldl (insStep x) s).1.length ≤ n + ys.length + 1 ∧ ((ys.foldl (insStep x) s).2 = false → (ys.foldl (insStep x) s).1.length = n + ys.length)) := by
    intro ys
    induction ys with
    | nil => intro s n h1 h2; exact ⟨by simpa using h1, by simpa using h2⟩
    | cons y ys ih =>
      intro s n h1 h2
      rw [List.foldl_cons]
      have := ih (insStep x s y) (n + 1) (by unfold insStep; split <;> simp <;> first | omega | (have := h2 (by simp_all); omega)) (by unfold insStep; split <;> simp_all)
      simp only [List.length_cons]
      constructor
      · omega
      · intro h; have := this.2 h; omega
  have := key ys ([], false) 0 (by simp) (by simp)
  simpa [insGo] using this

theorem insert_ok (xs : List Int) (x : Int) (hl : xs.length ≤ 1000) : ACalls Try.prog 24 [ints xs, .int .i64 x] [] (Ret (ints (insertS xs x)) []) := by
  refine ACalls.of_vc (fn := Try.f24) rfl rfl mixed ?_
  cbv
  refine ⟨fun z st => ∃ (k : Nat) (G : List Int) (d : Bool), insGo x (xs.take k) = (G, d) ∧ k ≤ xs.length ∧ z = xs.length - k ∧ st = ⟨mk 43 [(0, ints xs), (1, .int .i64 x), (4, .nils), (5, .sl true 0 0 G.length), (6, .bool d), (7, .int .i64 k)], [.arr 3 (G.map (V.int .i64))]⟩, GS.keep [0,1,4,5,6,7] [0] rfl (GS.done ⟨_, 0, [], false, rfl, by omega, rfl, ?_⟩), ?_⟩
  · cbv
  rintro z st ⟨k, G, d, hG, h2, rfl, rfl⟩
  have hGl := insGo_len x (xs.take k)
  rw [hG] at hGl
  have hGl1 : G.length ≤ 1001 := by have := hGl.1; simp at this; omega
  cbv
  refine pcase.mk (fun h4 => ?_) (fun h4 => ?_)
  · have hk := nlt h4
    obtain ⟨y, hy⟩ := get_some hk
    have e1 := insGo_succ (x := x) hy
    rw [hG] at e1
    cbv
    refine ⟨_, ?_, fun s h => h⟩
    cases d with
    | true =>
      have e2 : insGo x (xs.take (k + 1)) = (G ++ [y], true) := by rw [e1, insStep]; simp
      cbv
      refine GS.done ?_
      cbv
      refine ⟨h4, atK.mk (.int .i64 y) (by simp [hy]) ?_⟩
      cbv
      refine ⟨by omega, by omega, ?_⟩
      cbv
      refine GS.keep [0,1,4,5,6,7] [2] rfl (GS.done ⟨xs.length - (k + 1), by omega, k + 1, _, _, e2, by omega, rfl, ?_⟩)
      rw [w64n (by omega), List.take_of_length_le (by simp)]
      simp only [List.length_append, List.length_singleton, List.map_append, List.map_cons, List.map_nil]
      cbv
    | false =>
      cbv
      refine ⟨h4, atK.mk (.int .i64 y) (by simp [hy]) ?_⟩
      cbv
      refine pcase.mk (fun h5 => ?_) (fun h5 => ?_)
      · have e2 : insGo x (xs.take (k + 1)) = (G ++ [x, y], true) := by rw [e1, insStep, if_pos ⟨rfl, h5⟩]
        cbv
        refine ⟨by omega, by omega, GS.done ?_⟩
        cbv
        refine ⟨h4, atK.mk (.int .i64 y) (by simp [hy]) ?_⟩
        cbv
        refine ⟨by simp, by omega, by omega, ?_⟩
        cbv
        refine GS.keep [0,1,4,5,6,7] [4] rfl (GS.done ⟨xs.length - (k + 1), by omega, k + 1, _, _, e2, by omega, rfl, ?_⟩)
        rw [w64n (by omega), List.take_of_length_le (by simp), List.take_of_length_le (by simp)]
        simp only [List.length_append, List.length_cons, List.length_nil, List.map_append, List.map_cons, List.map_nil]
        cbv
        simp only [List.append_assoc, List.cons_append, List.nil_append]
      · have e2 : insGo x (xs.take (k + 1)) = (G ++ [y], false) := by rw [e1, insStep, if_neg (by simp; omega)]
        cbv
        refine GS.done ?_
        cbv
        refine ⟨h4, atK.mk (.int .i64 y) (by simp [hy]) ?_⟩
        cbv
        refine ⟨by omega, by omega, ?_⟩
        cbv
        refine GS.keep [0,1,4,5,6,7] [2] rfl (GS.done ⟨xs.length - (k + 1), by omega, k + 1, _, _, e2, by omega, rfl, ?_⟩)
        rw [w64n (by omega), List.take_of_length_le (by simp)]
        simp only [List.length_append, List.length_singleton, List.map_append, List.map_cons, List.map_nil]
        cbv
  · have hk := nge h4
    rw [List.take_of_length_le hk] at hG
    cbv
    refine ⟨_, ?_, fun s h => h⟩
    cases d with
    | true =>
      cbv
      refine GS.done ?_
      cbv
      refine GS.closeArr 0 0 G.length true 3 (G.map (V.int .i64)) rfl rfl (by rw [tc3]; simp [Try.t3]) (GS.keep [0] [] rfl (GS.done ⟨?_, rfl⟩))
      have : insertS xs x = G := by rw [insertS, hG]; rfl
      rw [this]; rfl
    | false =>
      cbv
      refine ⟨by omega, by omega, GS.done ?_⟩
      cbv
      refine GS.closeArr 0 2 (G.length + 1) true 3 (G.map (V.int .i64) ++ [.int .i64 x]) rfl ?_ (by rw [tc3]; simp [Try.t3]) (GS.keep [0] [] rfl (GS.done ⟨?_, rfl⟩))
      · rw [List.take_of_length_le (by simp)]; rfl
      have : insertS xs x = G ++ [x] := by rw [insertS, hG]; rfl
      rw [this]; simp [ints]; rfl

end Go.Proofs.Ytncnnbjhginpfaa
