/- The contract of slices.Sort by names, out of the shelf's. Conditions: fewer than 2^62 numbers. -/
import Derived.Test.YtncnnbjhginpfaaA6
import Derived.Test.YtncnnbjhginpfaaSh
namespace Go.Proofs.Ytncnnbjhginpfaa
set_option linter.unusedVariables false
set_option linter.unusedSimpArgs false
set_option linter.unnecessarySimpa false
open Go.Proofs
set_option maxRecDepth 100000

def sortS (xs : List Int) : List Int := xs.mergeSort fun x y => decide (x ≤ y)

theorem heap_sorted {w : World} {g o : Nat} {d : Array Int} {n : Nat} {os : Array Obj} (k : Nat) (hk : k < w.heap.size) :
    (Sort.grow (Sort.putRow (Value.int .i64) (Sort.ahead w n) g o d) os).heap[k]? = if k = g then (w.heap[k]?).map (Sort.onCells (Sort.putCells (Value.int .i64) o d)) else w.heap[k]? := by
  simp only [Sort.grow, Sort.putRow, Sort.mapBlock, Sort.ahead]
  rw [Array.getElem?_append_left (by simpa using hk), Array.getElem?_modify]
  by_cases h : k = g
  · subst h; simp
  · rw [if_neg (fun e => h e.symm), if_neg h]

theorem sort_turn {w : World} {g o : Nat} {d : Array Int} {n : Nat} {os : Array Obj} : Turn (· = g) w (Sort.grow (Sort.putRow (Value.int .i64) (Sort.ahead w n) g o d) os) where
  os := rfl
  tape := rfl
  output := rfl
  size := by simp [Sort.grow, Sort.putRow, Sort.mapBlock, Sort.ahead]
  blk := fun k hk hn => by rw [heap_sorted k hk, if_neg hn]
  shape := fun k x hx => by
    have hk := shape_lt hx
    by_cases e : k = g
    · unfold World.shape? at hx ⊢
      rw [heap_sorted k hk, if_pos e]
      cases hh : w.heap[k]? with
      | none => rw [hh] at hx; cases hx
      | some ob =>
        rw [hh] at hx
        cases ob with
        | cells c t fr => simpa [Sort.onCells, Sort.putCells] using hx
        | _ => cases hx
    · exact (shape_of_heap (by rw [heap_sorted k hk, if_neg e])).trans hx

theorem sort_ok (xs : List Int) (ow : Bool) (hl : xs.length < 4611686018427387904) :
    ACalls Try.prog 43 [.sl ow 0 0 xs.length] [.arr 3 (xs.map (V.int .i64))] (Ret (.tup []) [.arr 3 ((sortS xs).map (V.int .i64))]) := by
  refine ⟨⟨Try.f43, rfl, by decide, rfl⟩, fun X M w us hs hv => ?_⟩
  simp only [RVs] at hv
  obtain ⟨u, us', rfl, hu, rfl⟩ := hv
  simp only [RV] at hu
  obtain ⟨g, o, cap, e1, rfl, e2, e3, e4, e5⟩ := hu
  obtain ⟨g', cur, fr, f1, f2, f3, f4, f5⟩ := hs.ob 0 _ rfl
  rw [e1] at f1; cases f1
  have hlt : g < w.heap.size := heap_lt f3
  have hcell : ∀ (j : Nat) (hj : j < xs.length), cur[j]? = some (.int .i64 xs[j]) := fun j hj => by
    obtain ⟨u, h1, h2, h3⟩ := f5 j (.int .i64 xs[j]) (by simp [hj])
    simp only [RV] at h3
    rw [h1, h3]
  have ho : 0 < xs.length → o = 0 := fun h => e4 (by omega)
  have hH : Sort.Holds (Value.int .i64) w g o xs.toArray := fun j hj => by
    have hj' : j < xs.length := by simpa using hj
    obtain rfl := ho (by omega)
    have hc := hcell j hj'
    have hjs : j < cur.size := (Array.getElem?_eq_some_iff.1 hc).1
    refine ⟨?_, ?_⟩
    · rw [cell_of_heap f3, Nat.zero_add, hc, getElem!_pos _ j hj]; simp
    · exact frozen_of_heap f3 f4 (by simpa using hjs)
  refine (Try.slices_Sort_int g o cap xs w hH hlt hl).mono ?_
  rintro e w' ⟨rfl, n, os, rfl⟩
  refine ⟨M, _, .tup [], ⟨rfl, rfl⟩, ?_, by simp, ⟨sort_turn.mono fun k hk => ⟨0, (f2 k).2 hk⟩, fun n g hn => .inl ⟨n, hn⟩, fun _ _ => rfl⟩, ?_⟩
  · have := hs.update (n := 0) (by simp) (.arr 3 ((sortS xs).map (V.int .i64))) (sort_turn.mono fun k hk => (f2 k).2 hk) (w' := Sort.grow (Sort.putRow (Value.int .i64) (Sort.ahead w n) g o (sortS xs).toArray) os) ⟨g, Sort.putCells (Value.int .i64) o (sortS xs).toArray cur, fr, e1, f2, ?_, ?_, ?_⟩
    · exact this
    · rw [heap_sorted g hlt, if_pos rfl, f3]; rfl
    · simpa [Sort.putCells] using f4
    · intro j v hv
      have hlen : (sortS xs).length = xs.length := by simp [sortS]
      rw [List.getElem?_map] at hv
      cases hj : (sortS xs)[j]? with
      | none => simp [hj] at hv
      | some y =>
        simp [hj] at hv; subst hv
        have hj1 : j < (sortS xs).length := (List.getElem?_eq_some_iff.1 hj).1
        obtain rfl := ho (by omega)
        refine ⟨.int .i64 y, ?_, rfl, rfl⟩
        have hc := hcell j (by omega)
        rw [Sort.putCells, Array.getElem?_mapIdx, hc]
        simp only [Option.map_some, Nat.zero_le, Nat.zero_add, true_and, Nat.sub_zero]
        rw [if_pos (by simpa using hj1), getElem!_pos _ j (by simpa using hj1)]
        simp only [List.getElem_toArray]
        rw [(List.getElem?_eq_some_iff.1 hj).2]
  · simp [RV, RVs]

end Go.Proofs.Ytncnnbjhginpfaa
