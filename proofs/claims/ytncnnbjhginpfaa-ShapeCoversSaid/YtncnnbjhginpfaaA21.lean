/- Contract: Peelable by maps. Conditions: few numbers. -/
import Derived.Test.YtncnnbjhginpfaaA20
namespace Go.Proofs.Ytncnnbjhginpfaa
set_option linter.unusedVariables false
set_option linter.unusedSimpArgs false
set_option linter.unnecessarySimpa false
open Go.Proofs
set_option maxHeartbeats 8000000
set_option cbv.maxSteps 1000000
set_option maxRecDepth 100000
set_option pp.maxSteps 900

theorem callVC.closeL {P : Program} {f : FuncId} {args : List V} {st : St} {k kp : V → St → Prop} (args' : List V) (σ' : List Ob) (he : closeVs P args st.σ = (args', σ')) (ns : List Nat) (args2 : List V) (σ : List Ob) (R : Out → List Ob → Prop) (hn : nodupB ns = true) (hl : ∀ n ∈ ns, n < σ'.length)
    (hr : V.rens (idx ns) args' = args2) (hs : sel ns σ' = σ) (hc : ACalls P f args2 σ R)
    (hk : ∀ o s, R o s → ns.length ≤ s.length → match o with
      | .ret v => k (v.ren (back ns σ'.length)) { st with σ := merge ns σ' s }
      | .pan v => kp (v.ren (back ns σ'.length)) { st with σ := merge ns σ' s }) : callVC P f args st k kp := by
  refine .inr (.inr ?_)
  rw [he]
  exact ⟨ns, R, nodupB_spec hn, hl, by rw [hr, hs]; exact hc, hk⟩

theorem ACalls.nil0 {P : Program} {f : FuncId} {rest : List V} {σ : List Ob} {R : Out → List Ob → Prop} (h : ACalls P f (.frz [] 0 :: rest) σ R) : ACalls P f (.nils :: rest) σ R := by
  refine ⟨h.1, fun X M w us hs hv => h.2 X M w us hs ?_⟩
  simp only [RVs] at hv ⊢
  obtain ⟨u, us', e, h1, h2⟩ := hv
  exact ⟨u, us', e, h1.weak, h2⟩

theorem remS_cong {A B : List Int} (h : ∀ x, inS A x = inS B x) (eqs : List (List Int)) : remS eqs A = remS eqs B := by
  unfold remS; congr 2; funext x; rw [h]
theorem peelGo_cong (eqs : List (List Int)) : ∀ (f : Nat) (A B : List Int), (∀ x, inS A x = inS B x) → ∀ x, inS (peelGo eqs f A) x = inS (peelGo eqs f B) x := by
  intro f
  induction f with
  | zero => intro A B h; exact h
  | succ f ih =>
    intro A B h
    unfold peelGo
    rw [passS_cong h eqs]
    split
    · exact h
    · exact ih _ _ fun x => by rw [inS_append, inS_append, h]
theorem peelS_cong {A B : List Int} (h : ∀ x, inS A x = inS B x) (eqs : List (List Int)) (x : Int) : inS (peelS eqs A) x = inS (peelS eqs B) x := by
  unfold peelS; rw [remS_cong h]; exact peelGo_cong eqs _ A B h x

theorem peelable_ok (lost known : List Int) (eqs : List (List Int)) (hl : lost.length ≤ 1000) (hk : known.length ≤ 1000) (he : eqs.length ≤ 1000) (hs : (eqs.map List.length).sum ≤ 1000) (hm : ∀ eq ∈ eqs, eq.length ≤ 1000) :
    ACalls Try.prog 46 [ints lost, ints known, lists eqs] [] (Ret (.bool (peelableS lost known eqs)) []) := by
  have hX : peelableS lost known eqs = lost.all fun x => inS (peelS eqs (restS lost known)) x := rfl
  have hrest : restTo lost known known.length = restS lost known := by rw [restTo, List.take_length]; rfl
  have hset := set_ok lost (by omega)
  have hdd := inS_dd lost
  generalize ddS lost = L at hset hdd
  generalize peelableS lost known eqs = X at hX
  refine ACalls.of_vc (fn := Try.f46) rfl rfl mixed ?_
  cbv
  refine callVC.lend [] [ints lost] [] _ rfl (by simp) rfl rfl hset ?_
  rintro o s1 ⟨rfl, rfl⟩ -
  cbv
  refine ⟨fun z st => ∃ (k : Nat) (G : List Int), restTo lost known k = G ∧ k ≤ known.length ∧ z = known.length - k ∧ st = ⟨mk 45 [(0, ints lost), (1, ints known), (2, lists eqs), (6, .bool false), (7, .mp 0), (8, rowV 1 G.length), (16, ints known), (17, .int .i64 known.length), (18, .int .i64 k)], [mpO L, rowO (.arr 3 (G.map (V.int .i64))) G.length]⟩, GS.ghost (GS.keep [0,1,2,6,7,8,16,17,18] [0,1] rfl (GS.done ⟨_, 0, [], rfl, by omega, rfl, rfl⟩)), ?_⟩
  rintro z st ⟨k, G, hG, h2, rfl, rfl⟩
  have hGl : G.length ≤ k := by rw [← hG]; exact restTo_len _ _ _
  cbv
  refine pcase.mk (fun h4 => ?_) (fun h4 => ?_)
  · have hi := nlt h4
    obtain ⟨x, hx⟩ := get_some hi
    have e1 := restTo_succ (lost := lost) hx
    rw [hG, ← hdd] at e1
    cbv
    refine ⟨_, ?_, fun s h => h⟩
    cbv
    refine ⟨h4, atK.mk (.int .i64 x) (map_int_get hx) ?_⟩
    cbv
    cases h5 : inS L x with
    | true =>
      rw [h5, if_pos rfl] at e1
      cbv
      refine GS.done ?_
      cbv
      refine GS.keep [0,1,2,6,7,8,16,17,18] [0,1] rfl (GS.done ⟨known.length - (k + 1), by omega, k + 1, G, e1, by omega, rfl, ?_⟩)
      rw [w64n (by omega)]
      cbv
    | false =>
      rw [h5, if_neg (by simp)] at e1
      have e7 : rowO (.arr 3 ((G ++ [x]).map (V.int .i64))) (G ++ [x]).length = .arr 3 (G.map (V.int .i64) ++ [.int .i64 x]) := by rw [rowO1 (by simp)]; simp
      by_cases hz : G = []
      · subst hz
        cbv
        refine ⟨fun hh => absurd hh (by decide), fun hh => ?_⟩
        cbv
        refine GS.done ?_
        cbv
        refine GS.keep [0,1,2,6,7,8,16,17,18] [0,3] rfl (GS.done ⟨known.length - (k + 1), by omega, k + 1, _, e1, by omega, rfl, ?_⟩)
        rw [w64n (by omega), e7]
        cbv
      · have hz' : G.length ≠ 0 := fun h => hz (List.length_eq_zero_iff.1 h)
        rw [rowV1 hz', rowO1 hz']
        cbv
        refine ⟨by omega, by omega, GS.done ?_⟩
        cbv
        refine GS.keep [0,1,2,6,7,8,16,17,18] [0,3] rfl (GS.done ⟨known.length - (k + 1), by omega, k + 1, _, e1, by omega, rfl, ?_⟩)
        rw [w64n (by omega), e7, List.take_of_length_le (by simp), rowV1 (by simp)]
        cbv
  · have hi : k = known.length := by have := nge h4; omega
    subst hi
    rw [hrest] at hG
    rw [hG] at hX
    have hclo := closure_ok G eqs (by omega) he hs hm
    have hmem := peelS_cong (inS_dd G) eqs
    generalize peelS eqs (ddS G) = W at hclo hmem
    by_cases hz : G = []
    · subst hz
      cbv
      refine callVC.lend [] [.nils, lists eqs] [] _ rfl (by simp) rfl rfl (ACalls.nil0 hclo) ?_
      rintro o s1 ⟨rfl, rfl⟩ -
      cbv
      refine ⟨fun z st => ∃ k : Nat, k ≤ lost.length ∧ z = lost.length - k ∧ ((lost.take k).all fun x => inS W x) = true ∧ st = ⟨mk 45 [(6, .bool false), (11, .mp 0), (34, ints lost), (35, .int .i64 lost.length), (36, .int .i64 k)], [mpO W]⟩, GS.keep [6,11,34,35,36] [2] rfl (GS.done ⟨_, 0, by omega, rfl, by simp, rfl⟩), ?_⟩
      rintro z st ⟨k, h2, rfl, h3, rfl⟩
      cbv
      refine pcase.mk (fun h7 => ?_) (fun h7 => ?_)
      · have hi := nlt h7
        obtain ⟨x, hx⟩ := get_some hi
        cbv
        refine ⟨h7, atK.mk (.int .i64 x) (map_int_get hx) ?_⟩
        cbv
        cases h8 : inS W x with
        | true =>
          cbv
          refine GS.keep [6,11,34,35,36] [0] rfl (GS.done ⟨lost.length - (k + 1), by omega, k + 1, by omega, rfl, by rw [List.take_add_one, hx, List.all_append, h3]; simp [h8], ?_⟩)
          rw [w64n (by omega)]
          cbv
        | false =>
          cbv
          refine GS.keep [0] [] rfl (GS.done ⟨?_, rfl⟩)
          have : X = false := by
            rw [hX, List.all_eq_false]
            exact ⟨x, List.mem_of_getElem? hx, by simp [← hmem, h8]⟩
          rw [this]; rfl
      · have hi : k = lost.length := by have := nge h7; omega
        subst hi
        rw [List.take_length] at h3
        cbv
        refine GS.keep [0] [] rfl (GS.done ⟨?_, rfl⟩)
        have : X = true := by rw [hX, ← h3]; congr 1; funext x; rw [hmem]
        rw [this]; rfl
    · have hz' : G.length ≠ 0 := fun h => hz (List.length_eq_zero_iff.1 h)
      rw [rowV1 hz', rowO1 hz']
      cbv
      refine callVC.closeL [ints G, lists eqs] [mpO L, .froz 3 (G.map (V.int .i64))] (closeVs_cons (closeV_row (by rfl) (by rw [tc3]; simp [Try.t3])) (by rfl)) [] [ints G, lists eqs] [] _ rfl (by simp) rfl rfl hclo ?_
      rintro o s1 ⟨rfl, rfl⟩ -
      cbv
      refine ⟨fun z st => ∃ k : Nat, k ≤ lost.length ∧ z = lost.length - k ∧ ((lost.take k).all fun x => inS W x) = true ∧ st = ⟨mk 45 [(6, .bool false), (11, .mp 0), (34, ints lost), (35, .int .i64 lost.length), (36, .int .i64 k)], [mpO W]⟩, GS.keep [6,11,34,35,36] [2] rfl (GS.done ⟨_, 0, by omega, rfl, by simp, rfl⟩), ?_⟩
      rintro z st ⟨k, h2, rfl, h3, rfl⟩
      cbv
      refine pcase.mk (fun h7 => ?_) (fun h7 => ?_)
      · have hi := nlt h7
        obtain ⟨x, hx⟩ := get_some hi
        cbv
        refine ⟨h7, atK.mk (.int .i64 x) (map_int_get hx) ?_⟩
        cbv
        cases h8 : inS W x with
        | true =>
          cbv
          refine GS.keep [6,11,34,35,36] [0] rfl (GS.done ⟨lost.length - (k + 1), by omega, k + 1, by omega, rfl, by rw [List.take_add_one, hx, List.all_append, h3]; simp [h8], ?_⟩)
          rw [w64n (by omega)]
          cbv
        | false =>
          cbv
          refine GS.keep [0] [] rfl (GS.done ⟨?_, rfl⟩)
          have : X = false := by
            rw [hX, List.all_eq_false]
            exact ⟨x, List.mem_of_getElem? hx, by simp [← hmem, h8]⟩
          rw [this]; rfl
      · have hi : k = lost.length := by have := nge h7; omega
        subst hi
        rw [List.take_length] at h3
        cbv
        refine GS.keep [0] [] rfl (GS.done ⟨?_, rfl⟩)
        have : X = true := by rw [hX, ← h3]; congr 1; funext x; rw [hmem]
        rw [this]; rfl
end Go.Proofs.Ytncnnbjhginpfaa
