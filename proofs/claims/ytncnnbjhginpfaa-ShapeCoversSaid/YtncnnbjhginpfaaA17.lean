/- Contracts: Peel, Closure, Peelable of the document's answer. Conditions: few numbers. -/
import Derived.Test.YtncnnbjhginpfaaA16
namespace Go.Proofs.Ytncnnbjhginpfaa
set_option linter.unusedVariables false
set_option linter.unusedSimpArgs false
set_option linter.unnecessarySimpa false
open Go.Proofs
set_option maxHeartbeats 8000000
set_option cbv.maxSteps 1000000
set_option maxRecDepth 100000
set_option pp.maxSteps 900

def toldV (T bs : List Int) : List V := (T.zip bs).flatMap fun p => [.int .i64 p.1, .int .i64 p.2]
theorem toldV_snoc {T bs : List Int} (h : bs.length = T.length) (x b : Int) : toldV (T ++ [x]) (bs ++ [b]) = toldV T bs ++ [.int .i64 x, .int .i64 b] := by
  simp [toldV, List.zip_append h.symm]
theorem toldV_len {T bs : List Int} (h : bs.length = T.length) : (toldV T bs).length = T.length * 2 := by
  induction T generalizing bs with
  | nil => simp [toldV]
  | cons x T ih =>
    cases bs with
    | nil => simp at h
    | cons b bs =>
      have := ih (bs := bs) (by simpa using h)
      simp [toldV] at this ⊢; omega
theorem toldV_get {T bs : List Int} (h : bs.length = T.length) {i : Nat} {x : Int} (hx : T[i]? = some x) : (toldV T bs)[i * 2]? = some (.int .i64 x) := by
  induction T generalizing bs i with
  | nil => simp at hx
  | cons y T ih =>
    cases bs with
    | nil => simp at h
    | cons b bs =>
      cases i with
      | zero => simp at hx; subst hx; simp [toldV]
      | succ i =>
        have := ih (bs := bs) (by simpa using h) (by simpa using hx)
        have e : (i + 1) * 2 = i * 2 + 1 + 1 := by omega
        rw [e]
        simpa [toldV] using this
attribute [cbv_opaque] toldV passTo passS peelS remS
@[cbv_eval] theorem closeds_told (T bs : List Int) : V.closeds (toldV T bs) = true := by
  have : ∀ (l : List (Int × Int)), V.closeds (l.flatMap fun p => [V.int .i64 p.1, V.int .i64 p.2]) = true := by
    intro l; induction l <;> simp_all [V.closeds, V.closed]
  exact this _

theorem refPeel_ok (known : List Int) (eqs : List (List Int)) (hk : known.length ≤ 1000) (he : eqs.length ≤ 1000) (hs : (eqs.map List.length).sum ≤ 1000) (hm : ∀ eq ∈ eqs, eq.length ≤ 1000) :
    ACalls Try.prog 52 [ints known, lists eqs] [] (fun o s => ∃ T bs, known ++ T = peelS eqs known ∧ bs.length = T.length ∧ T.length ≤ 1000 ∧ o = .ret (.frz (toldV T bs) T.length) ∧ s = []) := by
  refine ACalls.of_vc (fn := Try.f52) rfl rfl mixed ?_
  cbv
  refine ⟨by omega, by omega, fun z st => ∃ (T bs A : List Int), A = known ++ T ∧ bs.length = T.length ∧ peelS eqs A = peelS eqs known ∧ T.length + remS eqs A ≤ remS eqs known ∧ z = remS eqs A ∧
    st = ⟨mk 51 [(0, ints known), (1, lists eqs), (4, .nils), (5, .sl true 0 0 A.length), (6, .sl true 1 0 T.length)], [.arr 3 (A.map (V.int .i64)), .arr 73 (toldV T bs)]⟩, GS.keep [0,1,4,5,6] [1,2] rfl (GS.done ⟨_, [], [], known, by simp, rfl, rfl, by simp, rfl, rfl⟩), ?_⟩
  rintro z st ⟨T, bs, A, hA, hb, hp, hr, rfl, rfl⟩
  have hr0 := rem_le eqs known
  have hT : T.length ≤ 1000 := by omega
  have hAl : A.length ≤ 2000 := by rw [hA]; simp; omega
  cbv
  refine ⟨fun z st => ∃ (i : Nat) (ts cs B U bs' : List Int), passTo A eqs i = ts ∧ cs.length = ts.length ∧ B = A ++ ts ∧ U = T ++ ts ∧ bs' = bs ++ cs ∧ i ≤ eqs.length ∧ z = eqs.length - i ∧
    st = ⟨mk 51 [(0, ints known), (1, lists eqs), (4, .nils), (5, .sl true 0 0 B.length), (6, .sl true 1 0 U.length), (7, .int .i64 T.length), (8, .int .i64 i)], [.arr 3 (B.map (V.int .i64)), .arr 73 (toldV U bs')]⟩, GS.keep [0,1,4,5,6,7,8] [0,1] rfl (GS.done ⟨_, 0, [], [], A, T, bs, rfl, rfl, by simp, by simp, by simp, by omega, rfl, rfl⟩), ?_⟩
  rintro z st ⟨i, ts, cs, B, U, bs', hts, hcs, hB, hU, hbs', h2, rfl, rfl⟩
  have htl : ts.length ≤ i := by rw [← hts]; exact passTo_len _ _ _
  have hBl : B.length ≤ 3000 := by rw [hB]; simp; omega
  have hUl : U.length ≤ 2000 := by rw [hU]; simp; omega
  have hbl : bs'.length = U.length := by rw [hbs', hU]; simp [hb, hcs]
  have htv := toldV_len hbl
  cbv
  refine pcase.mk (fun h4 => ?_) (fun h4 => ?_)
  · have hk := nlt h4
    obtain ⟨eq, heq⟩ := get_some hk
    have heql := hm eq (List.mem_of_getElem? heq)
    have e1 := passTo_succ (all := A) heq
    rw [hts] at e1
    cbv
    refine ⟨_, ?_, fun s h => h⟩
    cbv
    refine ⟨h4, atK.mk (ints eq) (map_get heq) ?_⟩
    cbv
    refine callVC.lend [0] [.sl true 0 0 B.length, ints eq] [.arr 3 (B.map (V.int .i64))] _ rfl (by simp) rfl rfl (refOpenSl_ok B eq (by omega)) ?_
    rintro o s1 ⟨rfl, rfl⟩ -
    by_cases hx : ∃ x, openS B eq = [x]
    · obtain ⟨x, hx⟩ := hx
      have e2 : passTo A eqs (i + 1) = ts ++ [x] := by rw [e1]; exact passStep_one (by rw [← hB]; exact hx)
      rw [hx]
      cbv
      refine pcase.mk (fun _ => ?_) (fun h => absurd rfl h)
      cbv
      refine ⟨by decide, atK.mk (.int .i64 x) rfl ?_⟩
      cbv
      refine ⟨by omega, by omega, by omega, by decide, atK.mk (.int .i64 x) rfl ?_⟩
      cbv
      refine ⟨by omega, by omega, GS.done ?_⟩
      cbv
      refine GS.keep [0,1,4,5,6,7,8] [5,3] rfl (GS.done ⟨eqs.length - (i + 1), by omega, i + 1, ts ++ [x], cs ++ [(i : Int)], B ++ [x], U ++ [x], bs' ++ [(i : Int)], e2, by simp [hcs], by rw [hB, List.append_assoc], by rw [hU, List.append_assoc], by rw [hbs', List.append_assoc], by omega, rfl, ?_⟩)
      rw [w64n (by omega), toldV_snoc hbl, List.take_of_length_le (show (toldV U bs').length ≤ U.length * 2 by omega), List.take_of_length_le (show (B.map (V.int .i64)).length ≤ B.length by simp)]
      simp only [List.map_append, List.map_cons, List.map_nil, List.length_append, List.length_cons, List.length_nil]
      cbv
    · have hne : (openS B eq).length ≠ 1 := by
        intro h
        obtain ⟨x, hx'⟩ := List.length_eq_one_iff.1 h
        exact hx ⟨x, hx'⟩
      have e2 : passTo A eqs (i + 1) = ts := by rw [e1]; exact passStep_no (by rw [← hB]; exact hne)
      cbv
      refine pcase.mk (fun h => absurd (Int.ofNat.inj h) hne) (fun _ => ?_)
      cbv
      refine GS.done ?_
      cbv
      refine GS.keep [0,1,4,5,6,7,8] [0,1] rfl (GS.done ⟨eqs.length - (i + 1), by omega, i + 1, ts, cs, B, U, bs', e2, hcs, hB, hU, hbs', by omega, rfl, ?_⟩)
      rw [w64n (by omega)]
      cbv
  · have hk : i = eqs.length := by have := nge h4; omega
    subst hk
    rw [passTo_all] at hts
    have hrp := rem_pass A eqs
    rw [hts, ← hB] at hrp
    cbv
    refine pcase.mk (fun h5 => ?_) (fun h5 => ?_)
    · have hl0 : U.length = T.length := Int.ofNat.inj h5
      have ht0 : ts = [] := by
        have : U.length = T.length + ts.length := by rw [hU]; simp
        exact List.length_eq_zero_iff.1 (by omega)
      subst ht0
      obtain rfl : U = T := by rw [hU]; simp
      cbv
      refine GS.closeArr 0 1 U.length true 73 (toldV U bs') rfl rfl (by rw [tc73]; exact htv) (GS.keep [0] [] rfl (GS.done ⟨U, bs', ?_, hbl, hT, rfl, rfl⟩))
      rw [← hp, peelS_stop hts, hA]
    · have hne : ts ≠ [] := by
        rintro rfl
        exact h5 (by rw [hU]; simp)
      have htl : 0 < ts.length := List.length_pos_iff.2 hne
      have hUT : U.length = T.length + ts.length := by rw [hU]; simp
      have hpg : peelS eqs B = peelS eqs known := by
        rw [← hp, peelS_go (all := A) (by rw [hts]; exact hne), hts, hB]
      cbv
      refine GS.keep [0,1,4,5,6] [0,1] rfl (GS.done ⟨_, ?_, U, bs', B, by rw [hB, hA, hU, List.append_assoc], hbl, hpg, by omega, rfl, ?_⟩)
      · omega
      · cbv

theorem map_int_get {xs : List Int} {i : Nat} {x : Int} (h : xs[i]? = some x) : (xs.map (V.int .i64))[i]? = some (.int .i64 x) := by simp [h]

theorem refClosure_ok (known : List Int) (eqs : List (List Int)) (hk : known.length ≤ 1000) (he : eqs.length ≤ 1000) (hs : (eqs.map List.length).sum ≤ 1000) (hm : ∀ eq ∈ eqs, eq.length ≤ 1000) :
    ACalls Try.prog 47 [ints known, lists eqs] [] (Ret (ints (peelS eqs known)) []) := by
  generalize hX : peelS eqs known = X
  refine ACalls.of_vc (fn := Try.f47) rfl rfl mixed ?_
  cbv
  refine ⟨by omega, by omega, ?_⟩
  refine callVC.lend [] [ints known, lists eqs] [] _ rfl (by simp) rfl rfl (refPeel_ok known eqs hk he hs hm) ?_
  rintro o s1 ⟨T, bs, hT, hb, hT1, rfl, rfl⟩ -
  have htv := toldV_len hb
  cbv
  refine ⟨fun z st => ∃ (i : Nat) (B : List Int), B = known ++ T.take i ∧ i ≤ T.length ∧ z = T.length - i ∧ st = ⟨mk 30 [(4, .nils), (5, .sl true 0 0 B.length), (6, .frz (toldV T bs) T.length), (7, .int .i64 i)], [.arr 3 (B.map (V.int .i64))]⟩, GS.keep [4,5,6,7] [1] rfl (GS.done ⟨_, 0, known, by simp, by omega, rfl, rfl⟩), ?_⟩
  rintro z st ⟨i, B, hB, h2, rfl, rfl⟩
  have hlen : B.length = known.length + i := by rw [hB]; simp; omega
  cbv
  refine pcase.mk (fun h4 => ?_) (fun h4 => ?_)
  · have hi := nlt h4
    obtain ⟨x, hx⟩ := get_some hi
    have et : B ++ [x] = known ++ T.take (i + 1) := by rw [List.take_add_one, hx, hB, List.append_assoc]; rfl
    cbv
    refine ⟨h4, htv, atK.mk (.int .i64 x) (toldV_get hb hx) ?_⟩
    cbv
    refine ⟨by omega, by omega, ?_⟩
    refine GS.keep [4,5,6,7] [2] rfl (GS.done ⟨T.length - (i + 1), by omega, i + 1, B ++ [x], et, by omega, rfl, ?_⟩)
    rw [w64n (by omega), List.take_of_length_le (show (B.map (V.int .i64)).length ≤ B.length by simp)]
    simp only [List.map_append, List.map_cons, List.map_nil, List.length_append, List.length_cons, List.length_nil]
    cbv
  · have hi : i = T.length := by have := nge h4; omega
    subst hi
    obtain rfl : B = X := by rw [hB, List.take_length, hT, hX]
    cbv
    exact GS.closeArr 0 0 B.length true 3 (B.map (V.int .i64)) rfl rfl (by rw [tc3]; simp [Try.t3]) (GS.keep [0] [] rfl (GS.done ⟨rfl, rfl⟩))

def restTo (lost known : List Int) (k : Nat) : List Int := (known.take k).filter fun x => !inS lost x
def restS (lost known : List Int) : List Int := known.filter fun x => !inS lost x
def peelableS (lost known : List Int) (eqs : List (List Int)) : Bool := lost.all fun x => inS (peelS eqs (restS lost known)) x
attribute [cbv_opaque] restTo restS peelableS
theorem restTo_succ {lost known : List Int} {k : Nat} {x : Int} (h : known[k]? = some x) : restTo lost known (k + 1) = if inS lost x then restTo lost known k else restTo lost known k ++ [x] := by
  simp only [restTo, List.take_add_one, h, List.filter_append]
  cases e : inS lost x <;> simp [e]
theorem restTo_len (lost known : List Int) (k : Nat) : (restTo lost known k).length ≤ k := by
  refine Nat.le_trans (List.length_filter_le _ _) ?_; simp; omega

theorem refPeelable_ok (lost known : List Int) (eqs : List (List Int)) (hl : lost.length ≤ 1000) (hk : known.length ≤ 1000) (he : eqs.length ≤ 1000) (hs : (eqs.map List.length).sum ≤ 1000) (hm : ∀ eq ∈ eqs, eq.length ≤ 1000) :
    ACalls Try.prog 39 [ints lost, ints known, lists eqs] [] (Ret (.bool (peelableS lost known eqs)) []) := by
  have hX : peelableS lost known eqs = lost.all fun x => inS (peelS eqs (restS lost known)) x := rfl
  have hrest : restTo lost known known.length = restS lost known := by rw [restTo, List.take_length]; rfl
  generalize peelableS lost known eqs = X at hX
  refine ACalls.of_vc (fn := Try.f39) rfl rfl mixed ?_
  cbv
  refine ⟨fun z st => ∃ (k : Nat) (G : List Int), restTo lost known k = G ∧ k ≤ known.length ∧ z = known.length - k ∧ st = ⟨mk 48 [(0, ints lost), (1, ints known), (2, lists eqs), (6, .bool false), (7, .sl true 0 0 G.length), (8, .int .i64 k)], [.arr 3 (G.map (V.int .i64))]⟩, GS.keep [0,1,2,6,7,8] [0] rfl (GS.done ⟨_, 0, [], rfl, by omega, rfl, rfl⟩), ?_⟩
  rintro z st ⟨k, G, hG, h2, rfl, rfl⟩
  have hGl : G.length ≤ k := by rw [← hG]; exact restTo_len _ _ _
  cbv
  refine pcase.mk (fun h4 => ?_) (fun h4 => ?_)
  · have hi := nlt h4
    obtain ⟨x, hx⟩ := get_some hi
    have e1 := restTo_succ (lost := lost) hx
    rw [hG] at e1
    cbv
    refine ⟨_, ?_, fun s h => h⟩
    cbv
    refine ⟨h4, atK.mk (.int .i64 x) (map_int_get hx) ?_⟩
    cbv
    refine callVC.pure (in_ok lost x) rfl rfl ?_
    cbv
    cases h5 : inS lost x with
    | true =>
      rw [h5, if_pos rfl] at e1
      cbv
      refine GS.done ?_
      cbv
      refine GS.keep [0,1,2,6,7,8] [0] rfl (GS.done ⟨known.length - (k + 1), by omega, k + 1, G, e1, by omega, rfl, ?_⟩)
      rw [w64n (by omega)]
      cbv
    | false =>
      rw [h5, if_neg (by simp)] at e1
      cbv
      refine ⟨h4, atK.mk (.int .i64 x) (map_int_get hx) ?_⟩
      cbv
      refine ⟨by omega, by omega, GS.done ?_⟩
      cbv
      refine GS.keep [0,1,2,6,7,8] [2] rfl (GS.done ⟨known.length - (k + 1), by omega, k + 1, _, e1, by omega, rfl, ?_⟩)
      rw [w64n (by omega), List.take_of_length_le (by simp)]
      simp only [List.map_append, List.map_cons, List.map_nil, List.length_append, List.length_cons, List.length_nil]
      cbv
  · have hi : k = known.length := by have := nge h4; omega
    subst hi
    rw [hrest] at hG
    rw [hG] at hX
    cbv
    refine callVC.close [ints G, lists eqs] [.froz 3 (G.map (V.int .i64))] (closeVs_cons (closeV_row (by rfl) (by rw [tc3]; simp [Try.t3])) (by rfl)) (refClosure_ok G eqs (by omega) he hs hm) rfl rfl ?_
    cbv
    refine ⟨fun z st => ∃ k : Nat, k ≤ lost.length ∧ z = lost.length - k ∧ ((lost.take k).all fun x => inS (peelS eqs G) x) = true ∧ st = ⟨mk 48 [(0, ints lost), (6, .bool false), (9, ints (peelS eqs G)), (10, .int .i64 k)], []⟩, GS.keep [0,6,9,10] [] rfl (GS.done ⟨_, 0, by omega, rfl, by simp, rfl⟩), ?_⟩
    rintro z st ⟨k, h2, rfl, h3, rfl⟩
    cbv
    refine pcase.mk (fun h7 => ?_) (fun h7 => ?_)
    · have hi := nlt h7
      obtain ⟨x, hx⟩ := get_some hi
      cbv
      refine ⟨h7, atK.mk (.int .i64 x) (map_int_get hx) ?_⟩
      cbv
      refine callVC.pure (in_ok (peelS eqs G) x) rfl rfl ?_
      cbv
      cases h8 : inS (peelS eqs G) x with
      | true =>
        cbv
        refine GS.keep [0,6,9,10] [] rfl (GS.done ⟨lost.length - (k + 1), by omega, k + 1, by omega, rfl, by rw [List.take_add_one, hx, List.all_append, h3]; simp [h8], ?_⟩)
        rw [w64n (by omega)]
        cbv
      | false =>
        cbv
        refine GS.keep [0] [] rfl (GS.done ⟨?_, rfl⟩)
        have : X = false := by
          rw [hX, List.all_eq_false]
          exact ⟨x, List.mem_of_getElem? hx, by simp [h8]⟩
        rw [this]; rfl
    · have hi : k = lost.length := by have := nge h7; omega
      subst hi
      rw [List.take_length] at h3
      cbv
      refine GS.keep [0] [] rfl (GS.done ⟨?_, rfl⟩)
      have : X = true := by rw [hX, h3]
      rw [this]; rfl

end Go.Proofs.Ytncnnbjhginpfaa
