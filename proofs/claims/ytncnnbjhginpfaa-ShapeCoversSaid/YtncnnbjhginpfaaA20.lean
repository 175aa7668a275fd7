/- Contracts: Peel, Closure by maps. Conditions: few numbers. -/
import Derived.Test.YtncnnbjhginpfaaA19
namespace Go.Proofs.Ytncnnbjhginpfaa
set_option linter.unusedVariables false
set_option linter.unusedSimpArgs false
set_option linter.unnecessarySimpa false
open Go.Proofs
set_option maxHeartbeats 8000000
set_option cbv.maxSteps 1000000
set_option maxRecDepth 100000
set_option pp.maxSteps 2500

def peelR (known : List Int) (eqs : List (List Int)) (o : Out) (s : List Ob) : Prop := o = .ret (.fn (.func 72) [] [.ptr 0 0, .ptr 1 0]) ∧ s = [.var 33 [ints known], .var 27 [lists eqs]]
theorem peel_ok (known : List Int) (eqs : List (List Int)) : ACalls Try.prog 64 [ints known, lists eqs] [] (peelR known eqs) := by
  refine ACalls.of_vc (fn := Try.f64) rfl rfl mixed ?_
  cbv
  refine GS.keep [0] [0,1] rfl (GS.done ⟨?_, ?_⟩)
  · rfl
  · rfl

theorem roundVC.lend {P : Program} {m : Nat} {args : List V} {st : St} {k kp : V → St → Prop} (ns : List Nat) (i : Nat) (args' : List V) (σ : List Ob) (R : Out → List Ob → Prop) (hn : nodupB ns = true) (hl : ∀ n ∈ ns, n < st.σ.length)
    (hi : ns[i]? = some m) (he : V.rens (idx ns) args = args') (hs : sel ns st.σ = σ) (hc : ARound P i args' σ R)
    (hk : ∀ o σ', R o σ' → ns.length ≤ σ'.length → match o with
      | .ret v => k (v.ren (back ns st.σ.length)) { st with σ := merge ns st.σ σ' }
      | .pan v => kp (v.ren (back ns st.σ.length)) { st with σ := merge ns st.σ σ' }) : roundVC P m args st k kp :=
  ⟨ns, i, R, nodupB_spec hn, hl, hi, by rw [he, hs]; exact hc, hk⟩
def firstRange : Code → Option (Array Tmp × Code × Code)
  | .rangeFunc _ ps a b => some (ps, a, b)
  | .seq a b => (match firstRange a with | some r => some r | none => firstRange b)
  | .cond _ a b => (match firstRange a with | some r => some r | none => firstRange b)
  | .block _ c => firstRange c
  | .loop c => firstRange c
  | _ => none
def fnAt (P : Program) (i : Nat) : Option Func := P.funcs[i]?
def rangeOf (f : Option Func) : Array Tmp × Code × Code := match f with
  | some f => (match f.body with | some c => (firstRange c).getD (#[], .skip, .skip) | none => (#[], .skip, .skip))
  | none => (#[], .skip, .skip)
def nms (a b c d : Option Nat) : Nat → Option Nat | 0 => a | 1 => b | 2 => c | 3 => d | _ => none
def ltmps (known : List Int) (eqs : List (List Int)) : List V := mk 17 [(0, ints known), (1, lists eqs), (4, .nilm), (5, .ptr 1 0), (7, ints known), (8, .mp 0), (9, ints known), (10, lists eqs), (11, .fn (.func 72) [] [.ptr 2 0, .ptr 3 0])]
def loopW (f : Option Func) (a b c d : Option Nat) (known : List Int) (eqs : List (List Int)) : Ob :=
  .loop ⟨V.rens (nms a b c d) (ltmps known eqs), (rangeOf f).1, (rangeOf f).2.1, (rangeOf f).2.2, .ready, none⟩
def obind (a : Option Nat) (π : Nat → Option Nat) : Option Nat := match a with | some n => π n | none => none
@[cbv_eval] theorem obr_loopW (f : Option Func) (π : Nat → Option Nat) (a b c d : Option Nat) (known : List Int) (eqs : List (List Int)) : Ob.ren π (loopW f a b c d known eqs) = loopW f (obind a π) (obind b π) (obind c π) (obind d π) known eqs := by
  unfold loopW
  rw [obr_loop]
  congr 2
  show V.rens π (V.rens (nms a b c d) (ltmps known eqs)) = V.rens (nms (obind a π) (obind b π) (obind c π) (obind d π)) (ltmps known eqs)
  unfold ltmps
  cases a <;> cases b <;> cases c <;> cases d <;> cbv
def sto (f : Option Func) (A known : List Int) (eqs : List (List Int)) : List Ob := [mpO A, .var 67 [.mp 0], .var 33 [ints known], .var 27 [lists eqs], loopW f (some 0) (some 1) (some 2) (some 3) known eqs]

theorem round1_ok (known A : List Int) (eqs : List (List Int)) (x b : Int) (h : inS A x = false) (hA : A.length ≤ 200000) : ARound Try.prog 4 [.int .i64 x, .int .i64 b] (sto (fnAt Try.prog 51) A known eqs) (Ret (.bool true) (sto (fnAt Try.prog 51) (A ++ [x]) known eqs)) := by
  rw [show fnAt Try.prog 51 = some Try.f51 from rfl]
  refine ARound.of_vc mixed ?_
  cbv
  rw [h]
  cbv
  exact GS.done ⟨rfl, rfl⟩
def toldB (ts : List Int) : Bool := !ts.isEmpty
theorem toldB_snoc (ts : List Int) (x : Int) : toldB (ts ++ [x]) = true := by simp [toldB]
attribute [cbv_opaque] loopW fnAt toldB entryStoreVC
theorem fi_last (ys : List Int) (x : Int) : (mpL ys ++ [(V.int .i64 x, V.bool false, ys.length)]).findIdx? (fun e => (e.2.2 : Int) == (ys.length : Int)) = some ys.length := by
  rw [List.findIdx?_eq_some_iff_getElem]
  refine ⟨by simp [mpL_len], ?_, ?_⟩
  · rw [List.getElem_append_right (by simp [mpL_len])]; simp [mpL_len]
  · intro j hj
    rw [List.getElem_append_left (by rw [mpL_len]; exact hj)]
    simp [mpL, mpG]
    omega
theorem entryVC {P : Program} {n : Nat} {ys : List Int} {x : Int} {st : St} {k : V → St → Prop} (h : st.σ[n]? = some (.map (mpL ys ++ [(.int .i64 x, .bool false, ys.length)]) (ys.length + 1)))
    (hk : k .undef { st with σ := st.σ.set n (.map (mpP ys ys.length x) (ys.length + 1)) }) : entryStoreVC P (.mp n) (.int .i64 (ys.length : Int)) (.bool true) st k := by
  refine ⟨rfl, rfl, ?_⟩
  show (match st.σ[n]? with | some (.map es c) => _ | _ => False)
  rw [h]
  show (match (mpL ys ++ [(V.int .i64 x, V.bool false, ys.length)]).findIdx? (fun e => (e.2.2 : Int) == (ys.length : Int)) with | some i => _ | none => False)
  rw [fi_last]
  have e : (mpL ys ++ [(V.int .i64 x, V.bool false, ys.length)])[ys.length]? = some (.int .i64 x, .bool false, ys.length) := by
    rw [List.getElem?_append_right (by rw [mpL_len]; exact Nat.le_refl _)]; simp [mpL_len]
  simp only [e]
  have e2 : (mpL ys ++ [(V.int .i64 x, V.bool false, ys.length)]).set ys.length (.int .i64 x, .bool true, ys.length) = mpP ys ys.length x := by
    rw [List.set_append_right _ _ (by rw [mpL_len]; exact Nat.le_refl _), mpL_len, Nat.sub_self]; rfl
  show k .undef { st with σ := st.σ.set n (.map ((mpL ys ++ [(V.int .i64 x, V.bool false, ys.length)]).set ys.length (.int .i64 x, .bool true, ys.length)) (ys.length + 1)) }
  rw [e2]
  exact hk
@[cbv_eval] theorem toldB_nil : toldB [] = false := rfl
theorem passStep_eq {A ts eq : List Int} {x : Int} (h : openS (A ++ ts) eq = [x]) : inS (A ++ ts) x = false := (openS_mem (by rw [h]; simp : x ∈ openS (A ++ ts) eq)).2

theorem round_ok (known A : List Int) (eqs : List (List Int)) (hA : A.length ≤ 100000) (he : eqs.length ≤ 1000) (hm : ∀ eq ∈ eqs, eq.length ≤ 1000) :
    ACalls Try.prog 73 [.mp 5, lists eqs, .yld 4] (sto (fnAt Try.prog 51) A known eqs ++ [mpO A]) (Ret (.tup [.bool (toldB (passS A eqs)), .bool true]) (sto (fnAt Try.prog 51) (A ++ passS A eqs) known eqs ++ [mpO (A ++ passS A eqs)])) := by
  rw [← passTo_all]
  refine ACalls.of_vc (fn := Try.f73) rfl rfl mixed ?_
  cbv
  refine ⟨fun z st => ∃ (i : Nat) (ts B : List Int), passTo A eqs i = ts ∧ B = A ++ ts ∧ i ≤ eqs.length ∧ z = eqs.length - i ∧ st = ⟨mk 40 [(0, .mp 5), (1, lists eqs), (2, .yld 4), (6, .bool (toldB ts)), (7, .bool false), (11, lists eqs), (12, .int .i64 eqs.length), (13, .int .i64 i)], sto (fnAt Try.prog 51) B known eqs ++ [mpO B]⟩, GS.keep [0,1,2,6,7,11,12,13] [0,1,2,3,4,5] rfl (GS.done ⟨_, 0, [], A, rfl, by simp, by omega, rfl, ?_⟩), ?_⟩
  · cbv
  rintro z st ⟨i, ts, B, hts, hB, h2, rfl, rfl⟩
  have htl : ts.length ≤ i := by rw [← hts]; exact passTo_len _ _ _
  have hBl : B.length ≤ 200000 := by rw [hB]; simp; omega
  cbv
  refine pcase.mk (fun h4 => ?_) (fun h4 => ?_)
  · have hk := nlt h4
    obtain ⟨eq, heq⟩ := get_some hk
    have heql := hm eq (List.mem_of_getElem? heq)
    have e1 := passTo_succ (all := A) heq
    rw [hts] at e1
    cbv
    refine ⟨_, ?_, fun s h => h⟩
    cbv
    refine ⟨h4, atK.mk (ints eq) (map_get heq) ?_⟩
    cbv
    refine callVC.lend [5] [.mp 0, ints eq] [mpO B] _ rfl (by simp) rfl rfl (open_ok B eq (by omega)) ?_
    rintro o s1 ⟨rfl, rfl⟩ -
    by_cases hx : ∃ x, openS B eq = [x]
    · obtain ⟨x, hx⟩ := hx
      have e2 : passTo A eqs (i + 1) = ts ++ [x] := by rw [e1]; exact passStep_one (by rw [← hB]; exact hx)
      have e3 : inS B x = false := by rw [hB] at hx ⊢; exact passStep_eq hx
      rw [hx]
      cbv
      refine pcase.mk (fun _ => ?_) (fun h => absurd rfl h)
      cbv
      refine ⟨by decide, atK.mk (.int .i64 x) rfl ?_⟩
      cbv
      rw [e3]
      cbv
      refine entryVC rfl ?_
      cbv
      refine ⟨by decide, atK.mk (.int .i64 x) rfl ?_⟩
      cbv
      refine roundVC.lend [0,1,2,3,4] 4 [.int .i64 x, .int .i64 i] (sto (fnAt Try.prog 51) B known eqs) _ rfl (by simp) rfl rfl (by cbv) (round1_ok known B eqs x i e3 (by omega)) ?_
      rintro o s1 ⟨rfl, rfl⟩ -
      cbv
      refine GS.done ?_
      cbv
      refine GS.keep [0,1,2,6,7,11,12,13] [0,1,2,3,4,5] rfl (GS.done ⟨eqs.length - (i + 1), by omega, i + 1, ts ++ [x], B ++ [x], e2, by rw [hB, List.append_assoc], by omega, rfl, ?_⟩)
      rw [w64n (by omega), toldB_snoc]
      cbv
    · have hne : (openS B eq).length ≠ 1 := by
        intro h
        obtain ⟨x, hx'⟩ := List.length_eq_one_iff.1 h
        exact hx ⟨x, hx'⟩
      have e2 : passTo A eqs (i + 1) = ts := by rw [e1]; exact passStep_no (by rw [← hB]; exact hne)
      cbv
      refine pcase.mk (fun h => absurd (Int.ofNat.inj h) hne) (fun _ => ?_)
      cbv
      refine GS.done ?_
      cbv
      refine GS.keep [0,1,2,6,7,11,12,13] [0,1,2,3,4,5] rfl (GS.done ⟨eqs.length - (i + 1), by omega, i + 1, ts, B, e2, hB, by omega, rfl, ?_⟩)
      rw [w64n (by omega)]
      cbv
  · have hk : i = eqs.length := by have := nge h4; omega
    subst hk
    obtain rfl : passTo A eqs eqs.length = ts := hts
    cbv
    refine GS.keep [0] [0,1,2,3,4,5] rfl (GS.done ⟨rfl, ?_⟩)
    rw [hB]
    cbv

theorem peel1_ok (known : List Int) (eqs : List (List Int)) (hk : known.length ≤ 1000) (he : eqs.length ≤ 1000) (hs : (eqs.map List.length).sum ≤ 1000) (hm : ∀ eq ∈ eqs, eq.length ≤ 1000) :
    ACalls Try.prog 72 [.yld 4, .ptr 2 0, .ptr 3 0] (sto (fnAt Try.prog 51) (ddS known) known eqs) (fun o s => (∃ v, o = .ret v) ∧ s = sto (fnAt Try.prog 51) (peelS eqs (ddS known)) known eqs) := by
  have hD := dd_len known
  have hset := set_ok known (by omega)
  generalize ddS known = D at hD hset ⊢
  generalize hX : peelS eqs D = X
  refine ACalls.of_vc (fn := Try.f72) rfl rfl mixed ?_
  cbv
  refine callVC.lend [] [ints known] [] _ rfl (by simp) rfl rfl hset ?_
  rintro o s1 ⟨rfl, rfl⟩ -
  cbv
  refine ⟨fun z st => ∃ (A : List Int) (b : Bool), peelS eqs A = X ∧ (b = false → passS A eqs = []) ∧ A.length + remS eqs A ≤ D.length + remS eqs D ∧ z = 2 * remS eqs A + b.toNat ∧
    st = ⟨mk 20 [(0, .yld 4), (1, .ptr 2 0), (2, .ptr 3 0), (4, .mp 5), (5, .bool b), (6, .bool true)], sto (fnAt Try.prog 51) A known eqs ++ [mpO A]⟩, GS.keep [0,1,2,4,5,6] [0,1,2,3,4,5] rfl (GS.done ⟨_, D, true, hX, by simp, Nat.le_refl _, rfl, ?_⟩), ?_⟩
  · cbv
  rintro z st ⟨A, b, hp, hb, hr, rfl, rfl⟩
  have hr0 := rem_le eqs D
  have hro := round_ok known A eqs (by omega) he hm
  have hrp := rem_pass A eqs
  have hgo := @peelS_go eqs A
  have hst := @peelS_stop eqs A
  generalize hps : passS A eqs = ts at hro hrp hgo hst hb
  cases b with
  | true =>
    cbv
    refine callVC.lend [0,1,2,3,4,5] [.mp 5, lists eqs, .yld 4] (sto (fnAt Try.prog 51) A known eqs ++ [mpO A]) _ rfl (by simp) rfl (by cbv) hro ?_
    rintro o s1 ⟨rfl, rfl⟩ -
    by_cases ht : ts = []
    · subst ht
      rw [List.append_nil]
      cbv
      refine GS.keep [0,1,2,4,5,6] [0,1,2,3,4,5] rfl (GS.done ⟨2 * remS eqs A + 0, by show _ < 2 * remS eqs A + 1; omega, A, false, hp, fun _ => hps, hr, rfl, ?_⟩)
      cbv
    · have hl : 0 < ts.length := List.length_pos_iff.2 ht
      have e1 : toldB ts = true := by cases ts with | nil => exact absurd rfl ht | cons _ _ => rfl
      have e2 : peelS eqs (A ++ ts) = X := by rw [← hgo ht, hp]
      have e3 : (A ++ ts).length = A.length + ts.length := by simp
      generalize A ++ ts = A1 at hrp e2 e3
      rw [e1]
      cbv
      refine GS.keep [0,1,2,4,5,6] [0,1,2,3,4,5] rfl (GS.done ⟨2 * remS eqs A1 + 1, ?_, A1, true, e2, by simp, by omega, rfl, ?_⟩)
      · show _ < 2 * remS eqs A + 1
        omega
      · cbv
  | false =>
    obtain rfl : X = A := by rw [← hp, hst (hb rfl)]
    cbv
    exact GS.keep [0] [0,1,2,3,4] rfl (GS.done ⟨⟨_, rfl⟩, rfl⟩)
theorem closure_ok (known : List Int) (eqs : List (List Int)) (hk : known.length ≤ 1000) (he : eqs.length ≤ 1000) (hs : (eqs.map List.length).sum ≤ 1000) (hm : ∀ eq ∈ eqs, eq.length ≤ 1000) : ACalls Try.prog 51 [ints known, lists eqs] [] (Ret (.mp 0) [mpO (peelS eqs (ddS known))]) := by
  generalize hX : peelS eqs (ddS known) = X
  refine ACalls.of_vc (fn := Try.f51) rfl rfl mixed ?_
  cbv
  refine callVC.lend [] [ints known] [] _ rfl (by simp) rfl rfl (set_ok known (by omega)) ?_
  rintro o s1 ⟨rfl, rfl⟩ -
  cbv
  refine callVC.lend [] [ints known, lists eqs] [] _ rfl (by simp) rfl rfl (peel_ok known eqs) ?_
  rintro o s1 ⟨rfl, rfl⟩ -
  cbv
  refine callVC.lend [0,1,2,3,4] [.yld 4, .ptr 2 0, .ptr 3 0] (sto (fnAt Try.prog 51) (ddS known) known eqs) _ rfl (by simp) rfl rfl (peel1_ok known eqs hk he hs hm) ?_
  rintro o s1 ⟨⟨v, rfl⟩, rfl⟩ -
  rw [hX, show fnAt Try.prog 51 = some Try.f51 from rfl]
  simp only [sto, loopW]
  cbv
  exact GS.keep [0] [0] rfl (GS.done ⟨rfl, rfl⟩)
end Go.Proofs.Ytncnnbjhginpfaa
