/- Regions whose order of evaluation is drawn: one walk serves every order. Conditions: none; plain definitions and lemmas. -/
import Derived.Test.YtncnnbjhginpfaaCxN
import Derived.OrdersIn
namespace Go.Proofs.Ytncnnbjhginpfaa
set_option linter.unusedVariables false
set_option linter.unusedSimpArgs false
set_option linter.unnecessarySimpa false
open Go.RowKit

def notB : Value → Bool | .bool _ => false | _ => true
/-- The guard of an operation. -/
def wantVC (ops : List Oper) (o : Oper) (st : St) (run skip : St → Prop) : Prop :=
  match o.guard with
  | none => run st
  | some (j, want) => (match (ops[j]?).bind (·.dst) with
    | some d => (match st.slot d with
      | .bool t => if want then bcase t (fun _ => run (st.put (some d) (.bool true))) (fun _ => skip (st.put (some d) (.bool false)))
        else bcase t (fun _ => skip (st.put (some d) (.bool true))) (fun _ => run (st.put (some d) (.bool false)))
      | .opq u => if notB u then skip st else False
      | _ => False)
    | none => False)

def isQ : Op → Bool
  | .move _ | .pick .. | .load .. | .nilCheck _ | .binOp .. | .unOp .. | .convert .. | .makeInterface .. | .makeFunc .. | .slice .. | .fieldAddr .. | .field .. | .indexAddr .. | .index .. | .extract .. | .build .. => true
  | .call c => (match c.callee with | .builtin .len | .builtin .min | .builtin .max => true | _ => false)
  | _ => false

def opsL : Op → List Operand
  | .move x | .assign x | .box _ x | .load _ x | .nilCheck x | .unOp _ _ x | .convert _ _ x | .makeInterface _ x | .fieldAddr _ x _ | .field _ x _ | .extract x _ | .panic x => [x]
  | .pick c a b => [c, a, b]
  | .build _ ps | .buildSlice _ _ ps => ps.toList.map (·.2)
  | .store _ a v | .binOp _ _ a v _ | .makeSlice _ a v | .indexAddr _ a v | .index _ a v | .lookup _ a v _ | .mapEntry _ a v => [a, v]
  | .makeFunc _ x y => x.toList ++ y.toList
  | .slice _ x l h m => x :: (l.toList ++ h.toList ++ m.toList)
  | .mapUpdate _ m k v | .entryStore _ m k v => [m, k, v]
  | .call c => (match c.callee with | .value f => [f] | .invoke r _ => [r] | .builtin _ => []) ++ c.args.toList
  | o => o.operands.toList

/-- The slots that an operation looks at. -/
def looks (ops : List Oper) (o : Oper) : List Tmp :=
  (opsL o.op).filterMap (fun x => match x with | .tmp t => some t | _ => none) ++ (match o.guard with | some (g, _) => ((ops[g]?).bind (·.dst)).toList | none => [])

def depsOf (o : Oper) : List Nat := (o.after.toList.filter (Region.binds .any)).map (·.on)
def depsAt (ops : List Oper) (i : Nat) : List Nat := match ops[i]? with | some o => depsOf o | none => []

def ancs (ops : List Oper) : Nat → List Nat → List Nat → List Nat
  | 0, _, acc => acc
  | _ + 1, [], acc => acc
  | f + 1, x :: todo, acc => if acc.contains x then ancs ops f todo acc else ancs ops f (depsAt ops x ++ todo) (x :: acc)
def anc (ops : List Oper) (i : Nat) : List Nat := ancs ops (ops.length * ops.length + 1) (depsAt ops i) []

def isReady (ops : List Oper) (L : List Nat) (i : Nat) : Bool := !L.contains i && (depsAt ops i).all L.contains
def readyL (ops : List Oper) (L : List Nat) : List Nat := (List.range ops.length).filter (isReady ops L)
def quietAt (ops : List Oper) (i : Nat) : Bool := match ops[i]? with | some o => isQ o.op | none => false
def pickQ (ops : List Oper) (L : List Nat) : Option Nat := (readyL ops L).find? (quietAt ops)

def dstAt (ops : List Oper) (i : Nat) : List Tmp := ((ops[i]?).bind (·.dst)).toList
def looksAt (ops : List Oper) (i : Nat) : List Tmp := match ops[i]? with | some o => looks ops o | none => []
def disjB (x y : List Tmp) : Bool := x.all fun t => !y.contains t

/-- What those ahead may not meddle with. -/
def clear (ops : List Oper) (Q : List Nat) (i : Nat) : Bool :=
  Q.all fun p => (anc ops i).contains p || (disjB (dstAt ops p) (looksAt ops i) && disjB (dstAt ops p) (dstAt ops i))
def clearQ (ops : List Oper) (Q : List Nat) (i : Nat) : Bool :=
  clear ops Q i && disjB (dstAt ops i) (looksAt ops i) && Q.all fun p => disjB (dstAt ops i) (looksAt ops p) && disjB (dstAt ops i) (dstAt ops p)

def inB (ops : List Oper) (st : St) (i : Nat) : Bool := match (ops[i]?).bind (·.dst) with | some d => Nat.blt d st.slots.length | none => false
def slotAt (ops : List Oper) (st : St) (i : Nat) : V := match (ops[i]?).bind (·.dst) with | some d => st.slot d | none => .undef

/-- Run now, operation i gives what stands in its slot. -/
def QV (P : Program) (ops : List Oper) (i : Nat) (st : St) : Prop :=
  match ops[i]? with
  | some o => wantVC ops o st (fun s => opVC P o.op s (fun v _ => v = slotAt ops st i) (fun _ _ => False)) (fun _ => slotAt ops st i = .undef)
  | none => True

def nm : V → Option Nat
  | .ptr n _ => some n
  | .sl _ n _ _ => some n
  | .mp n => some n
  | _ => none

/-- Where operation i looks, nothing has turned. -/
def Kept (ops : List Oper) (i : Nat) (st st' : St) : Prop :=
  match ops[i]? with
  | some o => (∀ t ∈ looks ops o, st'.slot t = st.slot t) ∧ slotAt ops st' i = slotAt ops st i ∧ ∀ x ∈ opsL o.op, ∀ n, nm (st.ev x) = some n → st'.σ[n]? = st.σ[n]?
  | none => True
def keptT (st st' : St) : List Tmp → Prop
  | [] => True
  | t :: l => st'.slot t = st.slot t ∧ keptT st st' l
def keptN (st st' : St) : List Operand → Prop
  | [] => True
  | x :: l => (match nm (st.ev x) with | some n => st'.σ[n]? = st.σ[n]? | none => True) ∧ keptN st st' l
def keptVC (ops : List Oper) (i : Nat) (st st' : St) : Prop :=
  match ops[i]? with
  | some o => keptT st st' (looks ops o) ∧ slotAt ops st' i = slotAt ops st i ∧ keptN st st' (opsL o.op)
  | none => True
def allP (l : List Nat) (p : Nat → Prop) : Prop := match l with | [] => True | [i] => p i | i :: l => p i ∧ allP l p

def drawGo (P : Program) (ops : List Oper) (kp : V → St → Prop) (k : St → Prop) : Nat → List Nat → List Nat → St → Prop
  | 0, _, _, _ => False
  | f + 1, L, Q, st =>
    match pickQ ops L with
    | some i => (if clearQ ops Q i && inB ops st i then (match ops[i]? with
        | some o => wantVC ops o st (fun s => opVC P o.op s (fun v s' => drawGo P ops kp k f (i :: L) (i :: Q) (s'.put o.dst v)) (fun _ _ => False)) (fun s => drawGo P ops kp k f (i :: L) (i :: Q) (s.put o.dst .undef))
        | none => False) else False)
    | none => match readyL ops L with
      | [] => k st
      | js => allP js fun j => if clear ops Q j then (match ops[j]? with
        | some o => wantVC ops o st
            (fun s => opVC P o.op s (fun v s' => drawGo P ops kp k f (j :: L) (Q.filter fun q => !(anc ops j).contains q) (s'.put o.dst v) ∧
              allP (Q.filter fun q => !(anc ops j).contains q) fun q => keptVC ops q st (s'.put o.dst v)) (fun v s' => Q = [] ∧ kp v s'))
            (fun s => drawGo P ops kp k f (j :: L) (Q.filter fun q => !(anc ops j).contains q) (s.put o.dst .undef) ∧
              allP (Q.filter fun q => !(anc ops j).contains q) fun q => keptVC ops q st (s.put o.dst .undef))
        | none => False) else False

def drawVC (P : Program) (ops : List Oper) (kp : V → St → Prop) (k : St → Prop) (st : St) : Prop := drawGo P ops kp k (2 * ops.length + 1) [] [] st

section
variable {P : Program} {E : En} {M M' : Env} {st st' : St} {a : Act} {w w' : World} {X : Nat → Prop} {k kp : V → St → Prop} {ro : Option Nat} {n : Nat} {ops : List Oper}

theorem quiet_ok {o : Oper} (hq : isQ o.op = true) (h : Rel P E M st a w) (hk : opVC P o.op st k kp) : Quiet P E M st a w (execOp a.eval o) k := by
  obtain ⟨dst, op, ty, pos, af, gd⟩ := o
  cases op with
  | move x => exact move_q h hk
  | pick c x y => exact pick_q h hk
  | load t x => exact load_q h hk
  | nilCheck x => exact nilCheck_q h hk
  | binOp op t x y ty => exact bin_q h hk
  | unOp op t x => exact un_q h hk
  | convert s d x => exact conv_q h hk
  | makeInterface t x => exact makeIface_q h hk
  | makeFunc f x y => exact makeFunc_q h hk
  | slice t x lo hi mx => exact slice_q h hk
  | fieldAddr t x f => exact fieldAddr_q h hk
  | field t x f => exact field_q h hk
  | indexAddr t x y => exact indexAddr_q h hk
  | index t x y => exact index_q h hk
  | extract x i => exact extract_q h hk
  | build t ps => exact build_q h hk
  | call c =>
    obtain ⟨cal, args, ats⟩ := c
    simp only [opVC, callOpVC] at hk
    cases cal with
    | value f => simp [isQ] at hq
    | invoke r m => simp [isQ] at hq
    | builtin b =>
      simp only [] at hk
      split at hk
      · rename_i h1 h2
        rw [toList_one h1, toList_one h2] at *
        exact len_q h hk
      · simp [isQ] at hq
      · rename_i h1
        rw [toList_two h1] at *
        exact min_q h hk
      · rename_i h1
        rw [toList_two h1] at *
        exact max_q h hk
      · simp [isQ] at hq
      · simp [isQ] at hq
      · exact hk.elim
  | _ => simp [isQ] at hq

theorem opsL_mem (o : Op) : ∀ x ∈ o.operands, x ∈ opsL o := by
  intro x hx
  cases o <;> simp only [Op.operands, opsL] at hx ⊢ <;> first | (simpa using hx) | skip
  case call c =>
    simp only [Call.operands] at hx
    cases hc : c.callee <;> simp [hc] at hx ⊢ <;> exact hx

theorem put_self {d : Nat} {v : V} (h : st.slot d = v) : st.put (some d) v = st := by
  obtain ⟨sl, σ⟩ := st
  simp only [St.slot, St.put, St.mk.injEq, and_true] at h ⊢
  apply List.ext_getElem?
  intro i
  rw [List.getElem?_set]
  split
  · rename_i e
    subst e
    split
    · rename_i hl
      rw [List.getD_eq_getElem?_getD, List.getElem?_eq_getElem hl] at h
      rw [List.getElem?_eq_getElem hl, ← h]; rfl
    · rename_i hl
      rw [List.getElem?_eq_none (by omega)]
  · rfl

/-- What the guard says. -/
def gv (ops : List Oper) (o : Oper) (st : St) : Option Bool :=
  match o.guard with
  | none => some true
  | some (j, want) => (match (ops[j]?).bind (·.dst) with
    | some d => (match st.slot d with | .bool t => some (t == want) | .opq u => if notB u then some false else none | _ => none)
    | none => none)

theorem want_iff {o : Oper} {run skip : St → Prop} : wantVC ops o st run skip ↔ (gv ops o st = some true ∧ run st) ∨ (gv ops o st = some false ∧ skip st) := by
  unfold wantVC gv
  cases hg : o.guard with
  | none => simp
  | some jw =>
    obtain ⟨j, want⟩ := jw
    simp only []
    cases hd : (ops[j]?).bind (·.dst) with
    | none => simp
    | some d =>
      simp only []
      cases hs : st.slot d with
      | bool t => cases want <;> cases t <;> simp [bcase, put_self hs]
      | opq u => cases hb : notB u <;> simp [hb]
      | _ => simp

theorem gv_wanted {o : Oper} {t : Bool} (h : Rel P E M st a w) (hg : gv ops o st = some t) : Region.wanted o (yielded ops.toArray a.tmps) = t := by
  unfold gv at hg
  unfold Region.wanted
  cases hgd : o.guard with
  | none => simp [hgd] at hg; simp [hg]
  | some jw =>
    obtain ⟨j, want⟩ := jw
    simp only [hgd] at hg ⊢
    cases hd : (ops[j]?).bind (·.dst) with
    | none => simp [hd] at hg
    | some d =>
      simp only [hd] at hg
      cases hs : st.slot d with
      | bool t' =>
        simp only [hs, Option.some.injEq] at hg
        have h1 := h.sl d
        rw [hs] at h1
        simp only [RV] at h1
        have hy : yielded ops.toArray a.tmps j = some t' := by
          unfold yielded
          have : (ops.toArray[j]?).bind (·.dst) = some d := by simpa using hd
          rw [this]
          simp only [Option.bind_some]
          rw [Array.getD_eq_getD_getElem?] at h1
          cases ht : a.tmps[d]? with
          | none => simp [ht, undef] at h1
          | some u => simp [ht] at h1; subst h1; rfl
        rw [hy, ← hg]; cases t' <;> cases want <;> rfl
      | opq u =>
        cases hb : notB u with
        | false => simp [hs, hb] at hg
        | true =>
          simp [hs, hb] at hg
          have h1 := h.sl d
          rw [hs] at h1
          simp only [RV] at h1
          have hy : yielded ops.toArray a.tmps j = none := by
            unfold yielded
            have : (ops.toArray[j]?).bind (·.dst) = some d := by simpa using hd
            rw [this]
            simp only [Option.bind_some]
            rw [Array.getD_eq_getD_getElem?] at h1
            cases ht : a.tmps[d]? with
            | none => rfl
            | some u' =>
              simp [ht] at h1; subst h1
              cases u' <;> first | rfl | (simp [notB] at hb)
          rw [hy, hg]; rfl
      | _ => simp [hs] at hg

theorem gv_kept {o : Oper} (h : ∀ t ∈ looks ops o, st'.slot t = st.slot t) : gv ops o st' = gv ops o st := by
  unfold gv
  cases hg : o.guard with
  | none => rfl
  | some jw =>
    obtain ⟨j, want⟩ := jw
    simp only []
    cases hd : (ops[j]?).bind (·.dst) with
    | none => rfl
    | some d => simp only [h d (List.mem_append_right _ (by simp [hg, hd]))]

theorem wantVC_spec {o : Oper} {run skip : St → Prop} (h : Rel P E M st a w) (hk : wantVC ops o st run skip) :
    (Region.wanted o (yielded ops.toArray a.tmps) = true ∧ run st) ∨ (Region.wanted o (yielded ops.toArray a.tmps) = false ∧ skip st) := by
  rcases want_iff.1 hk with ⟨h1, h2⟩ | ⟨h1, h2⟩
  · exact .inl ⟨gv_wanted h h1, h2⟩
  · exact .inr ⟨gv_wanted h h1, h2⟩

end
end Go.Proofs.Ytncnnbjhginpfaa
