/- One operation, by names: what it asks and gives; that is sound. Conditions: none; plain definitions and lemmas. -/
import Derived.Test.YtncnnbjhginpfaaCxMr
namespace Go.Proofs.Ytncnnbjhginpfaa
set_option linter.unusedVariables false
set_option linter.unusedSimpArgs false
set_option linter.unnecessarySimpa false
open Go.RowKit

def convVC (P : Program) (s d : TypeId) (v : V) (k : V → Prop) : Prop :=
  match P.underlying s, P.underlying d, v with
  | some _, some (.int i), .int _ n => k (.int i (i.wrap n))
  | some (.string), some (.string), .str s => k (.str s)
  | _, _, _ => False

def callOpVC (P : Program) (c : Call) (st : St) (k kp : V → St → Prop) : Prop :=
  match c.callee with
  | .value f => (match st.ev f with
    | .fn (.func g) x y => callVC P g (x ++ c.args.toList.map st.ev ++ y) st k kp
    | .yld m => roundVC P m (c.args.toList.map st.ev) st k kp
    | _ => False)
  | .builtin b => (match b, c.args.toList, c.argTypes.toList with
    | .len, [x], [t] => lenVC P t (st.ev x) st k
    | .append, [x, y], [t, t2] => (match P.underlying t2 with | some (.int _) => append0VC P t (st.ev x) (st.ev y) st k | _ => appendVC P t t2 (st.ev x) (st.ev y) st k)
    | .min, [x, y], _ => minVC false (st.ev x) (st.ev y) fun v => k v st
    | .max, [x, y], _ => minVC true (st.ev x) (st.ev y) fun v => k v st
    | .delete, [x, y], (t :: _) => deleteVC P t (st.ev x) (st.ev y) st k
    | .cap, [x], [t] => capVC P t (st.ev x) st k
    | _, _, _ => False)
  | .invoke _ _ => False

def opVC (P : Program) (o : Op) (st : St) (k kp : V → St → Prop) : Prop :=
  match o with
  | .move x => k (st.ev x) st
  | .assign x => k (st.ev x) st
  | .pick c x y => pickVC (st.ev c) (st.ev x) (st.ev y) st k
  | .alloc t => allocVC P t st k
  | .box t x => boxVC t (st.ev x) st k
  | .build t ps => buildVC P t (partsV st ps) st k
  | .buildSlice t len ps => buildSliceVC P t len (partsV st ps) st k
  | .load t x => atVC P t (st.ev x) st k
  | .store t x y => storeVC P t (st.ev x) (st.ev y) st k
  | .nilCheck x => nilCheckVC (st.ev x) st k
  | .binOp op t x y _ => binVC P op t (st.ev x) (st.ev y) fun v => k v st
  | .unOp op _ x => unVC op (st.ev x) fun v => k v st
  | .convert s d x => convVC P s d (st.ev x) fun v => k v st
  | .makeInterface t x => makeIfaceVC P t (st.ev x) st k
  | .makeFunc f x y => k (.fn f (x.toList.map st.ev) (y.toList.map st.ev)) st
  | .makeMap _ none => k (.mp st.σ.length) { st with σ := st.σ ++ [.map [] 0] }
  | .slice t x lo hi mx => sliceVC P t (st.ev x) (lo.map st.ev) (hi.map st.ev) (mx.map st.ev) st k
  | .fieldAddr t x f => fieldAddrVC P t (st.ev x) f st k
  | .field t x f => fieldVC P t (st.ev x) f st k
  | .indexAddr t x y => indexAddrVC P t (st.ev x) (st.ev y) st k
  | .index t x y => indexVC P t (st.ev x) (st.ev y) st k
  | .lookup t x y cok => lookupVC P t (st.ev x) (st.ev y) cok st k
  | .mapUpdate t x y z => mapUpdateVC P t (st.ev x) (st.ev y) (st.ev z) st k
  | .mapEntry t x y => mapEntryVC P t (st.ev x) (st.ev y) st k
  | .entryStore _ x y z => entryStoreVC P (st.ev x) (st.ev y) (st.ev z) st k
  | .extract x i => extractVC (st.ev x) i st k
  | .panic x => (match st.ev x with | .iface t v => kp (.iface t v) st | _ => False)
  | .call c => callOpVC P c st k kp
  | _ => False

section
variable {P : Program} {E : En} {M M' : Env} {st : St} {a : Act} {w w' : World} {X : Nat → Prop} {k kp : V → St → Prop} {ro : Option Nat} {n : Nat}

theorem conv_q (h : Rel P E M st a w) {s d : TypeId} {x : Operand} (hk : convVC P s d (st.ev x) fun v => k v st) {dst ty pos af gd} :
    Quiet P E M st a w (execOp a.eval ⟨dst, .convert s d x, ty, pos, af, gd⟩) k := by
  have hx := h.ev x
  unfold convVC at hk
  split at hk
  · rename_i td i j m h1 h2 hv
    rw [hv] at hx; simp only [RV] at hx
    refine .val (u := .int i (i.wrap m)) ?_ hk h (by simp [RV])
    simp [execOp, convert, Go.underlying, h1, h2, hx, Conv.intToInt]
  · rename_i s h1 h2 hv
    rw [hv] at hx; simp only [RV] at hx
    refine .val (u := .string s) ?_ hk h (by simp [RV])
    simp [execOp, convert, Go.underlying, h1, h2, hx]
  · exact hk.elim

theorem run_callFunc_enter {f : FuncId} (h : Enters P f) (us : Array Value) : (callFunc f us).run P w = .ok (.enter f us) w := by
  obtain ⟨fn, h1, h2, h3⟩ := h
  have h4 : fn.body.isNone = false := by cases hb : fn.body <;> simp [hb] at h3 ⊢
  have h5 : (fn.name == "runtime.NumGoroutine") = false := by simpa using h2
  simp only [callFunc, program, Sem.run_bind]
  show (match P.funcs[f]? with | none => _ | some fn => _ : Sem Next).run P w = _
  rw [h1]
  simp only [h5, h4, Bool.false_eq_true, if_false, Sem.run_pure]

/-- What must be shown behind an operation. -/
structure Goes (P : Program) (E : En) (o : Oper) (a b : Act) (k kp : V → St → Prop) (next : Act → World → Prop) (Q : Go.Exit → Act → World → Prop) : Prop where
  next : ∀ M st1 w' v u, k v st1 → Rel P E M st1 a w' → RV P w' (okW E.X M w') v M.ρ u → next (b.put o.dst u) w'
  pan : ∀ M st1 w' v u, kp v st1 → Rel P E M st1 a w' → RV P w' (okW E.X M w') v M.ρ u → Q (.panic [{ v := u, recovered := false }]) b w'
  out : True

theorem Does.wp {o : Oper} {b : Act} (he : execOp b.eval o = execOp a.eval o) {next : Act → World → Prop} {Q : Go.Exit → Act → World → Prop} (hd : ∀ c, o.op ≠ .defer c) (h : Does P E a ((execOp a.eval o).run P w) k kp) (g : Goes P E o a b k kp next Q) :
    o.wpIn (FW ro) n P b w next Q := by
  refine ⟨fun _ _ => trivial, ?_⟩
  rw [Oper.semAt_eq _ _ _ hd, he]
  cases h with
  | val hr hk hs hv => rw [hr]; exact g.next _ _ _ _ _ hk hs hv
  | skip hr hk hs => rw [hr]; exact g.next _ _ _ _ _ hk hs (by simp [RV])
  | pan hr hk hs hv => rw [hr]; exact g.pan _ _ _ _ _ hk hs hv

theorem enter_wp {o : Oper} {b : Act} (heq : execOp b.eval o = execOp a.eval o) {next : Act → World → Prop} {Q : Go.Exit → Act → World → Prop} (hd : ∀ c, o.op ≠ .defer c) (h : Rel P E M st a w) {f : FuncId} {vs : List V} {us : List Value}
    (hr : Enters P f → (execOp a.eval o).run P w = .ok (.enter f us.toArray) w) (hv : RVs P w (okW E.X M w) vs M.ρ us) (hk : callVC P f vs st k kp) (g : Goes P E o a b k kp next Q) :
    o.wpIn (FW ro) n P b w next Q := by
  obtain ⟨he, hc⟩ := callVC_sound h hv hk
  refine ⟨fun _ _ => trivial, ?_⟩
  rw [Oper.semAt_eq _ _ _ hd, heq, hr he]
  refine ⟨fun hh => by simp [FW] at hh, ?_⟩
  have hc' : CallsIn (FW ro) (n - 1) P f us.toArray w _ := (callsIn_wide (n := n - 1)).2 hc
  refine hc'.mono fun e w' he => ?_
  cases e with
  | returned u => obtain ⟨M', st', v, h1, h2, h3⟩ := he; exact g.next _ _ _ _ _ h1 h2 h3
  | panicked c => obtain ⟨M', st', v, u, rfl, h1, h2, h3⟩ := he; exact g.pan _ _ _ _ _ h1 h2 h3
  | outgrown => exact he.elim

theorem round_wp {o : Oper} {b : Act} (heq : execOp b.eval o = execOp a.eval o) {next : Act → World → Prop} {Q : Go.Exit → Act → World → Prop} (hd : ∀ c, o.op ≠ .defer c) (h : Rel P E M st a w) {m l : Nat} {vs : List V} {us : List Value}
    (hm : M.ρ m = some l) (hr : (execOp a.eval o).run P w = (Instr.yield l us.toArray).run P w) (hv : RVs P w (okW E.X M w) vs M.ρ us) (hk : roundVC P m vs st k kp) (g : Goes P E o a b k kp next Q) :
    o.wpIn (FW ro) n P b w next Q := by
  obtain ⟨f, tmps, assign, body, h1, h2⟩ := roundVC_sound h hm hv hk
  refine ⟨fun _ _ => trivial, ?_⟩
  rw [Oper.semAt_eq _ _ _ hd, heq, hr, h1, Oper.uponIn_round]
  refine ⟨fun hh => by simp [FW] at hh, ?_⟩
  refine (h2 ro (n - 1)).mono fun e w' he => ?_
  cases e with
  | returned u => obtain ⟨M', st', v, h1, h2, h3⟩ := he; exact g.next _ _ _ _ _ h1 h2 h3
  | panicked c => obtain ⟨M', st', v, u, rfl, h1, h2, h3⟩ := he; exact g.pan _ _ _ _ _ h1 h2 h3
  | outgrown => exact he.elim

theorem toList_one {α : Type} {xs : Array α} {x : α} (h : xs.toList = [x]) : xs = #[x] := by cases xs; simp at h; simp [h]
theorem toList_two {α : Type} {xs : Array α} {x y : α} (h : xs.toList = [x, y]) : xs = #[x, y] := by cases xs; simp at h; simp [h]

theorem Rel.evs (h : Rel P E M st a w) (l : List Operand) : RVs P w (okW E.X M w) (l.map st.ev) M.ρ (l.map a.eval) := by
  induction l with
  | nil => simp [RVs]
  | cons z l ih => simp only [List.map_cons, RVs]; exact ⟨_, _, rfl, h.ev z, ih⟩

theorem op_wp {o : Oper} {b : Act} (he : execOp b.eval o = execOp a.eval o) {next : Act → World → Prop} {Q : Go.Exit → Act → World → Prop} (h : Rel P E M st a w) (hk : opVC P o.op st k kp) (g : Goes P E o a b k kp next Q) :
    o.wpIn (FW ro) n P b w next Q := by
  obtain ⟨dst, op, ty, pos, af, gd⟩ := o
  cases op with
  | move x => exact (move_q h hk).does.wp he (by simp) g
  | assign x => exact (assign_q h hk).does.wp he (by simp) g
  | pick c x y => exact (pick_q h hk).does.wp he (by simp) g
  | alloc t => exact (alloc_ok h hk).wp he (by simp) g
  | box t x => exact (box_ok h hk).wp he (by simp) g
  | build t ps => exact (build_q h hk).does.wp he (by simp) g
  | buildSlice t len ps => exact (buildSlice_ok h hk).wp he (by simp) g
  | load t x => exact (load_q h hk).does.wp he (by simp) g
  | store t x y => exact (store_ok h hk).wp he (by simp) g
  | nilCheck x => exact (nilCheck_q h hk).does.wp he (by simp) g
  | binOp op t x y ty => exact (bin_q h hk).does.wp he (by simp) g
  | unOp op t x => exact (un_q h hk).does.wp he (by simp) g
  | convert s d x => exact (conv_q h hk).does.wp he (by simp) g
  | makeInterface t x => exact (makeIface_q h hk).does.wp he (by simp) g
  | makeFunc f x y => exact (makeFunc_q h hk).does.wp he (by simp) g
  | makeMap t r => cases r with
    | none => exact (makeMap_ok h hk).wp he (by simp) g
    | some r => exact hk.elim
  | slice t x lo hi mx => exact (slice_q h hk).does.wp he (by simp) g
  | fieldAddr t x f => exact (fieldAddr_q h hk).does.wp he (by simp) g
  | field t x f => exact (field_q h hk).does.wp he (by simp) g
  | indexAddr t x y => exact (indexAddr_q h hk).does.wp he (by simp) g
  | index t x y => exact (index_q h hk).does.wp he (by simp) g
  | lookup t x y cok => exact (lookup_ok h hk).wp he (by simp) g
  | mapUpdate t x y z => exact (mapUpdate_ok h hk).wp he (by simp) g
  | mapEntry t x y => exact (mapEntry_ok h hk).wp he (by simp) g
  | entryStore t x y z => exact (entryStore_ok h hk).wp he (by simp) g
  | extract x i => exact (extract_q h hk).does.wp he (by simp) g
  | panic x => exact (panic_ok h hk).wp he (by simp) g
  | call c =>
    obtain ⟨cal, args, ats⟩ := c
    simp only [opVC, callOpVC] at hk
    cases cal with
    | value f =>
      simp only [] at hk
      split at hk
      · rename_i gf x y hv
        have hf := h.ev f
        rw [hv] at hf
        simp only [RV] at hf
        obtain ⟨us, vs, hu, h1, h2⟩ := hf
        refine enter_wp he (us := us.toList ++ args.toList.map a.eval ++ vs.toList) (by simp) h (fun he => ?_) ((h1.append (h.evs _)).append h2) hk g
        simp only [execOp, resolve, hu, Deferred.ofValue, Sem.run_bind, Sem.run_pure, Result.andThen_ok, invoke]
        rw [run_callFunc_enter he]
        congr 2
        apply Array.toList_inj.1
        simp
      · rename_i m hv
        have hf := h.ev f
        rw [hv] at hf
        simp only [RV] at hf
        obtain ⟨l, hm, hu⟩ := hf
        refine round_wp he (us := args.toList.map a.eval) (by simp) h hm ?_ (h.evs _) hk g
        simp only [execOp, resolve, hu, Deferred.ofValue, Sem.run_bind, Sem.run_pure, Result.andThen_ok, invoke]
        congr 2
        apply Array.toList_inj.1
        simp
      · exact hk.elim
    | invoke r m => exact hk.elim
    | builtin b =>
      simp only [] at hk
      split at hk
      · rename_i h1 h2
        rw [toList_one h1, toList_one h2] at *
        exact (len_q h hk).does.wp he (by simp) g
      · rename_i h1 h2
        rw [toList_two h1, toList_two h2] at *
        split at hk
        · rename_i ht2
          exact (append0_ok h ht2 hk).wp he (by simp) g
        · exact (append_ok h hk).wp he (by simp) g
      · rename_i h1
        rw [toList_two h1] at *
        exact (min_q h hk).does.wp he (by simp) g
      · rename_i h1
        rw [toList_two h1] at *
        exact (max_q h hk).does.wp he (by simp) g
      · rename_i h1 h2
        rw [toList_two h1] at *
        exact (delete_ok h hk (by rw [← Array.getElem?_toList, h2]; rfl)).wp he (by simp) g
      · rename_i h1 h2
        rw [toList_one h1, toList_one h2] at *
        unfold capVC at hk
        split at hk
        · rename_i ht
          exact (cap_ok h ht hk).wp he (by simp) g
        · exact hk.elim
      · exact hk.elim
  | _ => exact hk.elim

end
end Go.Proofs.Ytncnnbjhginpfaa
