/- Code, by names: what must be shown of it; that is sound. Conditions: none; plain definitions and lemmas. -/
import Derived.Test.YtncnnbjhginpfaaCxOg
namespace Go.Proofs.Ytncnnbjhginpfaa
set_option linter.unusedVariables false
set_option linter.unusedSimpArgs false
set_option linter.unnecessarySimpa false
open Go.RowKit

/-- How code ends, by names. -/
inductive AEx where
  | norm
  | exit (id : Nat)
  | ret
  | pan (v : V)

def vcOps (P : Program) (ops : List Oper) (kp : V → St → Prop) (k : St → Prop) : List Oper → St → Prop
  | [], st => k st
  | o :: r, st => wantVC ops o st (fun st => opVC P o.op st (fun v s => vcOps P ops kp k r (s.put o.dst v)) kp) (fun st => vcOps P ops kp k r (st.put o.dst (.opq undef)))

/-- In how many places code ends plainly. -/
def falls : Code → Nat
  | .seq a b => if falls a = 0 then 0 else falls b
  | .cond _ a b => falls a + falls b
  | .block id c => falls c + exits id c
  | .loop _ => 0
  | .exit _ | .ret => 0
  | .scope c => falls c
  | _ => 1
where exits (id : Nat) : Code → Nat
  | .seq a b => exits id a + exits id b
  | .cond _ a b => exits id a + exits id b
  | .block _ c => exits id c
  | .loop c => exits id c
  | .exit i => if i = id then 1 else 0
  | .scope c => exits id c
  | _ => 0

/-- A condition is known from here on. -/
def St.learn (st : St) (c : Operand) (t : Bool) : St := match c with | .tmp d => st.put (some d) (.bool t) | _ => st

/-- No range over a function in it. -/
def noRange : Code → Bool
  | .rangeFunc .. => false
  | .seq a b => noRange a && noRange b
  | .cond _ a b => noRange a && noRange b
  | .block _ c => noRange c
  | .loop c => noRange c
  | .scope c => noRange c
  | _ => true

/-- What follows a range over a function whose record is object m. -/
def rangeK (m : Nat) (K : AEx → St → Prop) (s : St) : Prop :=
  match s.σ[m]? with
  | some (.loop L) => (match L.state with
    | .busy => False
    | _ => (match L.pending with
      | none => K .norm ⟨s.slots, s.σ.set m (.loop { L with state := .exhausted })⟩
      | some .ret => K .ret ⟨s.slots, s.σ.set m (.loop { L with state := .exhausted })⟩
      | some (.exit id) => K (.exit id) ⟨s.slots, s.σ.set m (.loop { L with state := .exhausted })⟩
      | _ => False))
  | _ => False

def vc (P : Program) (n0 : Nat) : Code → (AEx → St → Prop) → St → Prop
  | .skip, K, st => K .norm st
  | .region _ ops dr, K, st => if dr then (if noSel ops.toList then drawVC P ops.toList (fun v s => K (.pan v) s) (K .norm) st else False) else vcOps P ops.toList (fun v s => K (.pan v) s) (K .norm) ops.toList st
  | .seq a b, K, st =>
    if falls a < 2 then vc P n0 a (fun e s => match e with | .norm => vc P n0 b K s | e => K e s) st
    else ∃ J : St → Prop, vc P n0 a (fun e s => match e with | .norm => GS P n0 s J | e => K e s) st ∧ ∀ s, J s → vc P n0 b K s
  | .cond c a b, K, st => (match st.ev c with | .bool t => bcase t (fun _ => vc P n0 a K (st.learn c true)) (fun _ => vc P n0 b K (st.learn c false)) | _ => False)
  | .block id c, K, st => vc P n0 c (fun e s => match e with | .exit i => if i = id then K .norm s else K (.exit i) s | e => K e s) st
  | .loop c, K, st => ∃ I : Nat → St → Prop, GS P n0 st (fun s => ∃ i, I i s) ∧
    ∀ i s, I i s → vc P n0 c (fun e s1 => match e with | .norm => GS P n0 s1 (fun s => ∃ i', i' < i ∧ I i' s) | e => K e s1) s
  | .exit id, K, st => K (.exit id) st
  | .ret, K, st => K .ret st
  | .rangeFunc g ps assign body, K, st => (match st.ev g with
    | .fn (.func f) x y => callVC P f (x ++ [.yld st.σ.length] ++ y) ⟨st.slots, st.σ ++ [.loop ⟨st.slots, ps, assign, body, .ready, none⟩]⟩ (fun _ s => rangeK st.σ.length K s) (fun v s => K (.pan v) s)
    | _ => False)
  | _, _, _ => False

section
variable {P : Program} {E : En} {M M' : Env} {st st' : St} {a : Act} {w w' : World} {X : Nat → Prop} {k kp : V → St → Prop} {ro : Option Nat} {n : Nat}

theorem least {p : Nat → Prop} (h : ∃ i, p i) : ∃ i, p i ∧ ∀ j, p j → i ≤ j := by
  obtain ⟨i, hi⟩ := h
  induction i using Nat.strongRecOn with
  | _ i ih =>
    by_cases hj : ∃ j, j < i ∧ p j
    · obtain ⟨j, h1, h2⟩ := hj; exact ih j h1 h2
    · exact ⟨i, hi, fun j hj' => Nat.not_lt.1 fun hlt => hj ⟨j, hlt, hj'⟩⟩

def Post (P : Program) (E : En) (K : AEx → St → Prop) : Go.Exit → Act → World → Prop
  | .normal, a, w => ∃ M st, Rel P E M st a w ∧ K .norm st
  | .exit id, a, w => ∃ M st, Rel P E M st a w ∧ K (.exit id) st
  | .goto _, _, _ => False
  | .ret, a, w => ∃ M st, Rel P E M st a w ∧ K .ret st
  | .panic chain, a, w => ∃ M st v u, chain = [{ v := u, recovered := false }] ∧ Rel P E M st a w ∧ RV P w (okW E.X M w) v M.ρ u ∧ K (.pan v) st
  | .outgrown, _, _ => False

theorem Post.mono {K K' : AEx → St → Prop} (h : ∀ e s, K e s → K' e s) {e : Go.Exit} (hp : Post P E K e a w) : Post P E K' e a w := by
  cases e with
  | normal => obtain ⟨M, st, h1, h2⟩ := hp; exact ⟨M, st, h1, h _ _ h2⟩
  | exit id => obtain ⟨M, st, h1, h2⟩ := hp; exact ⟨M, st, h1, h _ _ h2⟩
  | goto l => exact hp
  | ret => obtain ⟨M, st, h1, h2⟩ := hp; exact ⟨M, st, h1, h _ _ h2⟩
  | panic c => obtain ⟨M, st, v, u, h0, h1, h2, h3⟩ := hp; exact ⟨M, st, v, u, h0, h1, h2, h _ _ h3⟩
  | outgrown => exact hp

theorem vcOps_sound {ops : Array Oper} {K : AEx → St → Prop} : ∀ (l : List Oper) (st : St) (M : Env) (a : Act) (w : World), Rel P E M st a w →
    vcOps P ops.toList (fun v s => K (.pan v) s) (K .norm) l st → wpListIn (FW ro) n P ops (Post P E K) l a w := by
  intro l
  induction l with
  | nil => intro st M a w h hk; exact ⟨M, st, h, hk⟩
  | cons o r ih =>
    intro st M a w h hk
    simp only [vcOps] at hk
    unfold wpListIn
    rcases wantVC_spec h hk with ⟨h1, h2⟩ | ⟨h1, h2⟩
    · have h1' : Region.wanted o (yielded ops a.tmps) = true := by simpa using h1
      rw [if_pos h1']
      exact op_wp rfl h h2 ⟨fun M st1 w' v u h1 h2 h3 => ih _ _ _ _ (h2.put h3 o.dst) h1, fun M st1 w' v u h1 h2 h3 => ⟨M, st1, v, u, rfl, h2, h3, h1⟩, trivial⟩
    · have h1' : Region.wanted o (yielded ops a.tmps) = false := by simpa using h1
      rw [if_neg (by simp [h1'])]
      exact ⟨fun _ _ => trivial, ih _ _ _ _ (h.put (by simp [RV]) o.dst) h2⟩

theorem rvs_slots (h : Rel P E M st a w) : RVs P w (okW E.X M w) st.slots M.ρ a.tmps.toList := by
  refine RVs.mk (by simpa using h.sz) fun i v u hv hu => ?_
  have := h.sl i
  rw [St.slot, List.getD_eq_getElem?_getD, hv, Array.getD_eq_getD_getElem?, ← Array.getElem?_toList, hu] at this
  exact this

theorem Post.rng {K : AEx → St → Prop} {x : AEx} {e : Go.Exit} (he : (x = .norm ∧ e = .normal) ∨ (x = .ret ∧ e = .ret) ∨ ∃ id, x = .exit id ∧ e = .exit id) (h : Rel P E M st a w) (hk : K x st) : Post P E K e a w := by
  rcases he with ⟨rfl, rfl⟩ | ⟨rfl, rfl⟩ | ⟨id, rfl, rfl⟩ <;> exact ⟨M, st, h, hk⟩

theorem range_sound {K : AEx → St → Prop} (h : Rel P E M st a w) {g : Operand} {ps : Array Tmp} {assign body : Code} {f : FuncId} {us vs : Array Value} {x y : List V}
    (hu : a.eval g = .func (.func f) us vs) (hx : RVs P w (okW E.X M w) x M.ρ us.toList) (hy : RVs P w (okW E.X M w) y M.ρ vs.toList)
    (hk : callVC P f (x ++ [.yld st.σ.length] ++ y) ⟨st.slots, st.σ ++ [.loop ⟨st.slots, ps, assign, body, .ready, none⟩]⟩ (fun _ s => rangeK st.σ.length K s) (fun v s => K (.pan v) s)) :
    (Code.rangeFunc g ps assign body).wpIn (FW none) n P (Post P E K) a w := by
  refine wpIn_rangeFunc fun fn _ => ?_
  let w1 := w.alloc (.deferred (some []))
  let r : Loop := { state := .ready, pending := none, fn, tmps := a.tmps, params := ps, assign, body, defers := w.heap.size }
  let w2 := w1.alloc (.loop r)
  have hsz1 : w1.heap.size = w.heap.size + 1 := by simp [w1]
  have hw1D : w1.heap[w.heap.size]? = some (.deferred (some [])) := heap_alloc_new w _
  have hw2l : w2.heap[w.heap.size + 1]? = some (.loop r) := by rw [← hsz1]; exact heap_alloc_new w1 _
  have hw2D : w2.heap[w.heap.size]? = some (.deferred (some [])) := by rw [show w2.heap[w.heap.size]? = w1.heap[w.heap.size]? from Below.heap_alloc w1 _ _ (by omega)]; exact hw1D
  -- the store
  have t1 : Turn (fun _ => False) w w1 := Turn.alloc _ w _
  have t2 : Turn (fun _ => False) w w2 := t1.trans (Turn.alloc _ w1 _)
  have s1 := h.sat.same t1
  let M1 : Env := M.add st.σ.length (w.heap.size + 1)
  have hM1 : M1 = M.add st.σ.length w1.heap.size := by rw [hsz1]
  have hρ1 : ∀ n g, M.ρ n = some g → M1.ρ n = some g := fun n g hn => by
    simp only [M1, Env.add]
    split
    · rename_i e; rw [e, h.sat.dom _ (Nat.le_refl _)] at hn; cases hn
    · exact hn
  have hown1 : ∀ n g, M1.fp n g → (∃ m, M.fp m g) ∨ w.heap.size ≤ g := fun n g hn => by
    simp only [M1, Env.add] at hn
    split at hn
    · right; omega
    · exact .inl ⟨n, hn⟩
  have hlat : Later w w2 (okW E.X M w) (okW E.X M1 w2) := later_step (t2.mono fun _ h => h.elim) hown1
  have s2 : Sat P E.X M1 (st.σ ++ [.loop ⟨st.slots, ps, assign, body, .ready, none⟩]) w2 := by
    rw [hM1]
    refine s1.alloc (.loop r) _ ?_
    refine ⟨w1.heap.size, r, by simp [Env.add], fun b => by simp [Env.add], by rw [hsz1]; exact hw2l, rfl, rfl, rfl, rfl, rfl, ?_⟩
    have := RVs.ren_ (π := some) hlat (fun n m g e h => by cases e; exact hρ1 n g h) _ _ (rvs_slots h)
    rw [V.rens_some] at this
    rw [← hM1]; exact this
  have h1 : Rel P E M1 ⟨st.slots, st.σ ++ [.loop ⟨st.slots, ps, assign, body, .ready, none⟩]⟩ a w2 := by
    refine h.step_same s2 (t2.mono fun _ h => h.elim) hρ1 hown1 (fun n hn => ?_) (by have := h.len; simp; omega)
    simp only [M1, Env.add]; rw [if_neg (by have := h.len; omega)]
  let a' : Act := { a with defers := [{ target := .collected w.heap.size, args := #[] }] ++ a.defers }
  let E' : En := { E with n0 := st.σ.length + 1, ρ0 := M1.ρ }
  have hdf : DefOk E' M1 w2 a'.defers := by
    obtain ⟨Ds, d1, d2, d3⟩ := h.df
    refine ⟨w.heap.size :: Ds, by simp only [a', d1]; rfl, List.nodup_cons.2 ⟨fun hD => ?_, d2⟩, fun D hD => ?_⟩
    · have := (Array.getElem?_eq_some_iff.1 (d3 _ hD).2.1).1
      omega
    · rcases List.mem_cons.1 hD with rfl | hD
      · exact ⟨h.fr.size, hw2D, fun n hn => by
          simp only [M1, Env.add] at hn
          split at hn
          · omega
          · have := h.sat.lt n _ hn; omega, fun hx => by have := h.sat.Xlt _ hx; omega⟩
      · obtain ⟨g1, g2, g3, g4⟩ := d3 D hD
        have hlt := (Array.getElem?_eq_some_iff.1 g2).1
        exact ⟨g1, by rw [t2.blk D hlt fun h => h]; exact g2, fun n hn => by
          rcases hown1 n D hn with ⟨m, hm⟩ | h
          · exact g3 m hm
          · omega, g4⟩
  have h2 : Rel P E' M1 ⟨st.slots, st.σ ++ [.loop ⟨st.slots, ps, assign, body, .ready, none⟩]⟩ a' w2 :=
    ⟨h1.sat, h1.sl, h1.sz, hdf, h1.fr, h1.own, fun _ _ => rfl, by simp [E']⟩
  have hargs : RVs P w2 (okW E'.X M1 w2) (x ++ [.yld st.σ.length] ++ y) M1.ρ (us.toList ++ [.func (.yield (w.heap.size + 1)) #[] #[]] ++ vs.toList) := by
    have hx' := RVs.ren_ (π := some) hlat (fun n m g e h => by cases e; exact hρ1 n g h) _ _ hx
    have hy' := RVs.ren_ (π := some) hlat (fun n m g e h => by cases e; exact hρ1 n g h) _ _ hy
    rw [V.rens_some] at hx' hy'
    refine (hx'.append ?_).append hy'
    simp only [RVs, RV]
    exact ⟨_, _, rfl, ⟨w.heap.size + 1, by simp [M1, Env.add], rfl⟩, rfl⟩
  obtain ⟨hent, hcall⟩ := callVC_sound h2 hargs hk
  refine ⟨w.heap.size + 1, [{ target := .collected w.heap.size, args := #[] }], w2, { target := .fn (.func f) vs, args := us ++ #[.func (.yield (w.heap.size + 1)) #[] #[]] }, w2, f, _, w2, run_enterLoop_outer (P := P) (w := w) fn a.tmps ps assign body, ?_, fun _ _ => trivial, ?_, fun hh => by simp [FW] at hh, (callsIn_wide (n := n - 1)).2 (hcall.mono fun e w3 hp => ?_)⟩
  · have hc : ∀ v, a.eval (.const v) = v := fun _ => rfl
    simp [resolve, rangeCall, hu, Deferred.ofValue, hc]
  · simp only [invoke]
    rw [run_callFunc_enter hent]
    congr 2
    apply Array.toList_inj.1
    simp
  · cases e with
    | returned u =>
      obtain ⟨M', st2, v, k1, k2, k3⟩ := hp
      simp only [rangeK] at k1
      split at k1
      · rename_i L hL
        obtain ⟨l, r2, o1, o2, o3, o4, o5, o6, o7, o8, o9⟩ := k2.sat.ob _ _ hL
        have hl : l = w.heap.size + 1 := by
          have := k2.lent st.σ.length (by simp [E'])
          rw [o1] at this
          simp only [E', M1, Env.add, if_true] at this
          cases this; rfl
        subst hl
        have hnb : r2.state ≠ .busy := fun hb => by rw [o7] at hb; rw [hb] at k1; exact k1
        have hrun := run_endLoop (P := P) o3 hnb
        have hlt := heap_lt o3
        have ht : Turn (M'.fp st.σ.length) w3 (w3.putObj (w.heap.size + 1) (.loop { r2 with state := .exhausted })) :=
          ⟨rfl, rfl, rfl, by simp, fun b hb hn => World.putObj_heap_other fun e => hn ((o2 b).2 e), fun b z hz => by
            by_cases e : b = w.heap.size + 1
            · subst e; simp [World.shape?, o3] at hz
            · rw [shape_of_heap (World.putObj_heap_other e)]; exact hz⟩
        have hnl := (List.getElem?_eq_some_iff.1 hL).1
        have hs3 := k2.sat.update hnl (.loop { L with state := .exhausted }) ht ⟨w.heap.size + 1, _, o1, o2, World.putObj_heap_same hlt, o4, o5, o6, rfl, o8,
          by
            have := RVs.ren_ (π := some) (later_step (X := E'.X) (M := M') (M' := M') (ht.mono fun b hb => ⟨st.σ.length, hb⟩) (fun n g hg => .inl ⟨n, hg⟩)) (fun n m g e h => by cases e; exact h) _ _ o9
            rw [V.rens_some] at this; exact this⟩
        have h3 : Rel P E' M' ⟨st2.slots, st2.σ.set st.σ.length (.loop { L with state := .exhausted })⟩ a' _ := k2.step_same hs3 (ht.mono fun b hb => ⟨_, hb⟩) (fun _ _ h => h) (fun n g hg => .inl ⟨n, hg⟩) (fun _ _ => rfl) (by have := k2.len; simpa using this)
        have h4 : Rel P E M' ⟨st2.slots, st2.σ.set st.σ.length (.loop { L with state := .exhausted })⟩ a' (w3.putObj (w.heap.size + 1) (.loop { r2 with state := .exhausted })) :=
          ⟨h3.sat, h3.sl, h3.sz, h3.df, h3.fr, h3.own, fun n hn => by
            rw [h3.lent n (by have := h.len; simp only [E']; omega)]
            exact h1.lent n hn, by have := h3.len; have := h.len; simp only [E'] at *; omega⟩
        split at k1
        · exact k1.elim
        · split at k1
          · rename_i hp; exact ⟨none, _, hrun.trans (congrArg (fun p => Result.ok p _) (o8.trans hp)), _, _, h4, k1⟩
          · rename_i hp; exact ⟨some .ret, _, hrun.trans (congrArg (fun p => Result.ok p _) (o8.trans hp)), wpIn_ret ⟨_, _, h4, k1⟩⟩
          · rename_i hp; exact ⟨some (.exit _), _, hrun.trans (congrArg (fun p => Result.ok p _) (o8.trans hp)), wpIn_exit ⟨_, _, h4, k1⟩⟩
          · exact k1.elim
      · exact k1.elim
    | panicked c =>
      obtain ⟨M', st2, v, u, k0, k1, k2, k3⟩ := hp
      have h4 : Rel P E M' st2 a' w3 :=
        ⟨k2.sat, k2.sl, k2.sz, k2.df, k2.fr, k2.own, fun n hn => by
          rw [k2.lent n (by have := h.len; simp only [E']; omega)]
          exact h1.lent n hn, by have := k2.len; have := h.len; simp only [E'] at *; omega⟩
      exact ⟨M', st2, v, u, k0, h4, k3, k1⟩
    | outgrown => exact hp.elim

theorem vc_sound (hm : P.follows .mixedOrders = true) : ∀ (c : Code) (hro : ro = none ∨ noRange c = true) (K : AEx → St → Prop) (st : St) (E : En) (M : Env) (a : Act) (w : World), vc P E.n0 c K st → Rel P E M st a w →
    c.wpIn (FW ro) n P (Post P E K) a w := by
  intro c
  induction c with
  | skip => intro hro K st E M a w hk h; exact wpIn_skip ⟨M, st, h, hk⟩
  | region id ops dr =>
    intro hro K st E M a w hk h
    cases dr with
    | true =>
      simp only [vc, if_true] at hk
      split at hk
      · rename_i hs
        exact draw_sound hm (fun M st a w h1 h2 => ⟨M, st, h1, h2⟩) (fun M st a w v u h1 h2 h3 => ⟨M, st, v, u, rfl, h1, h2, h3⟩) trivial h hs hk
      · exact hk.elim
    | false =>
      simp only [vc, Bool.false_eq_true, if_false] at hk
      exact wpIn_region_list (vcOps_sound _ _ _ _ _ h hk)
  | seq x y ihx ihy =>
    intro hro K st E M a w hk h
    simp only [vc] at hk
    have hrx : ro = none ∨ noRange x = true := hro.imp (fun h => h) fun h => by simp only [noRange, Bool.and_eq_true] at h; exact h.1
    have hry : ro = none ∨ noRange y = true := hro.imp (fun h => h) fun h => by simp only [noRange, Bool.and_eq_true] at h; exact h.2
    apply wpIn_seq
    split at hk
    · refine wpIn_mono (ihx hrx _ st E M a w hk h) fun e a' w' hp => ?_
      cases e with
      | normal => obtain ⟨M', st', h1, h2⟩ := hp; exact ihy hry _ _ _ _ _ _ h2 h1
      | _ => exact hp
    · obtain ⟨J, hk, hJ⟩ := hk
      refine wpIn_mono (ihx hrx _ st E M a w hk h) fun e a' w' hp => ?_
      cases e with
      | normal => obtain ⟨M', st', h1, h2⟩ := hp; obtain ⟨M2, st2, h3, h4⟩ := h2 E M' a' w' rfl h1; exact ihy hry _ _ _ _ _ _ (hJ _ h3) h4
      | _ => exact hp
  | cond c x y ihx ihy =>
    intro hro K st E M a w hk h
    simp only [vc] at hk
    have hc := h.ev c
    cases hs : st.ev c with
    | bool t =>
      simp only [hs] at hk
      rw [hs] at hc
      simp only [RV] at hc
      have hle : Rel P E M (st.learn c t) a w := by
        cases c with
        | tmp d => show Rel P E M (st.put (some d) (.bool t)) a w; rw [put_self hs]; exact h
        | _ => exact h
      exact wpIn_cond_split hc (fun ht => ihx (hro.imp (fun h => h) fun h => by simp only [noRange, Bool.and_eq_true] at h; exact h.1) _ _ _ _ _ _ (hk.1 ht) (ht ▸ hle)) (fun ht => ihy (hro.imp (fun h => h) fun h => by simp only [noRange, Bool.and_eq_true] at h; exact h.2) _ _ _ _ _ _ (hk.2 ht) (ht ▸ hle))
    | _ => simp only [hs] at hk
  | block id c ih =>
    intro hro K st E M a w hk h
    simp only [vc] at hk
    apply wpIn_block
    refine wpIn_mono (ih (hro.imp (fun h => h) fun h => by simpa only [noRange] using h) _ st E M a w hk h) fun e a' w' hp => ?_
    cases e with
    | exit i =>
      obtain ⟨M', st', h1, h2⟩ := hp
      simp only [Exit.inBlock]
      simp only [] at h2
      split at h2
      · rename_i he; rw [if_pos he]; exact ⟨M', st', h1, h2⟩
      · rename_i he; rw [if_neg he]; exact ⟨M', st', h1, h2⟩
    | _ => exact hp
  | loop c ih =>
    intro hro K st E M a w hk h
    obtain ⟨I, hg0, hround⟩ := hk
    obtain ⟨M0, st0, ⟨i0, hI0⟩, h0⟩ := hg0 E M a w rfl h
    classical
    have hl : ∀ a w, (∃ i M st, I i st ∧ Rel P E M st a w) → ∃ i, (∃ M st, I i st ∧ Rel P E M st a w) ∧ ∀ j, (∃ M st, I j st ∧ Rel P E M st a w) → i ≤ j := fun a w hx => least hx
    refine wpIn_loop (fun a w => ∃ i M st, I i st ∧ Rel P E M st a w) (fun a w => if hx : ∃ i M st, I i st ∧ Rel P E M st a w then Classical.choose (hl a w hx) else 0) ⟨i0, _, _, hI0, h0⟩ fun a w hx => ?_
    obtain ⟨⟨M, st, h1, h2⟩, hmin⟩ := Classical.choose_spec (hl a w hx)
    refine wpIn_mono (ih (hro.imp (fun h => h) fun h => by simpa only [noRange] using h) _ st E M a w (hround _ _ h1) h2) fun e a' w' hp => ?_
    cases e with
    | normal =>
      obtain ⟨M1, st1, g1, hg⟩ := hp
      obtain ⟨M', st', ⟨i', g3, g4⟩, g5⟩ := hg E M1 a' w' rfl g1
      have hx' : ∃ i M st, I i st ∧ Rel P E M st a' w' := ⟨i', _, _, g4, g5⟩
      refine ⟨hx', ?_⟩
      rw [dif_pos hx', dif_pos hx]
      exact Nat.lt_of_le_of_lt ((Classical.choose_spec (hl a' w' hx')).2 i' ⟨_, _, g4, g5⟩) g3
    | _ => exact hp
  | exit id => intro hro K st E M a w hk h; exact wpIn_exit ⟨M, st, h, hk⟩
  | ret => intro hro K st E M a w hk h; exact wpIn_ret ⟨M, st, h, hk⟩
  | rangeFunc g ps assign body _ _ =>
    intro hro K st E M a w hk h
    obtain rfl : ro = none := hro.resolve_right (by simp [noRange])
    simp only [vc] at hk
    split at hk
    · rename_i f x y hv
      have hg := h.ev g
      rw [hv] at hg
      simp only [RV] at hg
      obtain ⟨us, vs, hu, hx, hy⟩ := hg
      exact range_sound h hu hx hy hk
    · exact hk.elim
  | scope => intro hro K st E M a w hk; exact absurd hk (by simp [vc])
  | label => intro hro K st E M a w hk; exact absurd hk (by simp [vc])
  | goto => intro hro K st E M a w hk; exact absurd hk (by simp [vc])
  | refuse => intro hro K st E M a w hk; exact absurd hk (by simp [vc])

end
end Go.Proofs.Ytncnnbjhginpfaa
