/- Quiet operations: one value, and it stays as long as what they look at stays. Conditions: none; plain lemmas. -/
import Derived.Test.YtncnnbjhginpfaaCxO
namespace Go.Proofs.Ytncnnbjhginpfaa
set_option linter.unusedVariables false
set_option linter.unusedSimpArgs false
set_option linter.unnecessarySimpa false
open Go.RowKit

section
variable {P : Program} {st : St} {k : V → St → Prop}

/-- Wherever the objects named in 'vs' are the same. -/
def Same (vs : List V) (st st' : St) : Prop := ∀ v ∈ vs, ∀ n, nm v = some n → st'.σ[n]? = st.σ[n]?

theorem loadVC_rep {t : TypeId} {cs : List V} {off : Nat} (h : loadVC P t cs off st k) : ∃ r, k r st ∧ ∀ st' (k' : V → St → Prop), k' r st' → loadVC P t cs off st' k' := by
  unfold loadVC at h
  obtain ⟨h1, h⟩ := h
  cases hb : isAggB P t with
  | true =>
    simp only [hb, if_true] at h
    exact ⟨_, h.2, fun st' k' hk => ⟨h1, by simp only [hb, if_true]; exact ⟨h.1, hk⟩⟩⟩
  | false =>
    simp only [hb, Bool.false_eq_true, if_false] at h
    obtain ⟨h2, v, h3, h4⟩ := h
    exact ⟨v, h4, fun st' k' hk => ⟨h1, by simp only [hb, Bool.false_eq_true, if_false]; exact ⟨h2, .mk v h3 hk⟩⟩⟩

theorem atVC_rep {t : TypeId} {v : V} (h : atVC P t v st k) : ∃ r, k r st ∧ ∀ st' (k' : V → St → Prop), Same [v] st st' → k' r st' → atVC P t v st' k' := by
  cases v <;> simp only [atVC] at h ⊢
  case ptr n off =>
    cases hc : (st.σ[n]?).bind Ob.rd with
    | none => simp only [hc] at h
    | some cs =>
      simp only [hc] at h
      obtain ⟨r, h1, h2⟩ := loadVC_rep h
      refine ⟨r, h1, fun st' k' hs hk => ?_⟩
      rw [hs (.ptr n off) (by simp) n rfl, hc]
      exact h2 _ _ hk
  case fptr cs =>
    obtain ⟨r, h1, h2⟩ := loadVC_rep h
    exact ⟨r, h1, fun st' k' _ hk => h2 _ _ hk⟩

theorem pickVC_rep {c x y : V} (h : pickVC c x y st k) : ∃ r, k r st ∧ ∀ st' (k' : V → St → Prop), k' r st' → pickVC c x y st' k' := by
  cases c <;> simp only [pickVC] at h ⊢
  case bool t => cases t <;> simp only [bcase, Bool.false_eq_true, false_implies, true_implies, and_true, true_and, reduceCtorEq] at h ⊢ <;> exact ⟨_, h, fun _ _ hk => hk⟩

theorem nilCheckVC_rep {v : V} (h : nilCheckVC v st k) : ∃ r, k r st ∧ ∀ st' (k' : V → St → Prop), k' r st' → nilCheckVC v st' k' := by
  cases v <;> simp only [nilCheckVC] at h ⊢
  case ptr => exact ⟨_, h, fun _ _ hk => hk⟩
  case fptr => exact ⟨_, h, fun _ _ hk => hk⟩
  case fn f x y => cases f <;> simp only at h ⊢; exact ⟨_, h, fun _ _ hk => hk⟩

theorem makeIfaceVC_rep {t : TypeId} {v : V} (h : makeIfaceVC P t v st k) : ∃ r, k r st ∧ ∀ st' (k' : V → St → Prop), k' r st' → makeIfaceVC P t v st' k' := by
  unfold makeIfaceVC at h ⊢
  split at h
  · exact h.elim
  · exact ⟨_, h, fun _ _ hk => hk⟩
  · exact h.elim

theorem extractVC_rep {v : V} {i : Nat} (h : extractVC v i st k) : ∃ r, k r st ∧ ∀ st' (k' : V → St → Prop), k' r st' → extractVC v i st' k' := by
  cases v <;> simp only [extractVC] at h ⊢
  case tup vs =>
    cases hv : vs[i]? with
    | none => simp only [hv] at h
    | some v => simp only [hv] at h ⊢; exact ⟨_, h, fun _ _ hk => hk⟩

theorem fieldVC_rep {t : TypeId} {v : V} {f : Nat} (h : fieldVC P t v f st k) : ∃ r, k r st ∧ ∀ st' (k' : V → St → Prop), k' r st' → fieldVC P t v f st' k' := by
  unfold fieldVC at h ⊢
  split at h
  · split at h
    · cases v <;> simp only at h ⊢
      exact loadVC_rep h
    · exact h.elim
  · exact h.elim

theorem fieldAddrVC_rep {t : TypeId} {v : V} {f : Nat} (h : fieldAddrVC P t v f st k) : ∃ r, k r st ∧ ∀ st' (k' : V → St → Prop), k' r st' → fieldAddrVC P t v f st' k' := by
  unfold fieldAddrVC at h ⊢
  split at h
  · split at h
    · obtain ⟨h1, h2, h⟩ := h
      cases v <;> simp only at h ⊢
      case ptr => exact ⟨_, h, fun _ _ hk => ⟨h1, h2, hk⟩⟩
      case fptr => exact ⟨_, h, fun _ _ hk => ⟨h1, h2, hk⟩⟩
    · exact h.elim
  · exact h.elim

theorem indexAddrVC_rep {t : TypeId} {v ix : V} (h : indexAddrVC P t v ix st k) : ∃ r, k r st ∧ ∀ st' (k' : V → St → Prop), k' r st' → indexAddrVC P t v ix st' k' := by
  cases ix <;> simp only [indexAddrVC] at h ⊢
  split at h
  · obtain ⟨h1, h⟩ := h
    cases v <;> simp only at h ⊢
    case sl => exact ⟨_, h.2.2, fun _ _ hk => ⟨h1, h.1, h.2.1, hk⟩⟩
    case frz => exact ⟨_, h.2.2.2.2, fun _ _ hk => ⟨h1, h.1, h.2.1, h.2.2.1, h.2.2.2.1, hk⟩⟩
  · obtain ⟨h1, h2, h3, h⟩ := h
    cases v <;> simp only at h ⊢
    case ptr => exact ⟨_, h, fun _ _ hk => ⟨h1, h2, h3, hk⟩⟩
    case fptr => exact ⟨_, h, fun _ _ hk => ⟨h1, h2, h3, hk⟩⟩
  · exact h.elim

theorem indexVC_rep {t : TypeId} {v ix : V} (h : indexVC P t v ix st k) : ∃ r, k r st ∧ ∀ st' (k' : V → St → Prop), k' r st' → indexVC P t v ix st' k' := by
  cases ix <;> simp only [indexVC] at h ⊢
  obtain ⟨h0, h⟩ := h
  split at h
  · obtain ⟨h1, h2, h⟩ := h
    obtain ⟨r, g1, g2⟩ := loadVC_rep h
    exact ⟨r, g1, fun _ _ hk => ⟨h0, h1, h2, g2 _ _ hk⟩⟩
  · obtain ⟨b, h1, h2⟩ := h
    exact ⟨_, h2, fun _ _ hk => ⟨h0, b, h1, hk⟩⟩
  · exact h.elim

theorem lenVC_rep {t : TypeId} {v : V} (h : lenVC P t v st k) : ∃ r, k r st ∧ ∀ st' (k' : V → St → Prop), Same [v] st st' → k' r st' → lenVC P t v st' k' := by
  unfold lenVC at h ⊢
  split at h
  · exact ⟨_, h, fun _ _ _ hk => hk⟩
  · exact ⟨_, h, fun _ _ _ hk => hk⟩
  · exact ⟨_, h, fun _ _ _ hk => hk⟩
  · exact ⟨_, h, fun _ _ _ hk => hk⟩
  · exact ⟨_, h, fun _ _ _ hk => hk⟩
  · exact ⟨_, h, fun _ _ _ hk => hk⟩
  · exact ⟨_, h, fun _ _ _ hk => hk⟩
  · rename_i n _
    cases hn : st.σ[n]? with
    | none => simp only [hn] at h
    | some o =>
      cases o <;> simp only [hn] at h
      refine ⟨_, h, fun st' k' hs hk => ?_⟩
      simp only [hs (.mp n) (by simp) n rfl, hn]; exact hk
  · exact h.elim

theorem convVC_rep {s d : TypeId} {v : V} {kk : V → Prop} (h : convVC P s d v kk) : ∃ r, kk r ∧ ∀ k' : V → Prop, k' r → convVC P s d v k' := by
  unfold convVC at h ⊢
  split at h
  · exact ⟨_, h, fun _ hk => hk⟩
  · exact ⟨_, h, fun _ hk => hk⟩
  · exact h.elim

theorem binVC_rep {op : BinOp} {t : TypeId} {x y : V} {kk : V → Prop} (h : binVC P op t x y kk) : ∃ r, kk r ∧ ∀ k' : V → Prop, k' r → binVC P op t x y k' := by
  unfold binVC at h ⊢
  split at h
  · cases op <;> simp only [] at h ⊢ <;> first
      | (obtain ⟨h1, h2, h3⟩ := h; exact ⟨_, h3, fun _ hk => ⟨h1, h2, hk⟩⟩)
      | (obtain ⟨h1, h2⟩ := h; exact ⟨_, h2, fun _ hk => ⟨h1, hk⟩⟩)
  · cases op <;> simp only [] at h ⊢ <;> first
      | exact h.elim
      | (obtain ⟨h1, h2⟩ := h; exact ⟨_, h2, fun _ hk => ⟨h1, hk⟩⟩)
      | exact ⟨_, h, fun _ hk => hk⟩
  · cases op <;> simp only [] at h ⊢ <;> first
      | exact h.elim
      | (obtain ⟨b, h1, h2⟩ := h; exact ⟨_, h2, fun _ hk => ⟨b, h1, hk⟩⟩)

theorem unVC_rep {op : UnOp} {x : V} {kk : V → Prop} (h : unVC op x kk) : ∃ r, kk r ∧ ∀ k' : V → Prop, k' r → unVC op x k' := by
  unfold unVC at h ⊢
  split at h
  · exact ⟨_, h, fun _ hk => hk⟩
  · exact ⟨_, h, fun _ hk => hk⟩
  · exact ⟨_, h, fun _ hk => hk⟩
  · exact h.elim

theorem minVC_rep {mx : Bool} {x y : V} {kk : V → Prop} (h : minVC mx x y kk) : ∃ r, kk r ∧ ∀ k' : V → Prop, k' r → minVC mx x y k' := by
  unfold minVC at h ⊢
  split at h
  · exact ⟨_, h, fun _ hk => hk⟩
  · exact h.elim

theorem bndV_rep {x : Option V} {d : Nat} {K : Nat → Prop} (h : bndV x d K) : ∃ n, K n ∧ ∀ K' : Nat → Prop, K' n → bndV x d K' := by
  cases x with
  | none => exact ⟨d, h, fun _ hk => hk⟩
  | some v =>
    cases v <;> simp only [bndV] at h ⊢
    exact ⟨_, h.2, fun _ hk => ⟨h.1, hk⟩⟩

theorem bnds_rep {hi lo mx : Option V} {dm dh : Nat} {K : Nat → Nat → Nat → Prop} {n : Nat} (h : bndV mx dm fun m => m ≤ n ∧ bndV hi dh fun hh => hh ≤ m ∧ bndV lo 0 fun l => l ≤ hh ∧ K m hh l) :
    ∃ m hh l, K m hh l ∧ ∀ K' : Nat → Nat → Nat → Prop, K' m hh l → bndV mx dm fun m => m ≤ n ∧ bndV hi dh fun hh => hh ≤ m ∧ bndV lo 0 fun l => l ≤ hh ∧ K' m hh l := by
  obtain ⟨m, ⟨m1, m2⟩, m3⟩ := bndV_rep h
  obtain ⟨hh, ⟨h1, h2⟩, h3⟩ := bndV_rep m2
  obtain ⟨l, ⟨l1, l2⟩, l3⟩ := bndV_rep h2
  exact ⟨m, hh, l, l2, fun K' hk => m3 _ ⟨m1, h3 _ ⟨h1, l3 _ ⟨l1, hk⟩⟩⟩⟩

theorem sliceVC_rep {t : TypeId} {v : V} {lo hi mx : Option V} (h : sliceVC P t v lo hi mx st k) : ∃ r, k r st ∧ ∀ st' (k' : V → St → Prop), Same [v] st st' → k' r st' → sliceVC P t v lo hi mx st' k' := by
  unfold sliceVC at h ⊢
  split at h
  · cases v <;> simp only at h ⊢
    obtain ⟨h0, h⟩ := h
    obtain ⟨hh, ⟨h1, h2⟩, h3⟩ := bndV_rep h
    obtain ⟨l, ⟨l1, l2⟩, l3⟩ := bndV_rep h2
    exact ⟨_, l2, fun _ _ _ hk => ⟨h0, h3 _ ⟨h1, l3 _ ⟨l1, hk⟩⟩⟩⟩
  · obtain ⟨h0, h⟩ := h
    cases v <;> simp only at h ⊢
    case nils =>
      obtain ⟨h1, h⟩ := h
      obtain ⟨m, hh, l, g1, g2⟩ := bnds_rep (K := fun _ _ _ => k .nils st) h
      exact ⟨_, g1, fun st' k' _ hk => ⟨h0, h1, g2 (fun _ _ _ => k' .nils st') hk⟩⟩
    case esl =>
      obtain ⟨h1, h⟩ := h
      obtain ⟨m, hh, l, g1, g2⟩ := bnds_rep (K := fun _ _ _ => k .esl st) h
      exact ⟨_, g1, fun st' k' _ hk => ⟨h0, h1, g2 (fun _ _ _ => k' .esl st') hk⟩⟩
    case sl ow n off len =>
      obtain ⟨h1, h⟩ := h
      obtain ⟨m, hh, l, ⟨g1, g1'⟩, g2⟩ := bnds_rep h
      by_cases hc : mx.isSome = true ∧ m = l
      · exact ⟨_, g1 hc, fun st' k' _ hk => ⟨h0, h1, g2 _ ⟨fun _ => hk, fun hn => absurd hc hn⟩⟩⟩
      · refine ⟨_, g1' hc, fun st' k' hs hk => ⟨h0, h1, g2 _ ⟨fun hn => absurd hn hc, fun _ => ?_⟩⟩⟩
        rw [hs (.sl ow n off len) (by simp) n rfl]; exact hk
    case frz cs len =>
      obtain ⟨h1, h⟩ := h
      obtain ⟨m, hh, l, ⟨g1, g1'⟩, g2⟩ := bnds_rep h
      by_cases hc : mx.isSome = true ∧ m = l
      · exact ⟨_, g1 hc, fun st' k' _ hk => ⟨h0, h1, g2 _ ⟨fun _ => hk, fun hn => absurd hc hn⟩⟩⟩
      · exact ⟨_, g1' hc, fun st' k' hs hk => ⟨h0, h1, g2 _ ⟨fun hn => absurd hn hc, fun _ => hk⟩⟩⟩
  · obtain ⟨h0, h1, h2, h⟩ := h
    obtain ⟨hh, ⟨a1, a2⟩, a3⟩ := bndV_rep h
    obtain ⟨l, ⟨l1, l2⟩, l3⟩ := bndV_rep a2
    cases v <;> simp only at l2
    case ptr => exact ⟨_, l2, fun _ _ _ hk => ⟨h0, h1, h2, a3 _ ⟨a1, l3 _ ⟨l1, hk⟩⟩⟩⟩
    case fptr => exact ⟨_, l2, fun _ _ _ hk => ⟨h0, h1, h2, a3 _ ⟨a1, l3 _ ⟨l1, hk⟩⟩⟩⟩
  · exact h.elim

theorem buildVC_rep {t : TypeId} {ps : List (Nat × V)} (h : buildVC P t ps st k) : ∃ r, k r st ∧ ∀ st' (k' : V → St → Prop), k' r st' → buildVC P t ps st' k' := by
  unfold buildVC at h ⊢
  split at h
  · obtain ⟨h1, h⟩ := h
    split at h
    · rename_i cs hf; exact ⟨_, h, fun st' k' hk => ⟨h1, hk⟩⟩
    · exact h.elim
  · obtain ⟨h1, h⟩ := h
    split at h
    · rename_i cs hf; exact ⟨_, h, fun st' k' hk => ⟨h1, hk⟩⟩
    · exact h.elim
  · exact h.elim

/-- A quiet operation has one value; it has it again wherever what it looks at is the same. -/
theorem quiet_rep {o : Op} {kp : V → St → Prop} (hq : isQ o = true) (h : opVC P o st k kp) : ∃ r, k r st ∧
    ∀ st' (k' kp' : V → St → Prop), (∀ x ∈ opsL o, st'.ev x = st.ev x) → (∀ x ∈ opsL o, ∀ n, nm (st.ev x) = some n → st'.σ[n]? = st.σ[n]?) → k' r st' → opVC P o st' k' kp' := by
  have lm : ∀ (st' : St) (l : List Operand), (∀ x ∈ l, st'.ev x = st.ev x) → l.map st'.ev = l.map st.ev := fun st' l hl => List.map_congr_left hl
  cases o with
  | move x => exact ⟨_, h, fun st' k' kp' he _ hk => by simp only [opVC]; rw [he x (by simp [opsL])]; exact hk⟩
  | pick c x y =>
    obtain ⟨r, h1, h2⟩ := pickVC_rep h
    exact ⟨r, h1, fun st' k' kp' he _ hk => by simp only [opVC]; rw [he c (by simp [opsL]), he x (by simp [opsL]), he y (by simp [opsL])]; exact h2 _ _ hk⟩
  | load t x =>
    obtain ⟨r, h1, h2⟩ := atVC_rep h
    exact ⟨r, h1, fun st' k' kp' he hs hk => by simp only [opVC]; rw [he x (by simp [opsL])]; exact h2 _ _ (fun v hv n hn => by simp at hv; subst hv; exact hs x (by simp [opsL]) n hn) hk⟩
  | nilCheck x =>
    obtain ⟨r, h1, h2⟩ := nilCheckVC_rep h
    exact ⟨r, h1, fun st' k' kp' he _ hk => by simp only [opVC]; rw [he x (by simp [opsL])]; exact h2 _ _ hk⟩
  | binOp op t x y ty =>
    obtain ⟨r, h1, h2⟩ := binVC_rep (kk := fun v => k v st) h
    exact ⟨r, h1, fun st' k' kp' he _ hk => by simp only [opVC]; rw [he x (by simp [opsL]), he y (by simp [opsL])]; exact h2 (fun v => k' v st') hk⟩
  | unOp op t x =>
    obtain ⟨r, h1, h2⟩ := unVC_rep (kk := fun v => k v st) h
    exact ⟨r, h1, fun st' k' kp' he _ hk => by simp only [opVC]; rw [he x (by simp [opsL])]; exact h2 (fun v => k' v st') hk⟩
  | convert s d x =>
    obtain ⟨r, h1, h2⟩ := convVC_rep (kk := fun v => k v st) h
    exact ⟨r, h1, fun st' k' kp' he _ hk => by simp only [opVC]; rw [he x (by simp [opsL])]; exact h2 (fun v => k' v st') hk⟩
  | makeInterface t x =>
    obtain ⟨r, h1, h2⟩ := makeIfaceVC_rep h
    exact ⟨r, h1, fun st' k' kp' he _ hk => by simp only [opVC]; rw [he x (by simp [opsL])]; exact h2 _ _ hk⟩
  | makeFunc f x y =>
    exact ⟨_, h, fun st' k' kp' he _ hk => by simp only [opVC]; rw [lm st' _ fun z hz => he z (by simp only [opsL, List.mem_append]; exact .inl hz), lm st' _ fun z hz => he z (by simp only [opsL, List.mem_append]; exact .inr hz)]; exact hk⟩
  | slice t x lo hi mx =>
    obtain ⟨r, h1, h2⟩ := sliceVC_rep h
    have om : ∀ (st' : St) (z : Option Operand), (∀ y ∈ z, st'.ev y = st.ev y) → z.map st'.ev = z.map st.ev := fun st' z hz => by cases z with | none => rfl | some y => simp [hz y rfl]
    exact ⟨r, h1, fun st' k' kp' he hs hk => by
      simp only [opVC]
      rw [he x (by simp [opsL]), om st' lo fun y hy => he y (by have := Option.mem_def.1 hy; simp [opsL, this]), om st' hi fun y hy => he y (by have := Option.mem_def.1 hy; simp [opsL, this]), om st' mx fun y hy => he y (by have := Option.mem_def.1 hy; simp [opsL, this])]
      exact h2 _ _ (fun v hv n hn => by simp at hv; subst hv; exact hs x (by simp [opsL]) n hn) hk⟩
  | fieldAddr t x f =>
    obtain ⟨r, h1, h2⟩ := fieldAddrVC_rep h
    exact ⟨r, h1, fun st' k' kp' he _ hk => by simp only [opVC]; rw [he x (by simp [opsL])]; exact h2 _ _ hk⟩
  | field t x f =>
    obtain ⟨r, h1, h2⟩ := fieldVC_rep h
    exact ⟨r, h1, fun st' k' kp' he _ hk => by simp only [opVC]; rw [he x (by simp [opsL])]; exact h2 _ _ hk⟩
  | indexAddr t x y =>
    obtain ⟨r, h1, h2⟩ := indexAddrVC_rep h
    exact ⟨r, h1, fun st' k' kp' he _ hk => by simp only [opVC]; rw [he x (by simp [opsL]), he y (by simp [opsL])]; exact h2 _ _ hk⟩
  | index t x y =>
    obtain ⟨r, h1, h2⟩ := indexVC_rep h
    exact ⟨r, h1, fun st' k' kp' he _ hk => by simp only [opVC]; rw [he x (by simp [opsL]), he y (by simp [opsL])]; exact h2 _ _ hk⟩
  | extract x i =>
    obtain ⟨r, h1, h2⟩ := extractVC_rep h
    exact ⟨r, h1, fun st' k' kp' he _ hk => by simp only [opVC]; rw [he x (by simp [opsL])]; exact h2 _ _ hk⟩
  | build t ps =>
    obtain ⟨r, h1, h2⟩ := buildVC_rep h
    refine ⟨r, h1, fun st' k' kp' he _ hk => ?_⟩
    have : partsV st' ps = partsV st ps := List.map_congr_left fun x hx => by rw [he x.2 (by simp only [opsL]; exact List.mem_map_of_mem hx)]
    simp only [opVC]; rw [this]; exact h2 _ _ hk
  | call c =>
    obtain ⟨cal, args, ats⟩ := c
    simp only [opVC, callOpVC] at h ⊢
    cases cal with
    | value f => simp [isQ] at hq
    | invoke r m => simp [isQ] at hq
    | builtin b =>
      simp only [] at h ⊢
      split at h
      · rename_i x t ha ht
        obtain ⟨r, h1, h2⟩ := lenVC_rep h
        refine ⟨r, h1, fun st' k' kp' he hs hk => ?_⟩
        rw [he x (by simp [opsL, ha])]
        exact h2 _ _ (fun v hv n hn => by simp at hv; subst hv; exact hs x (by simp [opsL, ha]) n hn) hk
      · simp [isQ] at hq
      · rename_i x y ha
        obtain ⟨r, h1, h2⟩ := minVC_rep (kk := fun v => k v st) h
        refine ⟨r, h1, fun st' k' kp' he hs hk => ?_⟩
        rw [he x (by simp [opsL, ha]), he y (by simp [opsL, ha])]
        exact h2 (fun v => k' v st') hk
      · rename_i x y ha
        obtain ⟨r, h1, h2⟩ := minVC_rep (kk := fun v => k v st) h
        refine ⟨r, h1, fun st' k' kp' he hs hk => ?_⟩
        rw [he x (by simp [opsL, ha]), he y (by simp [opsL, ha])]
        exact h2 (fun v => k' v st') hk
      · simp [isQ] at hq
      · simp [isQ] at hq
      · exact h.elim
  | _ => simp [isQ] at hq

end
end Go.Proofs.Ytncnnbjhginpfaa
