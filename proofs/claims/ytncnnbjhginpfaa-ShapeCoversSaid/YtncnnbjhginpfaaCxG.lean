/- The operations, one by one, part 3: numbers, slices of slices, composites. Conditions: none; plain definitions and lemmas. -/
import Derived.Test.YtncnnbjhginpfaaCxF
namespace Go.Proofs.Ytncnnbjhginpfaa
set_option linter.unusedVariables false
set_option linter.unusedSimpArgs false
set_option linter.unnecessarySimpa false
open Go.RowKit

section
variable {P : Program} {E : En} {M M' : Env} {st : St} {a : Act} {w w' : World} {X : Nat → Prop} {σ σ' : List Ob} {π ρ : Nat → Option Nat} {ok : Nat → Prop} {k kp : V → St → Prop}

/-! ### Numbers, strings, bools -/
def bitsV (op : BinOp) (k : IntKind) (x y : Int) : Int :=
  match op with
  | .and => k.wrap (BitVec.ofInt k.bits x &&& BitVec.ofInt k.bits y).toNat
  | .or => k.wrap (BitVec.ofInt k.bits x ||| BitVec.ofInt k.bits y).toNat
  | .xor => k.wrap (BitVec.ofInt k.bits x ^^^ BitVec.ofInt k.bits y).toNat
  | .andNot => k.wrap (BitVec.ofInt k.bits x &&& ~~~ (BitVec.ofInt k.bits y)).toNat
  | _ => 0

/-- What an equation of two values comes to, whatever memory they stand in. -/
def EqRun (P : Program) (t : TypeId) (x y : V) (b : Bool) : Prop :=
  ∀ (w : World) (ok : Nat → Prop) (ρ : Nat → Option Nat) (u v : Value) (ox oy : Operand), RV P w ok x ρ u → RV P w ok y ρ v →
    ((do eqGuard .eql t ox oy u v; binOp .eql t u v) : Sem Value).run P w = .ok (.bool b) w ∧
    ((do eqGuard .neq t ox oy u v; binOp .neq t u v) : Sem Value).run P w = .ok (.bool (!b)) w

def binVC (P : Program) (op : BinOp) (t : TypeId) (x y : V) (k : V → Prop) : Prop :=
  match x, y with
  | .int i a, .int j b => (match op with
    | .shl => 0 ≤ b ∧ k (.int i (i.wrap (a * 2 ^ (min b.toNat i.bits))))
    | .shr => 0 ≤ b ∧ k (.int i (a.fdiv (2 ^ (min b.toNat i.bits))))
    | .add => sameK i j (k (.int i (i.wrap (a + b))))
    | .sub => sameK i j (k (.int i (i.wrap (a - b))))
    | .mul => sameK i j (k (.int i (i.wrap (a * b))))
    | .quo => sameK i j (b ≠ 0 ∧ k (.int i (i.wrap (a.tdiv b))))
    | .rem => sameK i j (b ≠ 0 ∧ k (.int i (a.tmod b)))
    | .and => sameK i j (k (.int i (bitsV .and i a b)))
    | .or => sameK i j (k (.int i (bitsV .or i a b)))
    | .xor => sameK i j (k (.int i (bitsV .xor i a b)))
    | .andNot => sameK i j (k (.int i (bitsV .andNot i a b)))
    | .eql => sameK i j (k (.bool (a == b)))
    | .neq => sameK i j (k (.bool (a != b)))
    | .lss => sameK i j (k (.bool (decide (a < b))))
    | .leq => sameK i j (k (.bool (decide (a ≤ b))))
    | .gtr => sameK i j (k (.bool (decide (a > b))))
    | .geq => sameK i j (k (.bool (decide (a ≥ b)))))
  | .str s, .str r => (match op with
    | .add => s.size + r.size ≤ 9223372036854775807 ∧ k (.str (s ++ r))
    | .eql => k (.bool (s.toList == r.toList))
    | .neq => k (.bool (!(s.toList == r.toList)))
    | _ => False)
  | x, y => (match op with
    | .eql => ∃ b, EqRun P t x y b ∧ k (.bool b)
    | .neq => ∃ b, EqRun P t x y b ∧ k (.bool (!b))
    | _ => False)

theorem run_eqGuard_plain {op : BinOp} {t : TypeId} {ox oy : Operand} {u v : Value} (h : (match u, v with | .nilIface, .nilIface => False | .agg _, .agg _ => False | _, _ => True)) :
    (eqGuard op t ox oy u v).run P w = .ok () w := by
  cases u <;> cases v <;> first | exact h.elim | (cases op <;> simp [eqGuard])

theorem binVC_run {op : BinOp} {t : TypeId} {x y : V} {kk : V → Prop} {u v : Value} {ox oy : Operand} (hk : binVC P op t x y kk) (hx : RV P w ok x ρ u) (hy : RV P w ok y ρ v) :
    ∃ r z, ((do eqGuard op t ox oy u v; binOp op t u v) : Sem Value).run P w = .ok r w ∧ kk z ∧ (∀ ρ', RV P w ok z ρ' r) := by
  unfold binVC at hk
  split at hk
  · rename_i i a j b
    simp only [RV] at hx hy
    subst hx hy
    cases op <;> simp only at hk
    case shl => exact ⟨_, _, by simp [eqGuard, binOp, Op.shift, hk.1, show ¬ b < 0 by omega]; rfl, hk.2, fun _ => by simp [RV]⟩
    case shr => exact ⟨_, _, by simp [eqGuard, binOp, Op.shift, hk.1, show ¬ b < 0 by omega]; rfl, hk.2, fun _ => by simp [RV]⟩
    all_goals obtain ⟨rfl, hk⟩ := hk
    case add => exact ⟨_, _, by simp [eqGuard, binOp, Op.intArith]; rfl, hk, fun _ => by simp [RV]⟩
    case sub => exact ⟨_, _, by simp [eqGuard, binOp, Op.intArith]; rfl, hk, fun _ => by simp [RV]⟩
    case mul => exact ⟨_, _, by simp [eqGuard, binOp, Op.intArith]; rfl, hk, fun _ => by simp [RV]⟩
    case quo => exact ⟨_, _, by simp [eqGuard, binOp, Op.intDiv, hk.1]; rfl, hk.2, fun _ => by simp [RV]⟩
    case rem => exact ⟨_, _, by simp [eqGuard, binOp, Op.intDiv, hk.1]; rfl, hk.2, fun _ => by simp [RV]⟩
    case and => exact ⟨_, _, by simp [eqGuard, binOp, Op.intBits]; rfl, hk, fun _ => by simp [RV, bitsV]⟩
    case or => exact ⟨_, _, by simp [eqGuard, binOp, Op.intBits]; rfl, hk, fun _ => by simp [RV, bitsV]⟩
    case xor => exact ⟨_, _, by simp [eqGuard, binOp, Op.intBits]; rfl, hk, fun _ => by simp [RV, bitsV]⟩
    case andNot => exact ⟨_, _, by simp [eqGuard, binOp, Op.intBits]; rfl, hk, fun _ => by simp [RV, bitsV]⟩
    case eql => exact ⟨_, _, by simp [eqGuard, binOp, Op.intCmp]; rfl, hk, fun _ => by simp [RV]⟩
    case neq => exact ⟨_, _, by simp [eqGuard, binOp, Op.intCmp]; rfl, hk, fun _ => by simp [RV]⟩
    case lss => exact ⟨_, _, by simp [eqGuard, binOp, Op.intCmp]; rfl, hk, fun _ => by simp [RV]⟩
    case leq => exact ⟨_, _, by simp [eqGuard, binOp, Op.intCmp]; rfl, hk, fun _ => by simp [RV]⟩
    case gtr => exact ⟨_, _, by simp [eqGuard, binOp, Op.intCmp]; rfl, hk, fun _ => by simp [RV]⟩
    case geq => exact ⟨_, _, by simp [eqGuard, binOp, Op.intCmp]; rfl, hk, fun _ => by simp [RV]⟩
  · rename_i s r
    simp only [RV] at hx hy
    subst hx hy
    cases op <;> simp only at hk
    case add => 
      have hn : ¬ (((s.size + r.size : Nat) : Int) > IntKind.i64.max) := by rw [show IntKind.i64.max = 9223372036854775807 from rfl]; have := hk.1; omega
      exact ⟨.string (s ++ r), _, by simp only [eqGuard, binOp, Op.stringOp]; rw [if_neg hn]; simp, hk.2, fun _ => by simp [RV]⟩
    case eql => exact ⟨_, _, by simp [eqGuard, binOp, Op.stringOp]; rfl, hk, fun _ => by simp [RV]⟩
    case neq => exact ⟨_, _, by simp [eqGuard, binOp, Op.stringOp]; rfl, hk, fun _ => by simp [RV]⟩
  · cases op <;> simp only at hk
    case eql =>
      obtain ⟨b, hb, hk⟩ := hk
      exact ⟨.bool b, _, (hb w ok ρ u v ox oy hx hy).1, hk, fun _ => by simp [RV]⟩
    case neq =>
      obtain ⟨b, hb, hk⟩ := hk
      exact ⟨.bool (!b), _, (hb w ok ρ u v ox oy hx hy).2, hk, fun _ => by simp [RV]⟩

theorem bin_q (h : Rel P E M st a w) {op : BinOp} {t yt : TypeId} {x y : Operand} (hk : binVC P op t (st.ev x) (st.ev y) fun v => k v st) {dst ty pos af gd} :
    Quiet P E M st a w (execOp a.eval ⟨dst, .binOp op t x y yt, ty, pos, af, gd⟩) k := by
  obtain ⟨r, z, e1, e2, e3⟩ := binVC_run (ox := x) (oy := y) hk (h.ev x) (h.ev y)
  refine .val (u := r) ?_ e2 h (e3 _)
  simp only [execOp, Sem.run_bind] at e1 ⊢
  rw [e1]; rfl

theorem eqRun_bool {t : TypeId} (ht : P.underlying t = some .bool) (p q : Bool) : EqRun P t (.bool p) (.bool q) (p == q) := by
  intro w ok ρ u v ox oy hx hy
  simp only [RV] at hx hy
  subst hx hy
  have : ∀ d, (Op.equalIn (d + 1) t (.bool p) (.bool q)).run P w = .ok (p == q) w := fun d => by simp [Op.equalIn, run_underlying ht]
  constructor <;> simp [eqGuard, binOp, Op.equal, Op.maxDepth, this 9999]

/-- Two pointers, slices, maps, functions of which one is nil. -/
theorem eqRun_nil_sl {t e : TypeId} (ht : P.underlying t = some (.slice e)) {ow : Bool} {n off len : Nat} : EqRun P t (.sl ow n off len) .nils false := by
  intro w ok ρ u v ox oy hx hy
  simp only [RV] at hx hy
  obtain ⟨g, o, cap, _, rfl, _⟩ := hx
  subst hy
  have : ∀ d, (Op.equalIn (d + 1) t (.slice (some ⟨g, o, none⟩) len cap) (.slice none 0 0)).run P w = .ok false w := fun d => by simp [Op.equalIn, run_underlying ht]
  constructor <;> simp [eqGuard, binOp, Op.equal, Op.maxDepth, this 9999]
theorem eqRun_nils {t e : TypeId} (ht : P.underlying t = some (.slice e)) : EqRun P t .nils .nils true := by
  intro w ok ρ u v ox oy hx hy
  simp only [RV] at hx hy
  subst hx hy
  have : ∀ d, (Op.equalIn (d + 1) t (.slice none 0 0) (.slice none 0 0)).run P w = .ok true w := fun d => by simp [Op.equalIn, run_underlying ht]
  constructor <;> simp [eqGuard, binOp, Op.equal, Op.maxDepth, this 9999]
theorem eqRun_nil_ptr {t e : TypeId} (ht : P.underlying t = some (.pointer e)) {n off : Nat} : EqRun P t (.ptr n off) .nilp false := by
  intro w ok ρ u v ox oy hx hy
  simp only [RV] at hx hy
  obtain ⟨g, _, rfl⟩ := hx
  subst hy
  have : ∀ d, (Op.equalIn (d + 1) t (.pointer (some ⟨g, off, none⟩)) (.pointer none)).run P w = .ok false w := fun d => by simp [Op.equalIn, run_underlying ht]
  constructor <;> simp [eqGuard, binOp, Op.equal, Op.maxDepth, this 9999]
theorem eqRun_nilp {t e : TypeId} (ht : P.underlying t = some (.pointer e)) : EqRun P t .nilp .nilp true := by
  intro w ok ρ u v ox oy hx hy
  simp only [RV] at hx hy
  subst hx hy
  have : ∀ d, (Op.equalIn (d + 1) t (.pointer none) (.pointer none)).run P w = .ok true w := fun d => by simp [Op.equalIn, run_underlying ht]
  constructor <;> simp [eqGuard, binOp, Op.equal, Op.maxDepth, this 9999]
theorem eqRun_nil_fn {t : TypeId} {ps rs : Array TypeId} {vr : Bool} (ht : P.underlying t = some (.func ps rs vr)) {f : Fn} {x y : List V} : EqRun P t (.fn f x y) .nilf false := by
  intro w ok ρ u v ox oy hx hy
  simp only [RV] at hx hy
  obtain ⟨us, vs, rfl, _⟩ := hx
  subst hy
  have : ∀ d, (Op.equalIn (d + 1) t (.func f us vs) .nilFunc).run P w = .ok false w := fun d => by simp [Op.equalIn, run_underlying ht]
  constructor <;> simp [eqGuard, binOp, Op.equal, Op.maxDepth, this 9999]

def unVC (op : UnOp) (x : V) (k : V → Prop) : Prop :=
  match op, x with
  | .neg, .int i n => k (.int i (i.wrap (0 - n)))
  | .not, .bool b => k (.bool (!b))
  | .xor, .int i n => k (.int i (bitsV .xor i (if i.signed then -1 else i.max) n))
  | _, _ => False
theorem un_q (h : Rel P E M st a w) {op : UnOp} {t : TypeId} {x : Operand} (hk : unVC op (st.ev x) fun v => k v st) {dst ty pos af gd} :
    Quiet P E M st a w (execOp a.eval ⟨dst, .unOp op t x, ty, pos, af, gd⟩) k := by
  have hx := h.ev x
  unfold unVC at hk
  split at hk
  · rename_i i n hv
    rw [hv] at hx; simp only [RV] at hx
    exact .val (u := .int i (i.wrap (0 - n))) (by simp [execOp, Op.unary, Op.intArith, hx]) hk h rfl
  · rename_i b hv
    rw [hv] at hx; simp only [RV] at hx
    exact .val (u := .bool (!b)) (by simp [execOp, Op.unary, hx]) hk h rfl
  · rename_i i n hv
    rw [hv] at hx; simp only [RV] at hx
    exact .val (by simp [execOp, Op.unary, Op.intBits, hx]; rfl) hk h rfl
  · exact hk.elim

def minVC (mx : Bool) (x y : V) (k : V → Prop) : Prop :=
  match x, y with
  | .int i a, .int _ b => k (.int i (if mx then (if b > a then b else a) else (if b < a then b else a)))
  | _, _ => False
theorem min_q (h : Rel P E M st a w) {x y : Operand} {ts : Array TypeId} (hk : minVC false (st.ev x) (st.ev y) fun v => k v st) {dst ty pos af gd} :
    Quiet P E M st a w (execOp a.eval ⟨dst, .call { callee := .builtin .min, args := #[x, y], argTypes := ts }, ty, pos, af, gd⟩) k := by
  have hx := h.ev x
  have hy := h.ev y
  unfold minVC at hk
  split at hk
  · rename_i i p j q hv hv'
    rw [hv] at hx; rw [hv'] at hy; simp only [RV] at hx hy
    refine .val (u := .int i (if q < p then q else p)) ?_ hk h (by simp [RV])
    simp [execOp, resolve, invoke, builtin, Builtin.min_, Builtin.min2, hx, hy]
  · exact hk.elim
theorem max_q (h : Rel P E M st a w) {x y : Operand} {ts : Array TypeId} (hk : minVC true (st.ev x) (st.ev y) fun v => k v st) {dst ty pos af gd} :
    Quiet P E M st a w (execOp a.eval ⟨dst, .call { callee := .builtin .max, args := #[x, y], argTypes := ts }, ty, pos, af, gd⟩) k := by
  have hx := h.ev x
  have hy := h.ev y
  unfold minVC at hk
  split at hk
  · rename_i i p j q hv hv'
    rw [hv] at hx; rw [hv'] at hy; simp only [RV] at hx hy
    refine .val (u := .int i (if q > p then q else p)) ?_ hk h (by simp [RV])
    simp [execOp, resolve, invoke, builtin, Builtin.max_, Builtin.max2, hx, hy]
  · exact hk.elim

end
end Go.Proofs.Ytncnnbjhginpfaa
