/- Soundness of the operations that look at no memory: the theorem. -/
import Derived.Test.YtfdjmooifnmanaaDoorVU
namespace Go.V
section
variable {P : Program} {N : Nat} {D : List Deferred} {R : Hp} {ρ : List Value} {e : Env} {a : Act}

/-- what an operation that looks at no memory comes to -/
def WOk (P : Program) (R : Hp) (ρ : List Value) (o : Oper) (a : Act) (K : SV → Prop) : Prop :=
  ∃ v sv, (∀ w, (execOp a.eval o).run P w = .ok (.value v) w) ∧ Den R ρ sv v ∧ K sv

theorem wok {o : Oper} {K : SV → Prop} {v : Value} {sv : SV} (h : ∀ w, (execOp a.eval o).run P w = .ok (.value v) w) (hd : Den R ρ sv v) (hk : K sv) : WOk P R ρ o a K := ⟨v, sv, h, hd, hk⟩

theorem binI_ok {op : BinOp} {k : IntKind} {x y : Int} {t : TypeId} {K : SV → Prop} (h : binI op k x y K) :
    ∃ v sv, (∀ w, (binOp op t (.int k x) (.int k y)).run P w = .ok v w) ∧ Den R ρ sv v ∧ K sv := by
  cases op <;> simp only [binI] at h
  case add => obtain ⟨r, hr, hk⟩ := h; exact ⟨.int k r, _, fun w => by simp [binOp, Op.intArith, hr], .int _ _, hk⟩
  case sub => obtain ⟨r, hr, hk⟩ := h; exact ⟨.int k r, _, fun w => by simp [binOp, Op.intArith, hr], .int _ _, hk⟩
  case mul => obtain ⟨r, hr, hk⟩ := h; exact ⟨.int k r, _, fun w => by simp [binOp, Op.intArith, hr], .int _ _, hk⟩
  case quo => obtain ⟨h0, ⟨r, hr, hk⟩⟩ := h; exact ⟨.int k r, _, fun w => by simp [binOp, Op.intDiv, h0, hr], .int _ _, hk⟩
  case rem => obtain ⟨h0, hk⟩ := h; exact ⟨.int k (x.tmod y), _, fun w => by simp [binOp, Op.intDiv, h0], .int _ _, hk⟩
  case eql => exact ⟨.bool (decide (x = y)), _, fun w => by simp [binOp, Op.intCmp]; rfl, .bool _, h⟩
  case neq => exact ⟨.bool (!decide (x = y)), _, fun w => by simp [binOp, Op.intCmp]; rfl, .bool _, h⟩
  case lss => exact ⟨.bool (decide (x < y)), _, fun w => by simp [binOp, Op.intCmp], .bool _, h⟩
  case leq => exact ⟨.bool (decide (x ≤ y)), _, fun w => by simp [binOp, Op.intCmp], .bool _, h⟩
  case gtr => exact ⟨.bool (decide (y < x)), _, fun w => by simp [binOp, Op.intCmp], .bool _, h⟩
  case geq => exact ⟨.bool (decide (y ≤ x)), _, fun w => by simp [binOp, Op.intCmp], .bool _, h⟩
  case and => exact ⟨.int k (k.wrap (BitVec.ofInt k.bits x &&& BitVec.ofInt k.bits y).toNat), _, fun w => by simp [binOp, Op.intBits], .int _ _, h⟩
  case or => exact ⟨.int k (k.wrap (BitVec.ofInt k.bits x ||| BitVec.ofInt k.bits y).toNat), _, fun w => by simp [binOp, Op.intBits], .int _ _, h⟩
  case xor => exact ⟨.int k (k.wrap (BitVec.ofInt k.bits x ^^^ BitVec.ofInt k.bits y).toNat), _, fun w => by simp [binOp, Op.intBits], .int _ _, h⟩
  case andNot => exact ⟨.int k (k.wrap (BitVec.ofInt k.bits x &&& ~~~ BitVec.ofInt k.bits y).toNat), _, fun w => by simp [binOp, Op.intBits], .int _ _, h⟩

theorem run_equal_is {t : TypeId} {x y : Value} {b : Bool} {w : World} (h : (Op.equalIn 10000 t x y).run P w = .ok b w) : (Op.equal t x y).run P w = .ok b w := h

theorem binB_ok {op : BinOp} {b : Bool} {t : TypeId} {x y : Value} {K : SV → Prop} (h : binB op b K) (he : ∀ w, (Op.equal t x y).run P w = .ok b w)
    (hx : ∀ op, (op = .eql → binOp op t x y = (do pure (.bool (← Op.equal t x y)))) ∧ (op = .neq → binOp op t x y = (do pure (.bool (!(← Op.equal t x y)))))) :
    ∃ v sv, (∀ w, (binOp op t x y).run P w = .ok v w) ∧ Den R ρ sv v ∧ K sv := by
  cases op <;> simp only [binB] at h
  case eql => exact ⟨.bool b, _, fun w => by rw [(hx .eql).1 rfl]; simp [he w], .bool _, h⟩
  case neq => exact ⟨.bool (!b), _, fun w => by rw [(hx .neq).2 rfl]; simp [he w], .bool _, h⟩

theorem binS_ok {op : BinOp} {s u : Bytes} {t : TypeId} {K : SV → Prop} (h : binS op s u K) :
    ∃ v sv, (∀ w, (binOp op t (.string ⟨s.toArray⟩) (.string ⟨u.toArray⟩)).run P w = .ok v w) ∧ Den R ρ sv v ∧ K sv := by
  cases op <;> simp only [binS] at h
  case add =>
    obtain ⟨hl, hk⟩ := h
    refine ⟨_, _, fun w => ?_, .str _, hk⟩
    have : ¬ (((ByteArray.size ⟨s.toArray⟩ + ByteArray.size ⟨u.toArray⟩ : Nat) : Int) > IntKind.i64.max) := by
      simp [ByteArray.size, IntKind.max, IntKind.signed, IntKind.bits]; omega
    simp only [binOp, Op.stringOp]
    rw [if_neg this, ByteArray.mk_append_mk]
    rfl
  case eql =>
    refine ⟨.bool (decide (s = u)), _, fun w => ?_, .bool _, h⟩
    have : (s == u) = decide (s = u) := by rw [Bool.eq_iff_iff]; simp
    simp [binOp, Op.stringOp, ByteArray.toList_mk, this]
  case neq =>
    refine ⟨.bool (!decide (s = u)), _, fun w => ?_, .bool _, h⟩
    have : (s == u) = decide (s = u) := by rw [Bool.eq_iff_iff]; simp
    simp [binOp, Op.stringOp, ByteArray.toList_mk, this]

theorem run_equalIn_bool {d : Nat} {t : TypeId} {x y : Bool} {w : World} (hu : P.underlying t = some .bool) : (Op.equalIn (d + 1) t (.bool x) (.bool y)).run P w = .ok (x == y) w := by
  unfold Op.equalIn; simp only [Sem.run_bind, run_underlying hu, Result.andThen_ok, Sem.run_pure]
theorem run_equalIn_p1 {d : Nat} {t el : TypeId} {w : World} (hu : P.underlying t = some (.pointer el)) (x : Option Addr) : (Op.equalIn (d + 1) t (.pointer none) (.pointer x)).run P w = .ok x.isNone w := by
  unfold Op.equalIn; simp only [Sem.run_bind, run_underlying hu, Result.andThen_ok, Sem.run_pure]
theorem run_equalIn_p2 {d : Nat} {t el : TypeId} {w : World} (hu : P.underlying t = some (.pointer el)) (x : Addr) : (Op.equalIn (d + 1) t (.pointer (some x)) (.pointer none)).run P w = .ok false w := by
  unfold Op.equalIn; simp only [Sem.run_bind, run_underlying hu, Result.andThen_ok, Sem.run_pure]
theorem run_equalIn_s {d : Nat} {t el : TypeId} {w : World} (hu : P.underlying t = some (.slice el)) : (Op.equalIn (d + 1) t (.slice none 0 0) (.slice none 0 0)).run P w = .ok true w := by
  unfold Op.equalIn; simp only [Sem.run_bind, run_underlying hu, Result.andThen_ok, Sem.run_pure]; rfl

theorem opBin_ok {op : BinOp} {tk : TK} {t : TypeId} {sx sy : SV} {x y : Value} {K : SV → Prop} (hx : Den R ρ sx x) (hy : Den R ρ sy y)
    (ht : (match P.underlying t, tk with | some .bool, .b | some (.int _), .i | some .string, .s | some (.pointer _), .p | some (.slice _), .l => true | _, _ => false) = true) (h : opBin op tk sx sy K) :
    (∀ X Y w, (eqGuard op t X Y x y).run P w = .ok () w) ∧ ∃ v sv, (∀ w, (binOp op t x y).run P w = .ok v w) ∧ Den R ρ sv v ∧ K sv := by
  have eqs : ∀ (op : BinOp) (u v : Value), (∀ k n, u ≠ .int k n) → (∀ k n, u ≠ .float k n) → (∀ k n m, u ≠ .complex k n m) → (∀ n, u ≠ .string n) →
      (op = .eql → binOp op t u v = (do pure (.bool (← Op.equal t u v)))) ∧ (op = .neq → binOp op t u v = (do pure (.bool (!(← Op.equal t u v))))) := by
    intro op u v h1 h2 h3 h4
    constructor <;> rintro rfl <;> cases u <;> first | rfl | exact absurd rfl (h1 _ _) | exact absurd rfl (h2 _ _) | exact absurd rfl (h3 _ _ _) | exact absurd rfl (h4 _)
  unfold opBin at h
  split at h
  · cases hx; cases hy
    refine ⟨fun X Y w => run_eqGuard _ _ _ _ _ _ (by simp) (by simp) w, ?_⟩
    rename_i k a k' b
    split at h
    · obtain ⟨h0, hk⟩ := h
      exact ⟨.int k (k.wrap (a * 2 ^ (min b.toNat k.bits))), _, fun w => by simp [binOp, Op.shift, show ¬ b < 0 by omega], .int _ _, hk⟩
    · obtain ⟨h0, hk⟩ := h
      exact ⟨.int k (a.fdiv (2 ^ (min b.toNat k.bits))), _, fun w => by simp [binOp, Op.shift, show ¬ b < 0 by omega], .int _ _, hk⟩
    · cases hk : kEq k k' with
      | false => rw [hk] at h; cases h
      | true =>
        rw [hk] at h
        have := kEq_eq hk
        subst this
        exact binI_ok h
  · cases hx; cases hy
    exact ⟨fun X Y w => run_eqGuard _ _ _ _ _ _ (by simp) (by simp) w, binS_ok h⟩
  · cases hx; cases hy
    refine ⟨fun X Y w => run_eqGuard _ _ _ _ _ _ (by simp) (by simp) w, binB_ok h (fun w => run_equal_is ?_) (fun op => eqs op _ _ (by simp) (by simp) (by simp) (by simp))⟩
    refine run_equalIn_bool (d := 9999) ?_
    split at ht <;> first | assumption | (rename_i h1; cases h1) | cases ht
  · cases hx; cases hy
    refine ⟨fun X Y w => run_eqGuard _ _ _ _ _ _ (by simp) (by simp) w, binB_ok h (fun w => run_equal_is ?_) (fun op => eqs op _ _ (by simp) (by simp) (by simp) (by simp))⟩
    have hu : ∃ el, P.underlying t = some (.pointer el) := by
      split at ht <;> first | exact ⟨_, ‹_›⟩ | (rename_i h1; cases h1) | cases ht
    obtain ⟨el, hu⟩ := hu
    exact run_equalIn_p1 (d := 9999) hu none
  · cases hx; cases hy
    refine ⟨fun X Y w => run_eqGuard _ _ _ _ _ _ (by simp) (by simp) w, binB_ok h (fun w => run_equal_is ?_) (fun op => eqs op _ _ (by simp) (by simp) (by simp) (by simp))⟩
    have hu : ∃ el, P.underlying t = some (.pointer el) := by
      split at ht <;> first | exact ⟨_, ‹_›⟩ | (rename_i h1; cases h1) | cases ht
    obtain ⟨el, hu⟩ := hu
    exact run_equalIn_p2 (d := 9999) hu _
  · cases hx; cases hy
    refine ⟨fun X Y w => run_eqGuard _ _ _ _ _ _ (by simp) (by simp) w, binB_ok h (fun w => run_equal_is ?_) (fun op => eqs op _ _ (by simp) (by simp) (by simp) (by simp))⟩
    have hu : ∃ el, P.underlying t = some (.pointer el) := by
      split at ht <;> first | exact ⟨_, ‹_›⟩ | (rename_i h1; cases h1) | cases ht
    obtain ⟨el, hu⟩ := hu
    exact run_equalIn_p1 (d := 9999) hu (some _)
  · cases hx; cases hy
    refine ⟨fun X Y w => run_eqGuard _ _ _ _ _ _ (by simp) (by simp) w, binB_ok h (fun w => run_equal_is ?_) (fun op => eqs op _ _ (by simp) (by simp) (by simp) (by simp))⟩
    have hu : ∃ el, P.underlying t = some (.slice el) := by
      split at ht <;> first | exact ⟨_, ‹_›⟩ | (rename_i h1; cases h1) | cases ht
    obtain ⟨el, hu⟩ := hu
    exact run_equalIn_s (d := 9999) hu
  · cases h
end
end Go.V
