/- One order for all: a region whose order is drawn may be walked in one order (CT), if what is read ahead of what writes stays as it was read. -/
import Derived.Orders
namespace Go.V

inductive CT where
  | done
  | stop
  | w (i : Nat) (r : CT)
  | rd (i : Nat) (r : CT)
  | l (i : Nat) (pend : List Nat) (r alt : CT)
  deriving Inhabited

section
variable (P : Program) (ops : Array Oper) (Q : Exit → Act → World → Prop)

def YA (o : Oper) (v : Value) (a : Act) (w : World) : Prop :=
  (Region.wanted o (yielded ops a.tmps) = true ∧ (execOp a.eval o).run P w = .ok (.value v) w) ∨
  (Region.wanted o (yielded ops a.tmps) = false ∧ v = undef)

def dstVal (o : Oper) (a : Act) : Value := match o.dst with | some d => a.tmps.getD d undef | none => undef

def wpC : CT → Act → World → Prop
  | .done, a, w => Q .normal a w
  | .stop, _, _ => True
  | .w i r, a, w => ∃ o v, ops[i]? = some o ∧ (∀ w', YA P ops o v a w') ∧ wpC r (a.put o.dst v) w
  | .rd i r, a, w => ∃ o v, ops[i]? = some o ∧ YA P ops o v a w ∧ wpC r (a.put o.dst v) w
  | .l i pend r alt, a, w =>
    wpOp P ops Q i (fun a' w' => (∀ j ∈ pend, ∀ oj, ops[j]? = some oj → YA P ops oj (dstVal oj a') a' w') ∧ wpC r a' w') a w ∧ wpC alt a w

/-! ### the order of the text -/

def linOK (n : Nat) : Nat → CT → Bool
  | k, .done => k == n
  | k, .w i r => i == k && k < n && linOK n (k + 1) r
  | k, .rd i r => i == k && k < n && linOK n (k + 1) r
  | k, .l i _ r .stop => i == k && k < n && linOK n (k + 1) r
  | _, _ => false

end

section
variable {P : Program} {ops : Array Oper} {Q : Exit → Act → World → Prop}

theorem YA.wpOp {i : Nat} {o : Oper} {v : Value} {a : Act} {w : World} (hi : ops[i]? = some o) (hy : YA P ops o v a w)
    {K : Act → World → Prop} (h : K (a.put o.dst v) w) : wpOp P ops Q i K a w := by
  unfold Go.wpOp
  simp only [hi]
  rcases hy with ⟨hw, hv⟩ | ⟨hw, rfl⟩
  · simp only [hw, if_true, Oper.wp, hv, Oper.upon]; exact .inl h
  · simp only [hw, Bool.false_eq_true, if_false]; exact h

theorem range'_cons {k n : Nat} (h : k < n) : List.range' k (n - k) = k :: List.range' (k + 1) (n - (k + 1)) := by
  have : n - k = (n - (k + 1)) + 1 := by omega
  rw [this, List.range'_succ]

theorem wpOps_of_lin (n : Nat) : ∀ (c : CT) (k : Nat) (a : Act) (w : World), linOK n k c = true → wpC P ops Q c a w → wpOps P ops Q (List.range' k (n - k)) a w := by
  intro c
  induction c with
  | done =>
    intro k a w hl h
    have : k = n := by simpa [linOK] using hl
    subst this
    simpa [wpOps, wpC] using h
  | stop => intro k a w hl; simp [linOK] at hl
  | w i r ih =>
    intro k a w hl h
    simp only [linOK, Bool.and_eq_true, beq_iff_eq, decide_eq_true_eq] at hl
    obtain ⟨⟨rfl, hk⟩, hl⟩ := hl
    obtain ⟨o, v, ho, hy, hr⟩ := h
    rw [range'_cons hk, wpOps_cons]
    exact (hy w).wpOp ho (ih _ _ _ hl hr)
  | rd i r ih =>
    intro k a w hl h
    simp only [linOK, Bool.and_eq_true, beq_iff_eq, decide_eq_true_eq] at hl
    obtain ⟨⟨rfl, hk⟩, hl⟩ := hl
    obtain ⟨o, v, ho, hy, hr⟩ := h
    rw [range'_cons hk, wpOps_cons]
    exact hy.wpOp ho (ih _ _ _ hl hr)
  | l i pend r alt ih _ =>
    intro k a w hl h
    cases alt with
    | stop =>
      simp only [linOK, Bool.and_eq_true, beq_iff_eq, decide_eq_true_eq] at hl
      obtain ⟨⟨rfl, hk⟩, hl⟩ := hl
      rw [range'_cons hk, wpOps_cons]
      exact wpOp_mono (fun a' w' h' => ih _ _ _ hl h'.2) h.1
    | _ => simp [linOK] at hl

theorem wp_region_lin {id : Nat} {a : Act} {w : World} (c : CT) (hl : linOK ops.size 0 c = true) (h : wpC P ops Q c a w) :
    (Code.region id ops false).wp P Q a w :=
  wp_region (by
    have := wpOps_of_lin ops.size c 0 a w hl h
    rwa [Nat.sub_zero, ← List.range_eq_range'] at this)
end

/-! ### an order that is drawn -/
section
variable (ops : Array Oper)

def deps (i : Nat) : List Nat :=
  match ops[i]? with
  | some o => (o.after.toList.filter (Region.binds .any ·)).map (·.on)
  | none => []

def dstOf (i : Nat) : Option Nat := (ops[i]?).bind (·.dst)
def looks (i : Nat) : List Nat := match ops[i]? with | some o => o.looksAt ops | none => []

def befOf (bef : List (List Nat)) (i : Nat) : List Nat := bef.getD i []

/-- the table of what is ahead of what is no more than the edges say; edges lead back -/
def befOK (bef : List (List Nat)) : Bool :=
  (List.range ops.size).all fun i => (deps ops i).all (· < i) && (befOf bef i).all fun j => (deps ops i).any fun d => d == j || (befOf bef d).contains j

/-- no slot is written twice; whoever names a slot that another one writes is ordered against it -/
def slotsOK (bef : List (List Nat)) : Bool :=
  (List.range ops.size).all fun k =>
    match dstOf ops k with
    | none => true
    | some d => !(looks ops k).contains d && (List.range ops.size).all fun j => j == k ||
        (dstOf ops j != some d && (!(looks ops j).contains d || (befOf bef j).contains k || (befOf bef k).contains j))

def readyIn (D : List Nat) (i : Nat) : Bool := decide (i < ops.size) && !D.contains i && (deps ops i).all (D.contains ·)

def heads : CT → List Nat
  | .l i _ _ alt => i :: heads alt
  | _ => []

/-- what was done: W: what looks at no memory, or acts; R: what reads. 'top': the head of a node; else: further ways of one -/
def ctOK (bef : List (List Nat)) : CT → Bool → List Nat → List Nat → Bool
  | .done, top, W, R => top && (List.range ops.size).all fun i => W.contains i || R.contains i
  | .stop, top, _, _ => !top
  | .w i r, top, W, R => top && readyIn ops (W ++ R) i && ctOK bef r true (i :: W) R
  | .rd i r, top, W, R => top && readyIn ops (W ++ R) i && ctOK bef r true W (i :: R)
  | .l i pend r alt, top, W, R =>
    (!top || (List.range ops.size).all fun k => !readyIn ops (W ++ R) k || (i :: heads alt).contains k) &&
    readyIn ops (W ++ R) i &&
    (R.all fun j => (befOf bef i).contains j || (pend.contains j && (dstOf ops j).isSome && ((i :: (W ++ R)).all fun k => (befOf bef j).contains k || match dstOf ops k with | some d => !(looks ops j).contains d | none => true))) &&
    ctOK bef r true (i :: W) R && ctOK bef alt false W R
end
end Go.V
