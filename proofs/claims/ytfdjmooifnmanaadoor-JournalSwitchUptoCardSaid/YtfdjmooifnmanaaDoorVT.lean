/- The operations that look at no memory do what their symbolic twins say. -/
import Derived.Test.YtfdjmooifnmanaaDoorVS
import Derived.ChangeKeysEq
namespace Go.V
section
variable {P : Program} {N : Nat} {D : List Deferred} {R : Hp} {ρ : List Value} {e : Env} {a : Act} {w : World}

structure EnvOK (N : Nat) (D : List Deferred) (R : Hp) (ρ : List Value) (e : Env) (a : Act) : Prop where
  size : a.tmps.size = N
  den : ∀ t, Den R ρ (look e t) (a.tmps.getD t undef)
  defers : a.defers = D

theorem EnvOK.mono {R' : Hp} {ρ' : List Value} (h : EnvOK N D R ρ e a) (hR : HLe R R') (hr : Ext ρ ρ') : EnvOK N D R' ρ' e a :=
  ⟨h.size, fun t => (h.den t).mono hR hr, h.defers⟩

theorem EnvOK.put {d : Nat} {s : SV} {v : Value} (h : EnvOK N D R ρ e a) (hd : d < N) (hv : Den R ρ s v) : EnvOK N D R ρ ((d, s) :: e) (a.put (some d) v) := by
  refine ⟨by simp [Act.put, h.size], fun t => ?_, h.defers⟩
  simp only [look]
  have hlt : d < a.tmps.size := by rw [h.size]; exact hd
  by_cases ht : d = t
  · subst ht
    have : Nat.beq d d = true := Nat.beq_refl d
    simp only [this, cond_true, Act.put]
    simp [hlt]
    exact hv
  · have : Nat.beq d t = false := by
      cases hb : Nat.beq d t
      · rfl
      · exact absurd (Nat.eq_of_beq_eq_true hb) ht
    simp only [this, cond_false, Act.put]
    have := h.den t
    simpa [Array.getElem?_setIfInBounds_ne ht] using this

theorem cstB_den {s : SV} {v : Value} (h : cstB s v = true) : Den R ρ s v := by
  unfold cstB at h
  split at h
  · simp only [Bool.and_eq_true, beq_iff_eq] at h; obtain ⟨rfl, rfl⟩ := h; exact .int _ _
  · simp only [beq_iff_eq] at h; subst h; exact .bool _
  · rename_i s t
    simp only [decide_eq_true_eq] at h
    subst h
    have : t = ⟨t.data.toList.toArray⟩ := by simp
    rw [this]
    exact .str _
  · exact .nilp
  · exact .nils
  · exact .nili
  · cases h

theorem cstL_den : ∀ {l : List SV} {vs : List Value}, cstL l vs = true → DenL R ρ l vs
  | [], [], _ => .nil
  | s :: l, v :: vs, h => by
    simp only [cstL, Bool.and_eq_true] at h
    exact .cons (cstB_den h.1) (cstL_den h.2)
  | [], _ :: _, h => by simp [cstL] at h
  | _ :: _, [], h => by simp [cstL] at h

theorem chkA_den (he : EnvOK N D R ρ e a) {x : SA} {y : Operand} (h : chkA x y = true) : Den R ρ (evA e x) (a.eval y) := by
  unfold chkA at h
  split at h
  · simp only [beq_iff_eq] at h; subst h; exact he.den _
  · simp only [beq_iff_eq] at h; subst h; exact .gp _ _
  · simp only [beq_iff_eq] at h; subst h; exact .fn (vs := []) rfl (fun i s v h => by simp at h)
  · exact cstB_den h
  · cases h

theorem chkAL_den (he : EnvOK N D R ρ e a) : ∀ {l : List SA} {vs : List Operand}, chkAL l vs = true → DenL R ρ (l.map (evA e)) (vs.map a.eval)
  | [], [], _ => .nil
  | s :: l, v :: vs, h => by
    simp only [chkAL, Bool.and_eq_true] at h
    exact .cons (chkA_den he h.1) (chkAL_den he h.2)
  | [], _ :: _, h => by simp [chkAL] at h
  | _ :: _, [], h => by simp [chkAL] at h

theorem den_agg {l : List SV} {v : Value} (h : Den R ρ (.agg l) v) : ∃ vs, v = .agg vs.toArray ∧ DenL R ρ l vs := by
  cases h with | agg hl h => exact ⟨_, rfl, hl, h⟩
theorem den_tup {l : List SV} {v : Value} (h : Den R ρ (.tup l) v) : ∃ vs, v = .tuple vs.toArray ∧ DenL R ρ l vs := by
  cases h with | tup hl h => exact ⟨_, rfl, hl, h⟩

theorem DenL.get {l : List SV} {vs : List Value} (h : DenL R ρ l vs) {i : Nat} (hi : i < l.length) : ∃ v, vs[i]? = some v ∧ Den R ρ (l.getD i .unk) v := by
  have h2 : i < vs.length := h.1 ▸ hi
  exact ⟨vs[i], List.getElem?_eq_getElem h2, h.2 i _ _ (by simp [hi]) (List.getElem?_eq_getElem h2)⟩

theorem DenL.take_drop {l : List SV} {vs : List Value} (h : DenL R ρ l vs) (off n : Nat) : DenL R ρ ((l.drop off).take n) ((vs.drop off).take n) := by
  refine ⟨by simp [h.1], fun i s v h1 h2 => ?_⟩
  rw [List.getElem?_take] at h1 h2
  split at h1
  · simp_all only [if_true]
    rw [List.getElem?_drop] at h1 h2
    exact h.2 _ s v h1 h2
  · cases h1

theorem DenL.splice : ∀ {l : List SV} {vs : List Value} {off : Nat} {l' : List SV} {vs' : List Value}, DenL R ρ l vs → DenL R ρ l' vs' → off + l'.length ≤ l.length →
    DenL R ρ (spliceS l off l') (vs.take off ++ vs' ++ vs.drop (off + vs'.length))
  | l, vs, off, [], vs', h, h', _ => by
    have : vs' = [] := h'.nil_inv
    subst this
    have hs : spliceS l off [] = l := by cases l <;> cases off <;> rfl
    rw [hs]
    simpa using h
  | [], vs, off, v' :: l', vs', h, h', hl => by simp at hl
  | s :: l, vs, 0, v' :: l', vs', h, h', hl => by
    obtain ⟨v, vs2, rfl, h1, h2⟩ := h.cons_inv
    obtain ⟨u, us, rfl, h3, h4⟩ := h'.cons_inv
    have := DenL.splice (off := 0) h2 h4 (by simp at hl ⊢; omega)
    simp only [spliceS]
    simpa using DenL.cons h3 (by simpa using this)
  | s :: l, vs, off + 1, v' :: l', vs', h, h', hl => by
    obtain ⟨v, vs2, rfl, h1, h2⟩ := h.cons_inv
    have := DenL.splice (off := off) h2 h' (by simp at hl ⊢; omega)
    simp only [spliceS]
    have e : off + 1 + vs'.length = (off + vs'.length) + 1 := by omega
    rw [e]
    simpa using DenL.cons h1 this

theorem den_cells {s : SV} {v : Value} (h : Den R ρ s v) (hs : s ≠ .unk) (hv : ∀ u, s ≠ .val u) : DenL R ρ s.cells v.cells.toList := by
  cases h with
  | int k n => exact .cons (.int k n) .nil
  | bool b => exact .cons (.bool b) .nil
  | str s => exact .cons (.str s) .nil
  | nilp => exact .cons .nilp .nil
  | nils => exact .cons .nils .nil
  | nili => exact .cons .nili .nil
  | ptr h => exact .cons (.ptr h) .nil
  | elpS h => exact .cons (.elpS h) .nil
  | elpP h => exact .cons (.elpP h) .nil
  | ref h h1 =>
    have : v.cells = #[v] := by cases v <;> simp [one] at h1 <;> rfl
    rw [this]
    exact .cons (.ref h h1) .nil
  | agg hl h => exact ⟨by simpa [SV.cells, Value.cells] using hl, by simpa [SV.cells, Value.cells] using h⟩
  | tup hl h => exact .cons (.tup hl h) .nil
  | fn hl h => exact .cons (.fn hl h) .nil
  | ifc h => exact .cons (.ifc h) .nil
  | ro vs hc hd hk hcap hb => exact .cons (.ro vs hc hd hk hcap hb) .nil
  | roN => exact .cons .roN .nil
  | roE a cap => exact .cons (.roE a cap) .nil
  | roe vs hc hd hk => exact .cons (.roe vs hc hd hk) .nil
  | gp g off => exact .cons (.gp g off) .nil
  | val v => exact absurd rfl (hv v)
  | unk v => exact absurd rfl hs
end
end Go.V
