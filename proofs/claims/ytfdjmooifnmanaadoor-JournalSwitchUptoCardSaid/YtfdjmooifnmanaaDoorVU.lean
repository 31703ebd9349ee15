/- Soundness of the operations that look at no memory. -/
import Derived.Test.YtfdjmooifnmanaaDoorVT
namespace Go.V
section
variable {P : Program} {N : Nat} {D : List Deferred} {R : Hp} {ρ : List Value} {e : Env} {a : Act}

theorem info_of_sizeIs {t : TypeId} {n : Nat} (h : sizeIs P t n = true) : ∃ i, P.info? t = some i ∧ i.size = n := by
  unfold sizeIs at h
  split at h
  · rename_i i hi; exact ⟨i, hi, by simpa using h⟩
  · cases h

theorem run_sizeOf_is {t : TypeId} {n : Nat} (h : sizeIs P t n = true) (w : World) : (sizeOf t).run P w = .ok n w := by
  obtain ⟨i, hi, rfl⟩ := info_of_sizeIs h
  simp [sizeOf, typeInfo, hi]

theorem run_isAgg_is {t : TypeId} {b : Bool} (h : aggIs P t b = true) (w : World) : (isAgg t).run P w = .ok b w := by
  unfold aggIs at h
  split at h
  · rename_i d hd
    have : isAggT d = b := by simpa using h
    subst this
    unfold isAgg
    rw [Sem.run_bind, run_underlying hd]
    cases d <;> simp [isAggT]
  · cases h

theorem addr_add (b o n : Nat) : (⟨b, o, none⟩ : Addr).add n = ⟨b, o + n, none⟩ := by unfold Addr.add; split <;> simp_all

theorem run_fieldPlace_is {fd : Field} (h : (match P.info? fd.type with | some i => i.size != 0 | none => false) = true) (b o : Nat) (w : World) :
    (fieldPlace ⟨b, o, none⟩ fd).run P w = .ok ⟨b, o + fd.offset, none⟩ w := by
  split at h
  · rename_i i hi
    have h0 : i.size ≠ 0 := by simpa using h
    simp [fieldPlace, sizeOf, typeInfo, hi, h0, addr_add]
  · cases h

theorem run_eqGuard (op : BinOp) (t : TypeId) (x y : Operand) (u v : Value) (h : ∀ xs ys, ¬ (u = .agg xs ∧ v = .agg ys)) (h2 : ¬ (u = .nilIface ∧ v = .nilIface)) (w : World) :
    (eqGuard op t x y u v).run P w = .ok () w := by
  unfold eqGuard
  cases op <;> first
    | rfl
    | (simp only [Bool.not_true, Bool.false_eq_true, if_false]
       cases u <;> cases v <;> first | rfl | exact absurd ⟨rfl, rfl⟩ (h _ _) | exact absurd ⟨rfl, rfl⟩ h2)

theorem fill_ok (he : EnvOK N D R ρ e a) {fs : Array Field} {K : List SV → Prop} : ∀ (parts : List (Nat × Nat × SA)) (ps : List (Nat × Operand)) (l : List SV) (cells : Array Value),
    chkParts P fs parts ps = true → DenL R ρ l cells.toList → fillS e parts l K →
    ∃ cells' l', Instr.fill (fun i => (fs[i]?).map fun f => (f.offset, P.cellsOf f.type)) cells (ps.map fun (i, x) => (i, a.eval x)) = some cells' ∧ DenL R ρ l' cells'.toList ∧ K l'
  | [], [], l, cells, _, hd, h => ⟨cells, l, rfl, hd, h⟩
  | (off, size, x) :: parts, (i, y) :: ps, l, cells, hc, hd, h => by
    simp only [chkParts, Bool.and_eq_true] at hc
    obtain ⟨⟨hf, hx⟩, hc⟩ := hc
    have hv := chkA_den he hx
    have h := forceS_iff.1 h
    generalize evA e x = s at h hv
    cases hb : okS s && Nat.beq (lenS s.cells) size && Nat.ble (off + size) (lenS l) with
    | false => rw [hb] at h; simp at h
    | true =>
      rw [hb] at h
      simp only [Bool.and_eq_true] at hb
      obtain ⟨⟨hok, hsz⟩, hle⟩ := hb
      have hsz := Nat.eq_of_beq_eq_true hsz
      have hle := Nat.le_of_ble_eq_true hle
      rw [lenS_eq] at hsz hle
      have hcl := den_cells hv (fun e => by rw [e] at hok; cases hok) (fun u e => by rw [e] at hok; cases hok)
      split at hf
      · rename_i f hfi
        simp only [Bool.and_eq_true, beq_iff_eq] at hf
        obtain ⟨hoff, hss⟩ := hf
        obtain ⟨inf, hinf, hisz⟩ := info_of_sizeIs hss
        have hcs : P.cellsOf f.type = size := by simp [Program.cellsOf, hinf, hisz]
        have hvs : (a.eval y).cells.size = size := by
          have := hcl.1; simp at this; omega
        have hll : l.length = cells.size := by have := hd.1; simpa using this
        -- the cells put in, one by one, are the splice
        have key : ∀ (vs : List Value) (k : Nat) (cs : Array Value), off + k + vs.length ≤ cs.size →
            ((vs.zipIdx k).foldl (fun cs (c, j) => cs.setIfInBounds (off + j) c) cs).toList = cs.toList.take (off + k) ++ vs ++ cs.toList.drop (off + k + vs.length) := by
          intro vs
          induction vs with
          | nil => intro k cs _; simp
          | cons v vs ih =>
            intro k cs hle
            simp only [List.zipIdx_cons, List.foldl_cons]
            rw [ih (k + 1) _ (by simp at hle ⊢; omega)]
            have e := list_seg_step cs.toList (off + k) v vs (by simp at hle ⊢; omega)
            simpa [Array.toList_setIfInBounds, Nat.add_assoc] using e
        have hspl := DenL.splice hd hcl (off := off) (by rw [hsz]; exact hle)
        have hfold : ((a.eval y).cells.zipIdx.foldl (fun cs (c, j) => cs.setIfInBounds (off + j) c) cells).toList = cells.toList.take off ++ (a.eval y).cells.toList ++ cells.toList.drop (off + (a.eval y).cells.toList.length) := by
          rw [← Array.foldl_toList, Array.toList_zipIdx]
          have := key (a.eval y).cells.toList 0 cells (by simp; omega)
          simpa using this
        obtain ⟨cells', l', h1, h2, h3⟩ := fill_ok he parts ps _ ((a.eval y).cells.zipIdx.foldl (fun cs (c, j) => cs.setIfInBounds (off + j) c) cells) hc (by rw [hfold]; exact hspl) h
        refine ⟨cells', l', ?_, h2, h3⟩
        simp only [List.map_cons, Instr.fill, hfi, Option.map_some, hoff, hcs]
        have hno : ¬ ((a.eval y).cells.size ≠ size ∨ off + (a.eval y).cells.size > cells.size) := by omega
        have : ((a.eval y).cells.size ≠ size || off + (a.eval y).cells.size > cells.size) = false := by
          simp; omega
        simp only [ne_eq, decide_not] at this ⊢
        rw [if_neg (by simpa using hno)]
        exact h1
      · cases hf
  | [], _ :: _, _, _, hc, _, _ => by simp [chkParts] at hc
  | _ :: _, [], _, _, hc, _, _ => by simp [chkParts] at hc
end
end Go.V
