/- Soundness of the operations that act: memory. -/
import Derived.Test.YtfdjmooifnmanaaDoorVL
namespace Go.V
section
variable {P : Program} {N : Nat} {D : List Deferred} {R : Hp} {F : Fr} {ρ : List Value} {e : Env} {a : Act} {H : List SO} {w : World} {hs : Nat → Hp} {G : Glob}

/-- what an operation that acts must lead to -/
def LOk (P : Program) (ρ : List Value) (R : Hp) (F : Fr) (o : Oper) (a : Act) (w : World) (K Kp : SV → List SO → Prop) : Prop :=
  ∀ (next : Act → World → Prop) (Q : Exit → Act → World → Prop),
    (∀ ρ' R' H' w' v sv, Ext ρ ρ' → HLe R R' → St ρ' R' F H' w' → Den R' ρ' sv v → K sv H' → next (a.put o.dst v) w') →
    (∀ ρ' R' H' w' v sv, Ext ρ ρ' → HLe R R' → St ρ' R' F H' w' → Den R' ρ' sv v → Kp sv H' → Q (.panic [{ v, recovered := false }]) a w') →
    o.wp P a w next Q

theorem lok_value {o : Oper} {K Kp : SV → List SO → Prop} {ρ' : List Value} {R' : Hp} {H' : List SO} {w' : World} {v : Value} {sv : SV} (hr : (execOp a.eval o).run P w = .ok (.value v) w')
    (h1 : Ext ρ ρ') (h2 : HLe R R') (h3 : St ρ' R' F H' w') (h4 : Den R' ρ' sv v) (h5 : K sv H') : LOk P ρ R F o a w K Kp := by
  intro next Q hn _
  unfold Oper.wp
  rw [hr]
  exact hn _ _ _ _ _ _ h1 h2 h3 h4 h5

theorem lok_skip {o : Oper} {K Kp : SV → List SO → Prop} {ρ' : List Value} {R' : Hp} {H' : List SO} {w' : World} (hr : (execOp a.eval o).run P w = .ok .skip w')
    (h1 : Ext ρ ρ') (h2 : HLe R R') (h3 : St ρ' R' F H' w') (h5 : K (.tup []) H') : LOk P ρ R F o a w K Kp := by
  intro next Q hn _
  unfold Oper.wp
  rw [hr]
  exact hn _ _ _ _ _ _ h1 h2 h3 (.tup (vs := []) rfl fun i s v h => by simp at h) h5

theorem push_old (w : World) (o : Obj) : ∀ b, b < w.heap.size → (w.heap.push o)[b]? = w.heap[b]? := fun b hb => by
  rw [Array.getElem?_push]; split <;> first | omega | rfl
theorem push_new (w : World) (o : Obj) : (w.heap.push o)[w.heap.size]? = some o := by simp

/-- a new block of cells -/
theorem st_newCells {o : SO} {obj : Obj} {v : Value} {w' : World} (hst : StW ρ R F H w hs) (hw : w'.heap = w.heap.push obj) (hd : SODen R (ρ ++ [v]) v o (single w.heap.size obj)) (hio : w'.os = w.os ∧ w'.output = w.output := by exact ⟨rfl, rfl⟩) :
    St (ρ ++ [v]) R F (H ++ [o]) w' :=
  hst.alloc (h' := single w.heap.size obj) (fun b hb => by rw [hw]; exact push_old w obj b hb) (fun b o hb => by obtain ⟨rfl, rfl⟩ := hb; exact ⟨Nat.le_refl _, by rw [hw]; exact push_new w _⟩) hd hio

theorem last_name (hst : StW ρ R F H w hs) (v : Value) : (ρ ++ [v])[H.length]? = some v := by
  rw [← hst.len]; simp

theorem zeroIs_run {t : TypeId} {l : List SV} (h : zeroIs P t l = true) : ∃ i z, P.info? t = some i ∧ i.zero = some z ∧ cstL l z.cells.toList = true := by
  unfold zeroIs at h
  split at h
  · rename_i i hi
    split at h
    · rename_i z hz; exact ⟨i, z, hi, hz, h⟩
    · cases h
  · cases h

theorem newO_iff {o : SO} {K : Nat → List SO → Prop} : newO H o K ↔ K H.length (H ++ [o]) := by
  unfold newO; rw [forceN_iff, lenO_eq]

theorem alloc_ok (hst : StW ρ R F H w hs) {o : Oper} {zero : List SV} {K Kp : SV → List SO → Prop} {t : TypeId} (ho : o.op = .alloc t) (hz : zeroIs P t zero = true)
    {so : SO} (hso : ∀ z : Value, cstL zero z.cells.toList = true → SODen R (ρ ++ [.pointer (some ⟨w.heap.size, 0, none⟩)]) (.pointer (some ⟨w.heap.size, 0, none⟩)) so (single w.heap.size (.cells z.cells t (0, 0))))
    (h : newO H so fun n H => K (.ptr n 0) H) : LOk P ρ R F o a w K Kp := by
  obtain ⟨i, z, hi, hzz, hc⟩ := zeroIs_run hz
  have h := newO_iff.1 h
  refine lok_value (w' := { w with heap := w.heap.push (.cells z.cells t (0, 0)) }) (v := .pointer (some ⟨w.heap.size, 0, none⟩)) ?_ (Ext.append _ _) (HLe.refl _) (st_newCells hst rfl (hso z hc)) ?_ h
  · simp [execOp, ho, Instr.alloc, zeroValue, typeInfo, hi, hzz, newVar, newRow]
  · simpa using Den.ptr (off := 0) (last_name hst _)

theorem box_ok (he : EnvOK N D R ρ e a) (hst : StW ρ R F H w hs) {o : Oper} {x : SA} {y : Operand} {K Kp : SV → List SO → Prop} {t : TypeId} (ho : o.op = .box t y) (hx : chkA x y = true)
    (h : forceS (evA e x) fun v => bif okS v then newO H (.cells v.cells) fun n H => K (.ptr n 0) H else False) : LOk P ρ R F o a w K Kp := by
  have hd := chkA_den he hx
  have h := forceS_iff.1 h
  generalize evA e x = s at h hd
  cases hok : okS s with
  | false => rw [hok] at h; cases h
  | true =>
    rw [hok] at h
    have h := newO_iff.1 h
    have hcl := den_cells hd (fun e => by rw [e] at hok; cases hok) (fun u e => by rw [e] at hok; cases hok)
    refine lok_value (w' := { w with heap := w.heap.push (.cells (a.eval y).cells t (0, 0)) }) (v := .pointer (some ⟨w.heap.size, 0, none⟩)) ?_ (Ext.append _ _) (HLe.refl _)
      (st_newCells (o := .cells s.cells) hst rfl ⟨w.heap.size, t, (a.eval y).cells.toList, rfl, by simp, hcl.mono (HLe.refl _) (Ext.append _ _), fun x hx => by cases hx⟩) ?_ h
    · simp [execOp, ho, Instr.box, newVar, newRow]
    · simpa using Den.ptr (off := 0) (last_name hst _)

theorem one_oneCell {v : Value} (h : one v = true) : v.oneCell' = true := by
  cases v <;> first | rfl | cases h

theorem oneS_one {s : SV} {v : Value} (h : Den R ρ s v) (ho : oneS s = true) : v.oneCell' = true := by
  cases h <;> first | (simp [oneS] at ho; done) | rfl | exact one_oneCell ‹_›

theorem allOne_one : ∀ {l : List SV} {vs : List Value}, DenL R ρ l vs → allOne l = true → ∀ v ∈ vs, v.oneCell' = true
  | [], vs, h, _, v, hv => by rw [h.nil_inv] at hv; cases hv
  | s :: l, vs, h, ho, v, hv => by
    obtain ⟨u, us, rfl, h1, h2⟩ := h.cons_inv
    simp only [allOne, Bool.and_eq_true] at ho
    rcases List.mem_cons.1 hv with rfl | hv
    · exact oneS_one h1 ho.1
    · exact allOne_one h2 ho.2 v hv

/-- cells are put into an owned block -/
theorem put_cells {b p : Nat} {arr : Array Value} {ty : TypeId} {vs : List Value} (hw : w.heap[b]? = some (.cells arr ty (0, 0))) (hle : p + vs.length ≤ arr.size) (h1 : ∀ v ∈ vs, v.oneCell' = true) :
    (storeCells ⟨b, p, none⟩ vs).run P w = .ok () (w.setRow b (arr.toList.take p ++ vs ++ arr.toList.drop (p + vs.length)).toArray) := by
  have := run_storeCells_at P b p ty vs 0 arr w hw (by omega) h1
  simpa using this

theorem splice_get {l : List Value} {p : Nat} {vs : List Value} (hle : p + vs.length ≤ l.length) (m : Nat) :
    (l.take p ++ vs ++ l.drop (p + vs.length))[m]? = if m < p then l[m]? else if m < p + vs.length then vs[m - p]? else l[m]? := by
  have hp : min p l.length = p := by omega
  rw [List.append_assoc, List.getElem?_append]
  simp only [List.length_take, hp]
  split
  · rename_i h; simp [h]
  · rename_i h
    rw [List.getElem?_append]
    split
    · rename_i h2; rw [if_pos (by omega)]
    · rename_i h2
      rw [if_neg (by omega), List.getElem?_drop]
      congr 1
      omega

theorem row_put {c : Codec} {arr : Array Value} {xs : List c.E} {j off : Nat} {y : c.E} {cells : List SV} {vs : List Value} (hr : RowDen R c arr xs) (hj : j < xs.length) (hsz : xs.length * c.k ≤ arr.size)
    (hle : off + cells.length ≤ c.k) (hcl : DenL R ρ cells vs) (hy : c.dec (spliceS (c.enc (xs.getD j c.dflt)) off cells) = some y) :
    RowDen R c (arr.toList.take (j * c.k + off) ++ vs ++ arr.toList.drop (j * c.k + off + vs.length)).toArray (xs.set j y) := by
  have hkey : j * c.k + c.k ≤ arr.size := by
    have h1 : (j + 1) * c.k ≤ xs.length * c.k := Nat.mul_le_mul_right _ hj
    rw [Nat.succ_mul] at h1; omega
  have hvl : vs.length = cells.length := hcl.1.symm
  obtain ⟨olds, o1, o2⟩ := exists_row (R := R) (ρ := []) (Pc := fun m u => arr[j * c.k + m]? = some u) (l := c.enc (xs.getD j c.dflt)) fun m s hm => hr j m _ s (getElem?_of_lt c.dflt hj) hm
  have hol : olds.length = c.k := by rw [← o1.1, c.len]
  have hnew := DenL.splice (o1.mono (HLe.refl _) (Ext.nil ρ)) hcl (off := off) (by rw [c.len]; exact hle)
  rw [← c.ok _ _ hy] at hnew
  intro i m el s hi hm
  have hmk : m < c.k := by rw [← c.len el]; exact (List.getElem?_eq_some_iff.1 hm).1
  rw [List.getElem?_toArray, splice_get (by simp; omega)]
  by_cases hij : i = j
  · subst hij
    rw [List.getElem?_set_self hj] at hi
    cases hi
    have hlt : m < (olds.take off ++ vs ++ olds.drop (off + vs.length)).length := by rw [← hnew.1, c.len]; exact hmk
    have hd := hnew.2 m s _ hm (List.getElem?_eq_getElem hlt)
    have hget := List.getElem?_eq_getElem hlt
    refine ⟨_, ?_, hd.closed (c.plain y s (List.mem_of_getElem? hm)) []⟩
    rw [← hget, splice_get (by omega)]
    have hold : ∀ q, q < c.k → olds[q]? = arr.toList[i * c.k + q]? := fun q hq => by
      have h1 := List.getElem?_eq_getElem (show q < olds.length by omega)
      rw [h1, Array.getElem?_toList, o2 q _ h1]
    by_cases c1 : m < off
    · rw [if_pos (by omega), if_pos c1, hold m hmk]
    · by_cases c2 : m < off + vs.length
      · rw [if_neg (by omega), if_pos (by omega), if_neg c1, if_pos c2]
        congr 1; omega
      · rw [if_neg (by omega), if_neg (by omega), if_neg c1, if_neg c2, hold m hmk]
  · rw [List.getElem?_set_ne (Ne.symm hij)] at hi
    obtain ⟨u, h1, h2⟩ := hr i m el s hi hm
    refine ⟨u, ?_, h2⟩
    rw [Array.getElem?_toList]
    by_cases hlt : i < j
    · have : (i + 1) * c.k ≤ j * c.k := Nat.mul_le_mul_right _ hlt
      rw [Nat.succ_mul] at this
      rw [if_pos (by omega)]; exact h1
    · have : (j + 1) * c.k ≤ i * c.k := Nat.mul_le_mul_right _ (by omega)
      rw [Nat.succ_mul] at this
      rw [if_neg (by omega), if_neg (by omega)]; exact h1

theorem st_ok (he : EnvOK N D R ρ e a) (hst : StW ρ R F H w hs) {o : Oper} {size : Nat} {x y : SA} {x' y' : Operand} {K Kp : SV → List SO → Prop} {t : TypeId} (ho : o.op = .store t x' y') (hx : chkA x x' = true) (hy : chkA y y' = true)
    (hsz : sizeIs P t size = true) (h : opL P G (.st size x y) e H K Kp) : LOk P ρ R F o a w K Kp := by
  have hdx := chkA_den he hx
  have hdy := chkA_den he hy
  simp only [opL] at h
  have h := forceS_iff.1 h
  generalize evA e y = sy at h hdy
  cases hb : okS sy && Nat.beq (lenS sy.cells) size && allOne sy.cells with
  | false => rw [hb] at h; cases h
  | true =>
    rw [hb] at h
    simp only [cond_true] at h
    simp only [Bool.and_eq_true] at hb
    obtain ⟨⟨hok, hlen⟩, hall⟩ := hb
    have hlen := Nat.eq_of_beq_eq_true hlen
    rw [lenS_eq] at hlen
    have hcl := den_cells hdy (fun e => by rw [e] at hok; cases hok) (fun u e => by rw [e] at hok; cases hok)
    have hvl : (a.eval y').cells.toList.length = size := by rw [← hcl.1]; exact hlen
    have hone := allOne_one hcl hall
    have run : ∀ b p arr ty, a.eval x' = .pointer (some ⟨b, p, none⟩) → w.heap[b]? = some (.cells arr ty (0, 0)) → p + size ≤ arr.size →
        (execOp a.eval o).run P w = .ok .skip (w.setRow b (arr.toList.take p ++ (a.eval y').cells.toList ++ arr.toList.drop (p + (a.eval y').cells.toList.length)).toArray) := by
      intro b p arr ty h1 h2 h3
      have hs := put_cells (P := P) h2 (p := p) (vs := (a.eval y').cells.toList) (by rw [hvl]; exact h3) hone
      have hz : (a.eval y').cells.size = size := by simpa using hvl
      simp [execOp, ho, h1, Instr.storeAt, Instr.sureAddr, storeVar, run_sizeOf_is hsz, hz, hs]
    split at h
    · rename_i n off hxe; rw [hxe] at hdx
      split at h
      · rename_i l tyo hn
        cases hb : Nat.ble (off + size) (lenS l) with
        | false => rw [hb] at h; cases h
        | true =>
          have hle := Nat.le_of_ble_eq_true hb
          rw [lenS_eq] at hle
          rw [hb] at h
          simp only [cond_true] at h
          have h := setK_iff.1 (spliceK_iff.1 h)
          obtain ⟨v, hv, hso⟩ := hst.get hn (by simp)
          obtain ⟨b, ty, vs, rfl, hh, hl, hty⟩ := hso
          generalize hvx : a.eval x' = vx at hdx
          cases hdx with
          | ptr hn' =>
            rw [hv] at hn'; cases hn'
            have hw := hst.own n b _ (by rw [hh]; exact ⟨rfl, rfl⟩)
            have hr := run b (0 + off) vs.toArray ty hvx hw (by simp [← hl.1]; omega)
            rw [Nat.zero_add] at hr
            refine lok_skip hr (Ext.refl _) (HLe.refl _) (hst.update hh (setRow_heap w b _ _ ty (0, 0) hw) (fun b' hb' => setRow_other w b b' _ hb') hv ?_) h
            exact ⟨b, ty, _, rfl, rfl, DenL.splice hl hcl (by omega), hty⟩
      · cases h
    · rename_i n j k off hxe; rw [hxe] at hdx
      split at h
      · rename_i c xs hn
        obtain ⟨⟨hj, rfl, hle⟩, h⟩ := h
        have h := spliceK_iff.1 h
        split at h
        · rename_i y2 hdec
          have h := setK_iff.1 h
          obtain ⟨v, hv, hso⟩ := hst.get hn (by simp)
          rcases hso with ⟨_, rfl⟩ | ⟨b, cap, arr, rfl, hh, g1, g2, g3, g4⟩
          · simp at hj
          · generalize hvx : a.eval x' = vx at hdx
            have hw := hst.own n b _ (by rw [hh]; exact ⟨rfl, rfl⟩)
            have hxk : xs.length * c.k ≤ arr.size := Nat.le_trans (Nat.mul_le_mul_right _ g1) g2
            have hjk : j * c.k + c.k ≤ arr.size := by
              have h1 : (j + 1) * c.k ≤ xs.length * c.k := Nat.mul_le_mul_right _ hj
              rw [Nat.succ_mul] at h1; omega
            cases hdx with
            | elpS hn' =>
              rw [hv] at hn'; cases hn'
              have hr := run b (0 + (j * c.k + off)) arr c.ty hvx hw (by omega)
              rw [Nat.zero_add] at hr
              refine lok_skip hr (Ext.refl _) (HLe.refl _) (hst.update hh (setRow_heap w b _ _ c.ty (0, 0) hw) (fun b' hb' => setRow_other w b b' _ hb') hv ?_) h
              refine .inr ⟨b, cap, _, by simp, rfl, by simpa using g1, ?_, by simpa using g3, row_put g4 hj hxk (by omega) hcl hdec⟩
              simp only [List.size_toArray, List.length_append, List.length_take, List.length_drop, Array.length_toList, hvl]
              omega
            | elpP hn' => rw [hv] at hn'; cases hn'
        · cases h
      · rename_i c xs hn
        obtain ⟨⟨hj, rfl, hle⟩, h⟩ := h
        have h := spliceK_iff.1 h
        split at h
        · rename_i y2 hdec
          have h := setK_iff.1 h
          obtain ⟨v, hv, hso⟩ := hst.get hn (by simp)
          obtain ⟨b, ty, arr, rfl, hh, g1, g4⟩ := hso
          generalize hvx : a.eval x' = vx at hdx
          have hw := hst.own n b _ (by rw [hh]; exact ⟨rfl, rfl⟩)
          have hjk : j * c.k + c.k ≤ arr.size := by
            have h1 : (j + 1) * c.k ≤ xs.length * c.k := Nat.mul_le_mul_right _ hj
            rw [Nat.succ_mul] at h1; omega
          cases hdx with
          | elpS hn' => rw [hv] at hn'; cases hn'
          | elpP hn' =>
            rw [hv] at hn'; cases hn'
            have hr := run b (0 + (j * c.k + off)) arr ty hvx hw (by omega)
            rw [Nat.zero_add] at hr
            refine lok_skip hr (Ext.refl _) (HLe.refl _) (hst.update hh (setRow_heap w b _ _ ty (0, 0) hw) (fun b' hb' => setRow_other w b b' _ hb') hv ?_) h
            refine ⟨b, ty, _, rfl, rfl, ?_, row_put g4 hj g1 (by omega) hcl hdec⟩
            simp only [List.size_toArray, List.length_append, List.length_take, List.length_drop, Array.length_toList, hvl, List.length_set]
            omega
        · cases h
      · cases h
    · cases h
end
end Go.V
