/- Soundness of the operations that act: slices that are made and appended to. -/
import Derived.Test.YtfdjmooifnmanaaDoorVL2
namespace Go.V
section
variable {P : Program} {N : Nat} {D : List Deferred} {R : Hp} {F : Fr} {ρ : List Value} {e : Env} {a : Act} {H : List SO} {w : World} {hs : Nat → Hp} {G : Glob}

theorem elemIs_info {t ty : TypeId} {k bytes : Nat} (h : elemIs P t ty k bytes = true) : t = ty ∧ ∃ i z, P.info? t = some i ∧ i.size = k ∧ i.bytes = bytes ∧ i.zero = some z ∧ z.cells.size = k := by
  unfold elemIs at h
  simp only [Bool.and_eq_true, beq_iff_eq] at h
  refine ⟨h.1, ?_⟩
  have h := h.2
  split at h
  · rename_i i hi
    simp only [Bool.and_eq_true, beq_iff_eq] at h
    have hz := h.2
    split at hz
    · rename_i z hz'
      exact ⟨i, z, hi, h.1.1, h.1.2, hz', by simpa using hz⟩
    · cases hz
  · cases h

/-- rows out of a flat list of cells -/
theorem decRows_ok {c : Codec} : ∀ (n : Nat) (l : List SV) (vs : List Value) (xs : List c.E), decRows c n l = some xs → DenL R ρ l vs →
    xs.length = n ∧ vs.length = n * c.k ∧ ∀ (i j : Nat) (e : c.E) (s : SV), xs[i]? = some e → (c.enc e)[j]? = some s → ∃ u, vs[i * c.k + j]? = some u ∧ Den R [] s u
  | 0, l, vs, xs, h, hd => by
    unfold decRows at h
    cases l with
    | nil => cases h; have := hd.nil_inv; subst this; exact ⟨rfl, by simp, fun i j e s hi => by simp at hi⟩
    | cons _ _ => cases h
  | n + 1, l, vs, xs, h, hd => by
    unfold decRows at h
    split at h
    · rename_i e he
      split at h
      · rename_i r hr
        cases h
        rw [takeS_eq] at he
        rw [dropS_eq] at hr
        have hen := c.ok _ _ he
        have hlk : (l.take c.k).length = c.k := by rw [← hen, c.len]
        have hle : c.k ≤ l.length := by simp at hlk; omega
        have hd1 := hd.take_drop 0 c.k
        have hd2 : DenL R ρ (l.drop c.k) (vs.drop c.k) := by
          have := hd.take_drop c.k l.length
          rw [List.take_of_length_le (by simp), List.take_of_length_le (by simp [← hd.1])] at this
          exact this
        obtain ⟨h1, h2, h3⟩ := decRows_ok n _ _ _ hr hd2
        have hvk : c.k ≤ vs.length := by rw [← hd.1]; exact hle
        refine ⟨by simp [h1], by rw [Nat.succ_mul]; simp at h2; omega, fun i j e' s hi hj => ?_⟩
        have hjk : j < c.k := by rw [← c.len e']; exact (List.getElem?_eq_some_iff.1 hj).1
        cases i with
        | zero =>
          simp at hi; subst hi
          have hlt : j < vs.length := by omega
          refine ⟨vs[j], by simp [hlt], ?_⟩
          rw [hen] at hj
          have hj' : (List.take c.k (List.drop 0 l))[j]? = some s := by simpa using hj
          have hv' : (List.take c.k (List.drop 0 vs))[j]? = some vs[j] := by simp [hjk, hlt]
          exact (hd1.2 j s _ hj' hv').closed (c.plain e s (List.mem_of_getElem? (by rw [hen]; exact hj))) []
        | succ i =>
          obtain ⟨u, g1, g2⟩ := h3 i j e' s (by simpa using hi) hj
          refine ⟨u, ?_, g2⟩
          rw [List.getElem?_drop] at g1
          rw [← g1, Nat.succ_mul]
          congr 1; omega
      · cases h
    · cases h

theorem fillL_ok (he : EnvOK N D R ρ e a) {size : Nat} {K : List SV → Prop} : ∀ (parts : List (Nat × Nat × SA)) (ps : List (Nat × Operand)) (l : List SV) (cells : Array Value),
    chkPartsL size parts ps = true → DenL R ρ l cells.toList → fillS e parts l K →
    ∃ cells' l', Instr.fill (fun i => some (i * size, size)) cells (ps.map fun (i, x) => (i, a.eval x)) = some cells' ∧ DenL R ρ l' cells'.toList ∧ K l'
  | [], [], l, cells, _, hd, h => ⟨cells, l, rfl, hd, h⟩
  | (off, sz, x) :: parts, (i, y) :: ps, l, cells, hc, hd, h => by
    simp only [chkPartsL, Bool.and_eq_true, beq_iff_eq] at hc
    obtain ⟨⟨⟨rfl, rfl⟩, hx⟩, hc⟩ := hc
    have hv := chkA_den he hx
    have h := forceS_iff.1 h
    generalize evA e x = s at h hv
    cases hb : okS s && Nat.beq (lenS s.cells) sz && Nat.ble (i * sz + sz) (lenS l) with
    | false => rw [hb] at h; simp at h
    | true =>
      rw [hb] at h
      simp only [Bool.and_eq_true] at hb
      obtain ⟨⟨hok, hsz⟩, hle⟩ := hb
      have hsz := Nat.eq_of_beq_eq_true hsz
      have hle := Nat.le_of_ble_eq_true hle
      rw [lenS_eq] at hsz hle
      have hcl := den_cells hv (fun e => by rw [e] at hok; cases hok) (fun u e => by rw [e] at hok; cases hok)
      have hvs : (a.eval y).cells.size = sz := by have := hcl.1; simp at this; omega
      have hll : l.length = cells.size := by have := hd.1; simpa using this
      have key : ∀ (vs : List Value) (k : Nat) (cs : Array Value), i * sz + k + vs.length ≤ cs.size →
          ((vs.zipIdx k).foldl (fun cs (c, j) => cs.setIfInBounds (i * sz + j) c) cs).toList = cs.toList.take (i * sz + k) ++ vs ++ cs.toList.drop (i * sz + k + vs.length) := by
        intro vs
        induction vs with
        | nil => intro k cs _; simp
        | cons v vs ih =>
          intro k cs hle
          simp only [List.zipIdx_cons, List.foldl_cons]
          rw [ih (k + 1) _ (by simp at hle ⊢; omega)]
          have e := list_seg_step cs.toList (i * sz + k) v vs (by simp at hle ⊢; omega)
          simpa [Array.toList_setIfInBounds, Nat.add_assoc] using e
      have hspl := DenL.splice hd hcl (off := i * sz) (by rw [hsz]; exact hle)
      have hfold : ((a.eval y).cells.zipIdx.foldl (fun cs (c, j) => cs.setIfInBounds (i * sz + j) c) cells).toList = cells.toList.take (i * sz) ++ (a.eval y).cells.toList ++ cells.toList.drop (i * sz + (a.eval y).cells.toList.length) := by
        rw [← Array.foldl_toList, Array.toList_zipIdx]
        have := key (a.eval y).cells.toList 0 cells (by simp; omega)
        simpa using this
      obtain ⟨cells', l', h1, h2, h3⟩ := fillL_ok he parts ps _ ((a.eval y).cells.zipIdx.foldl (fun cs (c, j) => cs.setIfInBounds (i * sz + j) c) cells) hc (by rw [hfold]; exact hspl) h
      refine ⟨cells', l', ?_, h2, h3⟩
      simp only [List.map_cons, Instr.fill]
      have hno : ¬ ((a.eval y).cells.size ≠ sz ∨ i * sz + (a.eval y).cells.size > cells.size) := by omega
      rw [if_neg (by simpa using hno)]
      exact h1
  | [], _ :: _, _, _, hc, _, _ => by simp [chkPartsL] at hc
  | _ :: _, [], _, _, hc, _, _ => by simp [chkPartsL] at hc

theorem denL_unk (n : Nat) (vs : List Value) (h : vs.length = n) : DenL R ρ (List.replicate n .unk) vs :=
  ⟨by simp [h], fun i s v h1 _ => by
    rw [List.getElem?_replicate] at h1
    split at h1
    · cases h1; exact .unk v
    · cases h1⟩

theorem bsl_ok (he : EnvOK N D R ρ e a) (hst : StW ρ R F H w hs) {o : Oper} {c : Codec} {n : Nat} {parts : List (Nat × Nat × SA)} {K Kp : SV → List SO → Prop} {t : TypeId} {ps : Array (Nat × Operand)} (ho : o.op = .buildSlice t n ps)
    (hp : chkPartsL c.k parts ps.toList = true) (hle : n * c.k ≤ 16777216) (hk0 : 0 < c.k) {el : TypeId} (hu : P.underlying t = some (.slice el)) (hel : elemIs P el c.ty c.k (P.bytesOf el) = true)
    (h : opL P G (.bsl c n parts) e H K Kp) : LOk P ρ R F o a w K Kp := by
  obtain ⟨rfl, i, z, hi, hsz, hby, hz, hzs⟩ := elemIs_info hel
  simp only [opL] at h
  have hdl : DenL R ρ (List.replicate (n * c.k) .unk) ((Array.range (n * c.k)).map (z.cells[· % z.cells.size]!)).toList := denL_unk _ _ (by simp)
  obtain ⟨cells', l', h1, h2, h3⟩ := fillL_ok he parts ps.toList _ ((Array.range (n * c.k)).map (z.cells[· % z.cells.size]!)) hp hdl h
  split at h3
  · rename_i xs hdec
    have h3 := newO_iff.1 h3
    obtain ⟨g1, g2, g3⟩ := decRows_ok n l' cells'.toList xs hdec h2
    refine lok_value (w' := { w with heap := w.heap.push (.cells cells' c.ty (0, 0)) }) (v := .slice (some ⟨w.heap.size, 0, none⟩) n n) ?_ (Ext.append _ _) (HLe.refl _)
      (st_newCells (o := .list c xs) hst rfl ?_) (.ref (last_name hst _) rfl) h3
    · have hlim : ¬ (n * c.k > 2 ^ 24) := by omega
      by_cases h0 : n * c.k = 0
      · have e0 : ∀ f : Nat → Value, (Array.range 0).map f = #[] := fun f => by simp
        have h1' : Instr.fill (fun i => some (i * c.k, c.k)) #[] (Array.map (fun (x : Nat × Operand) => (x.1, a.eval x.2)) ps).toList = some cells' := by
          rw [h0, e0] at h1; simpa using h1
        simp only [execOp, ho, Instr.buildSlice, Sem.run_bind, run_underlying hu, Result.andThen_ok, sizeOf, typeInfo, run_program, hi, Sem.run_pure, hsz, h0, if_true, Sem.run_ite, e0, h1']
        simp [newRow]
      · have h1' : Instr.fill (fun i => some (i * c.k, c.k)) (Array.map (fun x => z.cells[x % z.cells.size]!) (Array.range (n * c.k))) (Array.map (fun (x : Nat × Operand) => (x.1, a.eval x.2)) ps).toList = some cells' := by simpa using h1
        simp only [execOp, ho, Instr.buildSlice, Sem.run_bind, run_underlying hu, Result.andThen_ok, sizeOf, typeInfo, run_program, hi, Sem.run_pure, hsz, hlim, if_false, h0, Sem.run_ite, zeroValue, hz, h1']
        simp [newRow]
    · refine .inr ⟨w.heap.size, n, cells', by rw [g1], rfl, by omega, ?_, ?_, fun i j e s a1 a2 => ?_⟩
      · have : cells'.size = n * c.k := by simpa using g2
        omega
      · rw [g1]
        have : n * 1 ≤ n * c.k := Nat.mul_le_mul_left _ (by omega)
        omega
      · obtain ⟨u, u1, u2⟩ := g3 i j e s a1 a2
        exact ⟨u, by simpa using u1, u2⟩
  · cases h3

theorem mks_ok (he : EnvOK N D R ρ e a) (hst : StW ρ R F H w hs) {o : Oper} {c : Codec} {z : c.E} {bytes : Nat} {x : SA} {K Kp : SV → List SO → Prop} {t : TypeId} {l cp : Operand} (ho : o.op = .makeSlice t l cp)
    (hl : chkA x l = true) (hcp : chkA x cp = true) {el : TypeId} (hu : P.underlying t = some (.slice el)) (hel : elemIs P el c.ty c.k bytes = true) (hz : zeroIs P el (c.enc z) = true) (_hb0 : 0 < bytes) (hk0 : 0 < c.k)
    (h : opL P G (.mks c z bytes x) e H K Kp) : LOk P ρ R F o a w K Kp := by
  obtain ⟨rfl, i, zv, hi, hsz, hby, hzz, hzs⟩ := elemIs_info hel
  obtain ⟨i', z', hi', hz', hcz⟩ := zeroIs_run hz
  rw [hi] at hi'; cases hi'
  rw [hzz] at hz'; cases hz'
  have hdl := chkA_den he hl
  have hdc := chkA_den he hcp
  simp only [opL] at h
  split at h
  · rename_i n hx
    rw [hx] at hdl hdc
    obtain ⟨⟨h0, h1, h2⟩, h⟩ := h
    have h := newO_iff.1 h
    generalize hvl : a.eval l = vl at hdl
    generalize hvc : a.eval cp = vc at hdc
    cases hdl; cases hdc
    obtain ⟨m, rfl⟩ := Int.eq_ofNat_of_zero_le h0
    have hw : IntKind.i64.wrap (m : Int) = m := IntWalk.i64_in _ (by omega)
    have hcells : ((Array.range (m * c.k)).map (zv.cells[· % zv.cells.size]!)).size = m * c.k := by simp
    refine lok_value (w' := { w with heap := w.heap.push (.cells ((Array.range (m * c.k)).map (zv.cells[· % zv.cells.size]!)) c.ty (0, 0)) }) (v := .slice (some ⟨w.heap.size, 0, none⟩) m m) ?_ (Ext.append _ _) (HLe.refl _)
      (st_newCells (o := .list c (List.replicate (m : Int).toNat z)) hst rfl ?_) (.ref (last_name hst _) rfl) h
    · have hne : ∀ q : Int, q = (m : Int) → ((decide (q < 0) || decide ((bytes : Int) * q > 2 ^ 48)) = false) := by
        rintro q rfl
        have e2 : (bytes : Int) * m = m * bytes := Int.mul_comm _ _
        simp only [Bool.or_eq_false_iff, decide_eq_false_iff_not]
        constructor
        · omega
        · rw [e2]; omega
      simp only [execOp, ho, hvl, hvc, Instr.makeSlice, Sem.run_bind, run_underlying hu, Result.andThen_ok, asInt, asIntOf, Sem.run_pure, typeInfo, run_program, hi, hby, hw, hne _ rfl]
      have g1 : ¬ ((m : Int) < 0) := by omega
      have g2 : ¬ ((m : Int) > m) := by omega
      simp only [g1, g2, decide_false, Bool.or_self, Bool.false_eq_true, if_false]
      simp only [Sem.run_bind, run_askRoom, Result.andThen_ok, sizeOf, typeInfo, run_program, hi, Sem.run_pure, hsz, Int.toNat_natCast, zeroValue]
      by_cases hm0 : m * c.k = 0
      · have : m = 0 := by
          rcases Nat.mul_eq_zero.1 hm0 with h | h
          · exact h
          · omega
        subst this
        have e0 : ∀ f : Nat → Value, (Array.range 0).map f = #[] := fun f => by simp
        simp [newRow, e0]
      · simp [hm0, newRow, hi, hzz]
    · refine .inr ⟨w.heap.size, m, _, by simp, rfl, by simp, by simp, by simp; omega, fun i j e s a1 a2 => ?_⟩
      have hjk : j < c.k := by rw [← c.len e]; exact (List.getElem?_eq_some_iff.1 a2).1
      rw [List.getElem?_replicate] at a1
      split at a1
      · cases a1
        rename_i him
        have him' : i < m := by simpa using him
        have hlt : i * c.k + j < m * c.k := by
          have : (i + 1) * c.k ≤ m * c.k := Nat.mul_le_mul_right _ him'
          rw [Nat.succ_mul] at this; omega
        have hmod : (i * c.k + j) % c.k = j := by rw [Nat.add_comm, Nat.add_mul_mod_self_right]; exact Nat.mod_eq_of_lt hjk
        have hd := cstL_den (R := R) (ρ := []) hcz
        have hj2 : j < zv.cells.toList.length := by simp [hzs, hjk]
        refine ⟨zv.cells[j]'(by omega), ?_, hd.2 j s _ a2 (by simp [hzs, hjk])⟩
        simp [hlt, hzs, hmod, hjk]
      · cases a1
  · cases h
end
end Go.V
