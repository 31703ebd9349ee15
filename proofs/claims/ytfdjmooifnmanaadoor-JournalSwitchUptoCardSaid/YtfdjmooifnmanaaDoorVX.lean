/- Soundness of the operations that look at no memory: operation by operation. -/
import Derived.Test.YtfdjmooifnmanaaDoorVW
namespace Go.V
section
variable {P : Program} {N : Nat} {D : List Deferred} {R : Hp} {ρ : List Value} {e : Env} {a : Act}

theorem mmS_ok {mx : Bool} {t : TypeId} : ∀ {l : List SV} {vs : List Value} {s : SV} {v : Value} {K : SV → Prop}, Den R ρ s v → DenL R ρ l vs → mmS mx s l K →
    ∃ u su, (∀ w, (vs.foldlM (bif mx then Builtin.max2 else Builtin.min2) v).run P w = .ok u w) ∧ Den R ρ su u ∧ K su
  | [], vs, s, v, K, hd, hl, h => by
    have := hl.nil_inv; subst this
    unfold mmS at h
    split at h
    · exact ⟨v, _, fun w => by simp, hd, h⟩
    · rename_i heq; cases heq
    · cases h
  | b :: l, vs, s, v, K, hd, hl, h => by
    obtain ⟨u, us, rfl, h1, h2⟩ := hl.cons_inv
    unfold mmS at h
    split at h
    · rename_i heq; cases heq
    · rename_i k a k' b' r heq
      cases heq
      cases hd; cases h1
      have hstep : ∀ w, ((bif mx then Builtin.max2 else Builtin.min2) (.int k a) (.int k' b')).run P w = .ok (.int k (bif mx then max a b' else min a b')) w := by
        intro w
        cases mx
        · simp only [cond_false, Builtin.min2, Sem.run_pure]
          congr 2
          rw [Int.min_def]; split <;> split <;> omega
        · simp only [cond_true, Builtin.max2, Sem.run_pure]
          congr 2
          rw [Int.max_def]; split <;> split <;> omega
      obtain ⟨x, sx, g1, g2, g3⟩ := mmS_ok (t := t) (.int k _) h2 h
      refine ⟨x, sx, fun w => ?_, g2, g3⟩
      rw [List.foldlM_cons, Sem.run_bind, hstep w]
      exact g1 w
    · cases h

theorem ofOp {o : Oper} {p : Op} (h : o.op = p) : o = { o with op := p } := by cases o; simp_all

theorem subS_ok {s : Bytes} {lo hi : Option SV} {vlo vhi : Option Value} {K : SV → Prop} {t : TypeId} (ht : P.underlying t = some .string)
    (hlo : (lo = none ∧ vlo = none) ∨ ∃ l v, lo = some l ∧ vlo = some v ∧ Den R ρ l v) (hhi : (hi = none ∧ vhi = none) ∨ ∃ l v, hi = some l ∧ vhi = some v ∧ Den R ρ l v) (h : subS s lo hi K) :
    ∃ v sv, (∀ w, (Instr.sliceAt t (.string ⟨s.toArray⟩) vlo vhi none).run P w = .ok v w) ∧ Den R ρ sv v ∧ K sv := by
  have ext : ∀ (l h : Nat), l ≤ h → (⟨s.toArray⟩ : ByteArray).extract l h = ⟨((s.take h).drop l).toArray⟩ := by
    intro l h hle
    apply ByteArray.ext
    have e : l + (h - l) = h := by omega
    simp [List.take_drop, e]
  have sz : ByteArray.size ⟨s.toArray⟩ = s.length := by simp [ByteArray.size]
  have fin : ∀ (l h : Nat), l ≤ h → h ≤ s.length → ∀ sv', sv' = .str ((s.take h).drop l) → Den R ρ sv' (.string ((⟨s.toArray⟩ : ByteArray).extract l h)) := by
    intro l h h1 _ sv' e
    rw [e, ext l h h1]; exact .str _
  unfold subS at h
  split at h
  · obtain ⟨_, rfl⟩ := hlo.resolve_right (by rintro ⟨l, v, h1, _⟩; simp_all)
    obtain ⟨_, rfl⟩ := hhi.resolve_right (by rintro ⟨l, v, h1, _⟩; simp_all)
    refine ⟨.string ((⟨s.toArray⟩ : ByteArray).extract 0 s.length), _, fun w => ?_, fin 0 s.length (by omega) (Nat.le_refl _) (.str s) (by simp), h⟩
    have := ext 0 s.length (Nat.zero_le _)
    simp [Instr.sliceAt, Instr.slice, run_underlying ht, Instr.sliceBounds]
    simpa using this.symm
  · rename_i k l
    obtain ⟨l', v, h1, rfl, hd⟩ := hlo.resolve_left (by simp)
    obtain ⟨_, rfl⟩ := hhi.resolve_right (by rintro ⟨l, v, h1, _⟩; simp_all)
    cases h1; cases hd
    obtain ⟨⟨h0, h1⟩, hk⟩ := h
    refine ⟨.string ((⟨s.toArray⟩ : ByteArray).extract l.toNat s.length), _, fun w => ?_, fin l.toNat s.length (by omega) (Nat.le_refl _) (.str (s.drop l.toNat)) (by simp), hk⟩
    simp [Instr.sliceAt, Instr.slice, run_underlying ht, Instr.sliceBounds, Instr.sliceBound, asIntOf, sz, h0, h1]
  · rename_i k h'
    obtain ⟨_, rfl⟩ := hlo.resolve_right (by rintro ⟨l, v, h1, _⟩; simp_all)
    obtain ⟨l', v, h1, rfl, hd⟩ := hhi.resolve_left (by simp)
    cases h1; cases hd
    obtain ⟨⟨h0, h1⟩, hk⟩ := h
    refine ⟨.string ((⟨s.toArray⟩ : ByteArray).extract 0 h'.toNat), _, fun w => ?_, fin 0 h'.toNat (by omega) (by omega) (.str (s.take h'.toNat)) (by simp), hk⟩
    simp [Instr.sliceAt, Instr.slice, run_underlying ht, Instr.sliceBounds, Instr.sliceBound, asIntOf, sz, h0, h1]
  · rename_i k l k' h'
    obtain ⟨l', v, h1, rfl, hd⟩ := hlo.resolve_left (by simp)
    cases h1; cases hd
    obtain ⟨l', v, h1, rfl, hd⟩ := hhi.resolve_left (by simp)
    cases h1; cases hd
    obtain ⟨⟨h0, h1, h2⟩, hk⟩ := h
    refine ⟨.string ((⟨s.toArray⟩ : ByteArray).extract l.toNat h'.toNat), _, fun w => ?_, fin l.toNat h'.toNat (by omega) (by omega) _ rfl, hk⟩
    have h3 : 0 ≤ h' := by omega
    have h4 : l ≤ (h'.toNat : Int) := by omega
    have h5 : max h' 0 = h' := by omega
    simp [Instr.sliceAt, Instr.slice, run_underlying ht, Instr.sliceBounds, Instr.sliceBound, asIntOf, sz, h0, h3, h2, h5, h1]
  · cases h

theorem run_mapM_list {α β : Type} (f : α → Sem β) (g : α → β) (w : World) : ∀ l : List α, (∀ x ∈ l, (f x).run P w = .ok (g x) w) → (l.mapM f).run P w = .ok (l.map g) w
  | [], _ => by simp
  | x :: l, h => by
    simp [List.mapM_cons, h x (by simp), run_mapM_list f g w l fun y hy => h y (by simp [hy])]

theorem run_mapM_arr {α β : Type} (f : α → Sem β) (g : α → β) (w : World) (l : Array α) (h : ∀ x ∈ l, (f x).run P w = .ok (g x) w) : (l.mapM f).run P w = .ok (l.map g) w := by
  rw [Array.mapM_eq_mapM_toList, Sem.run_map, run_mapM_list f g w l.toList fun x hx => h x (by simpa using hx)]
  simp only [Result.andThen_ok]
  congr 1
  apply Array.ext'; simp

theorem chkOA_den (he : EnvOK N D R ρ e a) {x : Option SA} {y : Option Operand} (h : chkOA x y = true) :
    (x.map (evA e) = none ∧ y.map a.eval = none) ∨ ∃ l v, x.map (evA e) = some l ∧ y.map a.eval = some v ∧ Den R ρ l v := by
  unfold chkOA at h
  split at h
  · exact .inl ⟨rfl, rfl⟩
  · exact .inr ⟨_, _, rfl, rfl, chkA_den he h⟩
  · cases h

theorem opW_ok (he : EnvOK N D R ρ e a) {o : Oper} {s : SOp} {K : SV → Prop} (hc : chkW P s o.op = true) (h : opW s e K) : WOk P R ρ o a K := by
  cases s with
  | mv x =>
    have h := forceS_iff.1 h
    cases ho : o.op <;> simp only [ho, chkW] at hc <;> first | (cases hc; done) | skip
    all_goals exact wok (fun w => by simp [execOp, ho]) (chkA_den he hc) h
  | pick c x y =>
    cases ho : o.op <;> simp only [ho, chkW] at hc <;> first | (cases hc; done) | skip
    rename_i c' x' y'
    simp only [Bool.and_eq_true] at hc
    obtain ⟨⟨hc1, hx⟩, hy⟩ := hc
    have hd := chkA_den he hc1
    simp only [opW] at h
    split at h
    · rename_i b hb
      rw [hb] at hd
      cases hdc : a.eval c' with
      | bool b' =>
        rw [hdc] at hd; cases hd
        rcases h.run with ⟨rfl, h'⟩ | ⟨rfl, h'⟩
        · exact wok (fun w => by simp [execOp, ho, hdc, asBool]) (chkA_den he hx) (forceS_iff.1 h')
        · exact wok (fun w => by simp [execOp, ho, hdc, asBool]) (chkA_den he hy) (forceS_iff.1 h')
      | _ => rw [hdc] at hd; cases hd
    · rename_i hb; rw [hb] at hd
      generalize hdc : a.eval c' = v at hd
      cases hd
      exact wok (fun w => by simp [execOp, ho, hdc, asBool]) (chkA_den he hx) (forceS_iff.1 h)
    · rename_i hb; rw [hb] at hd
      generalize hdc : a.eval c' = v at hd
      cases hd
      exact wok (fun w => by simp [execOp, ho, hdc, asBool]) (chkA_den he hy) (forceS_iff.1 h)
    · cases h
  | nilc x =>
    cases ho : o.op <;> simp only [ho, chkW] at hc <;> first | (cases hc; done) | skip
    rename_i x'
    have hd := chkA_den he hc
    simp only [opW] at h
    split at h
    · rename_i hx; rw [hx] at hd
      generalize hv : a.eval x' = v at hd
      cases hd with | ptr hn => exact wok (fun w => by simp [execOp, ho, hv]) (.ptr hn) h
    · rename_i hx; rw [hx] at hd
      generalize hv : a.eval x' = v at hd
      cases hd with
      | elpS hn => exact wok (fun w => by simp [execOp, ho, hv]) (.elpS hn) h
      | elpP hn => exact wok (fun w => by simp [execOp, ho, hv]) (.elpP hn) h
    · rename_i hx; rw [hx] at hd
      generalize hv : a.eval x' = v at hd
      cases hd with | roe vs h1 h2 h3 => exact wok (fun w => by simp [execOp, ho, hv]) (.roe vs h1 h2 h3) h
    · rename_i hx; rw [hx] at hd
      generalize hv : a.eval x' = v at hd
      cases hd with | gp => exact wok (fun w => by simp [execOp, ho, hv]) (.gp _ _) h
    · rename_i hx; rw [hx] at hd
      generalize hv : a.eval x' = v at hd
      cases hd with | fn h1 h2 => exact wok (fun w => by simp [execOp, ho, hv]) (.fn h1 h2) h
    · cases h
  | bin op tk x y =>
    cases ho : o.op <;> simp only [ho, chkW] at hc <;> first | (cases hc; done) | skip
    rename_i op' t x' y' t'
    simp only [Bool.and_eq_true, decide_eq_true_eq] at hc
    obtain ⟨⟨⟨rfl, hx⟩, hy⟩, ht⟩ := hc
    obtain ⟨hg, v, sv, h1, h2, h3⟩ := opBin_ok (chkA_den he hx) (chkA_den he hy) ht h
    exact wok (fun w => by simp [execOp, ho, hg, h1]) h2 h3
  | un op x =>
    cases ho : o.op <;> simp only [ho, chkW] at hc <;> first | (cases hc; done) | skip
    rename_i op' t x'
    simp only [Bool.and_eq_true, decide_eq_true_eq] at hc
    obtain ⟨rfl, hx⟩ := hc
    have hd := chkA_den he hx
    simp only [opW] at h
    split at h
    · rename_i hx; rw [hx] at hd
      generalize hv : a.eval x' = v at hd
      cases hd
      exact wok (fun w => by simp [execOp, ho, hv, Op.unary]) (.bool _) h
    · rename_i hx; rw [hx] at hd
      generalize hv : a.eval x' = v at hd
      cases hd
      obtain ⟨r, hr, hk⟩ := h
      subst hr
      rename_i k n
      exact wok (v := .int k (k.wrap (0 - n))) (fun w => by simp [execOp, ho, hv, Op.unary, Op.intArith]) (.int _ _) hk
    · rename_i hx; rw [hx] at hd
      generalize hv : a.eval x' = v at hd
      cases hd
      rename_i k n
      exact wok (v := .int k (k.wrap (BitVec.ofInt k.bits (if k.signed then -1 else k.max) ^^^ BitVec.ofInt k.bits n).toNat)) (fun w => by simp [execOp, ho, hv, Op.unary, Op.intBits]) (.int _ _) h
    · cases h
  | conv k x =>
    cases ho : o.op <;> simp only [ho, chkW] at hc <;> first | (cases hc; done) | skip
    rename_i s d x'
    simp only [Bool.and_eq_true] at hc
    obtain ⟨hx, ht⟩ := hc
    have hd := chkA_den he hx
    simp only [opW] at h
    split at h
    · rename_i hx; rw [hx] at hd
      generalize hv : a.eval x' = v at hd
      cases hd
      obtain ⟨r, hr, hk⟩ := h
      split at ht
      · rename_i hs hd
        have := eq_of_beq ht
        subst this
        exact wok (v := .int k r) (fun w => by simp [execOp, ho, hv, convert, run_underlying hs, run_underlying hd, Conv.intToInt, hr]) (.int _ _) hk
      · cases ht
    · cases h
  | fa x off =>
    cases ho : o.op <;> simp only [ho, chkW] at hc <;> first | (cases hc; done) | skip
    rename_i s x' f
    simp only [Bool.and_eq_true] at hc
    obtain ⟨hx, ht⟩ := hc
    have hd := chkA_den he hx
    split at ht
    · rename_i fs hu
      split at ht
      · rename_i fd hfd
        simp only [Bool.and_eq_true, beq_iff_eq] at ht
        obtain ⟨rfl, hsz⟩ := ht
        have run : ∀ b o', a.eval x' = .pointer (some ⟨b, o', none⟩) → ∀ w, (execOp a.eval o).run P w = .ok (.value (.pointer (some ⟨b, o' + fd.offset, none⟩))) w := by
          intro b o' hv w
          simp [execOp, ho, hv, Instr.fieldAt, run_underlying hu, hfd, Instr.sureAddr, run_fieldPlace_is hsz]
        simp only [opW] at h
        split at h
        · rename_i hx; rw [hx] at hd
          generalize hv : a.eval x' = v at hd
          cases hd with | ptr hn => exact wok (run _ _ hv) (by rw [addN_eq, Nat.add_assoc]; exact .ptr hn) h
        · rename_i hx; rw [hx] at hd
          generalize hv : a.eval x' = v at hd
          cases hd with
          | elpS hn => exact wok (run _ _ hv) (by rw [addN_eq, Nat.add_assoc, Nat.add_assoc]; exact .elpS hn) h
          | elpP hn => exact wok (run _ _ hv) (by rw [addN_eq, Nat.add_assoc, Nat.add_assoc]; exact .elpP hn) h
        · rename_i hx; rw [hx] at hd
          generalize hv : a.eval x' = v at hd
          cases hd with | roe vs h1 h2 h3 => exact wok (run _ _ hv) (by rw [addN_eq, Nat.add_assoc, Nat.add_assoc]; exact .roe vs h1 h2 h3) h
        · rename_i hx; rw [hx] at hd
          generalize hv : a.eval x' = v at hd
          cases hd with | gp => exact wok (run _ _ hv) (by rw [addN_eq]; exact .gp _ _) h
        · cases h
      · cases ht
    · cases ht
  | fld x off size agg =>
    cases ho : o.op <;> simp only [ho, chkW] at hc <;> first | (cases hc; done) | skip
    rename_i s x' f
    simp only [Bool.and_eq_true] at hc
    obtain ⟨hx, ht⟩ := hc
    have hd := chkA_den he hx
    split at ht
    · rename_i fs hu
      split at ht
      · rename_i fd hfd
        simp only [Bool.and_eq_true, beq_iff_eq] at ht
        obtain ⟨⟨rfl, hsz⟩, hag⟩ := ht
        simp only [opW] at h
        split at h
        · rename_i l hx; rw [hx] at hd
          obtain ⟨vs, hv, hl⟩ := den_agg hd
          cases agg with
          | true =>
            simp only [cond_true] at h
            cases hb : Nat.ble (fd.offset + size) (lenS l) with
            | false => rw [hb] at h; cases h
            | true =>
              rw [hb] at h
              simp only [cond_true] at h
              have := hl.take_drop fd.offset size
              rw [takeS_eq, dropS_eq] at h
              refine wok (v := .agg ((vs.drop fd.offset).take size).toArray) (fun w => ?_) (.agg this.1 this.2) h
              simp [execOp, ho, hv, Instr.field, run_underlying hu, hfd, asAgg, part, run_isAgg_is hag, run_sizeOf_is hsz, List.take_drop]
          | false =>
            simp only [cond_false] at h
            cases hb : Nat.blt fd.offset (lenS l) with
            | false => rw [hb] at h; cases h
            | true =>
              rw [hb] at h
              have h := forceS_iff.1 h
              rw [nthS_eq] at h
              have hlt : fd.offset < l.length := by rw [lenS_eq] at hb; exact Nat.le_of_ble_eq_true hb
              obtain ⟨v, hg, hdv⟩ := hl.get hlt
              refine wok (v := v) (fun w => ?_) hdv h
              simp [execOp, ho, hv, Instr.field, run_underlying hu, hfd, asAgg, part, run_isAgg_is hag, hg]
        · cases h
      · cases ht
    · cases ht
  | ext x i =>
    cases ho : o.op <;> simp only [ho, chkW] at hc <;> first | (cases hc; done) | skip
    rename_i x' j
    simp only [Bool.and_eq_true, beq_iff_eq] at hc
    obtain ⟨hx, rfl⟩ := hc
    have hd := chkA_den he hx
    simp only [opW] at h
    split at h
    · rename_i l hx; rw [hx] at hd
      obtain ⟨vs, hv, hl⟩ := den_tup hd
      cases hb : Nat.blt i (lenS l) with
      | false => rw [hb] at h; cases h
      | true =>
        rw [hb] at h
        have hlt : i < l.length := by rw [lenS_eq] at hb; exact Nat.le_of_ble_eq_true hb
        have h := forceS_iff.1 h
        rw [nthS_eq] at h
        obtain ⟨v, hg, hdv⟩ := hl.get hlt
        refine wok (v := v) (fun w => ?_) hdv h
        simp [execOp, ho, hv, Instr.extract, hg]
    · cases h
  | idx x i =>
    cases ho : o.op <;> simp only [ho, chkW] at hc <;> first | (cases hc; done) | skip
    rename_i t x' i'
    simp only [Bool.and_eq_true] at hc
    obtain ⟨⟨hx, hi⟩, ht⟩ := hc
    have hd := chkA_den he hx
    have hdi := chkA_den he hi
    simp only [opW] at h
    split at h
    · rename_i s k n hx hi
      rw [hx] at hd; rw [hi] at hdi
      obtain ⟨⟨h0, h1⟩, hk⟩ := h
      generalize hv : a.eval x' = v at hd
      generalize hvi : a.eval i' = vi at hdi
      cases hd; cases hdi
      split at ht
      · rename_i hu
        refine wok (v := .int .u8 (s.getD n.toNat 0).toNat) (fun w => ?_) (.int _ _) hk
        have hlt : n.toNat < s.length := by omega
        have hget : (⟨s.toArray⟩ : ByteArray)[n.toNat]? = some s[n.toNat] := by
          simp only [getElem?_def]
          have : n.toNat < ByteArray.size ⟨s.toArray⟩ := by simpa [ByteArray.size] using hlt
          simp [this]
          rfl
        simp [execOp, ho, hv, hvi, Instr.index, asIntOf, run_underlying hu, h0, hget, List.getD, hlt]
      · cases ht
    · cases h
  | sub x lo hi =>
    cases ho : o.op with
    | slice t x' lo' hi' mx =>
      cases mx with
      | some m => simp [ho, chkW] at hc
      | none =>
        simp only [ho, chkW, Bool.and_eq_true] at hc
        obtain ⟨⟨⟨hx, hlo⟩, hhi⟩, ht⟩ := hc
        have hd := chkA_den he hx
        simp only [opW] at h
        split at h
        · rename_i s hx; rw [hx] at hd
          generalize hv : a.eval x' = v at hd
          cases hd
          have hu : P.underlying t = some .string := by split at ht <;> first | assumption | cases ht
          obtain ⟨v, sv, h1, h2, h3⟩ := subS_ok hu (chkOA_den he hlo) (chkOA_den he hhi) h
          exact wok (fun w => by simp [execOp, ho, hv, h1]) h2 h3
        · cases h
    | _ => simp [ho, chkW] at hc
  | bld zero parts =>
    cases ho : o.op <;> simp only [ho, chkW] at hc <;> first | (cases hc; done) | skip
    rename_i t ps
    simp only [Bool.and_eq_true] at hc
    obtain ⟨hz, ht⟩ := hc
    unfold zeroIs at hz
    split at hz
    · rename_i inf hinf
      split at hz
      · rename_i z hzz
        split at ht
        · rename_i fs hu
          simp only [Bool.and_eq_true] at ht
          obtain ⟨hp, hall⟩ := ht
          obtain ⟨cells', l', h1, h2, h3⟩ := fill_ok he parts ps.toList zero z.cells hp (cstL_den hz) h
          refine wok (v := .agg cells'.toList.toArray) (fun w => ?_) (.agg h2.1 h2.2) h3
          have hmap : ∀ w, (fs.mapM fun f => do pure (f.offset, ← sizeOf f.type) : Sem (Array (Nat × Nat))).run P w = .ok (fs.map fun f => (f.offset, P.cellsOf f.type)) w := fun w =>
            run_mapM_arr _ (fun f => (f.offset, P.cellsOf f.type)) w fs fun f hf => by
              have := Array.all_eq_true_iff_forall_mem.1 hall f hf
              cases hi : P.info? f.type with
              | none => rw [hi] at this; cases this
              | some i => simp [sizeOf, typeInfo, hi, Program.cellsOf]
          have hfill : Instr.fill (fun i => (fs.map fun f => (f.offset, P.cellsOf f.type))[i]?) z.cells (ps.map fun (i, x) => (i, a.eval x)).toList = some cells' := by
            simpa using h1
          simp only [execOp, ho, Instr.build, Sem.run_bind, zeroValue, typeInfo, run_program, Result.andThen_ok, hinf, Sem.run_pure, hzz, run_underlying hu, hmap, hfill]
        · cases ht
      · cases hz
    · cases hz
  | mki t x =>
    cases ho : o.op <;> simp only [ho, chkW] at hc <;> first | (cases hc; done) | skip
    rename_i t' x'
    simp only [Bool.and_eq_true, beq_iff_eq] at hc
    obtain ⟨⟨rfl, hx⟩, ht⟩ := hc
    have hd := chkA_den he hx
    simp only [opW] at h
    have h := forceS_iff.1 h
    refine wok (v := .iface t (a.eval x')) (fun w => ?_) (.ifc hd) h
    split at ht
    · cases ht
    · rename_i d hno hu
      simp only [execOp, ho, Instr.makeInterface, Sem.run_bind, run_underlying hu, Result.andThen_ok]
      cases d <;> first | rfl | exact absurd hu (hno _)
    · cases ht
  | mkf f caps =>
    cases ho : o.op <;> simp only [ho, chkW] at hc <;> first | (cases hc; done) | skip
    rename_i fn' first captured
    cases fn' <;> first | (cases hc; done) | skip
    simp only [Bool.and_eq_true, beq_iff_eq] at hc
    obtain ⟨⟨rfl, hf⟩, hx⟩ := hc
    have hf' : first = #[] := by simpa using hf
    subst hf'
    have := chkAL_den he hx
    refine wok (v := .func (.func f) #[] (captured.toList.map a.eval).toArray) (fun w => ?_) (.fn this.1 this.2) h
    simp [execOp, ho, Instr.makeFunc]
    apply Array.ext'; simp
  | mm mx l =>
    have key : ∀ (args : Array Operand), chkAL l args.toList = true → ∃ v sv, (∀ w, ((bif mx then Builtin.max_ else Builtin.min_) #[] 0 (args.map a.eval)).run P w = .ok v w) ∧ Den R ρ sv v ∧ K sv := by
      intro args hx
      have hd := chkAL_den he hx
      simp only [opW] at h
      cases hl : l.map (evA e) with
      | nil => rw [hl] at h; cases h
      | cons x r =>
        rw [hl] at h hd
        obtain ⟨u, us, e1, h1, h2⟩ := hd.cons_inv
        obtain ⟨y, sy, g1, g2, g3⟩ := mmS_ok (P := P) (t := 0) h1 h2 h
        refine ⟨y, sy, fun w => ?_, g2, g3⟩
        have e2 : (args.map a.eval).toList = u :: us := by simpa using e1
        cases mx
        · simp only [cond_false, Builtin.min_, e2]; exact g1 w
        · simp only [cond_true, Builtin.max_, e2]; exact g1 w
    cases ho : o.op with
    | call c =>
      obtain ⟨callee, args, argTypes⟩ := c
      cases mx <;> (cases callee with
      | builtin bi =>
        cases bi <;> simp only [ho, chkW] at hc <;> first | (cases hc; done) | skip
        obtain ⟨v, sv, g1, g2, g3⟩ := key args hc
        refine wok (v := v) (fun w => ?_) g2 g3
        have g1 := g1 w
        simp only [cond_false, cond_true] at g1
        have e1 : ∀ at' t', Builtin.min_ at' t' (args.map a.eval) = Builtin.min_ #[] 0 (args.map a.eval) := fun _ _ => rfl
        have e2 : ∀ at' t', Builtin.max_ at' t' (args.map a.eval) = Builtin.max_ #[] 0 (args.map a.eval) := fun _ _ => rfl
        simp [execOp, ho, resolve, invoke, builtin, e1 argTypes o.type, e2 argTypes o.type, g1]
      | _ => simp [ho, chkW] at hc)
    | _ => cases mx <;> simp [ho, chkW] at hc
  | _ => cases hc
end
end Go.V
