/- Soundness of the operations that read memory. -/
import Derived.Test.YtfdjmooifnmanaaDoorVX
namespace Go.V
section
variable {P : Program} {N : Nat} {D : List Deferred} {R : Hp} {F : Fr} {ρ : List Value} {e : Env} {a : Act} {H : List SO} {w : World} {hs : Nat → Hp} {G : Glob}

theorem exists_row {Pc : Nat → Value → Prop} : ∀ {l : List SV}, (∀ (j : Nat) (s : SV), l[j]? = some s → ∃ u, Pc j u ∧ Den R ρ s u) → ∃ vs, DenL R ρ l vs ∧ ∀ (j : Nat) (v : Value), vs[j]? = some v → Pc j v := by
  intro l
  induction l generalizing Pc with
  | nil => intro _; exact ⟨[], .nil, fun j v h => by simp at h⟩
  | cons s l ih =>
    intro h
    obtain ⟨u, hu, hd⟩ := h 0 s rfl
    obtain ⟨vs, h1, h2⟩ := ih (Pc := fun j => Pc (j + 1)) fun j s hj => h (j + 1) s (by simpa using hj)
    refine ⟨u :: vs, .cons hd h1, fun j v hj => ?_⟩
    cases j with
    | zero => simp at hj; subst hj; exact hu
    | succ j => exact h2 j v (by simpa using hj)

/-- the cells of a row, in the world -/
def CellsAt (w : World) (b o : Nat) (vs : List Value) : Prop := ∀ (j : Nat) (v : Value), vs[j]? = some v → w.cell? ⟨b, o + j, none⟩ = some v

theorem cell_of_heap {b off : Nat} {c : Array Value} {t : TypeId} {f : Nat × Nat} (h : w.heap[b]? = some (.cells c t f)) : w.cell? ⟨b, off, none⟩ = c[off]? := by simp [World.cell?, h]

theorem loadC_ok {ρ' : List Value} {t : TypeId} {size : Nat} {agg : Bool} {l : List SV} {vs : List Value} {b o off : Nat} {K : SV → Prop} (hr : Ext ρ' ρ) (hsz : sizeIs P t size = true) (hag : aggIs P t agg = true)
    (hd : DenL R ρ' l vs) (hc : CellsAt w b o vs) (h : loadC size agg l off K) : ∃ v sv, (loadVar t ⟨b, o + off, none⟩).run P w = .ok v w ∧ Den R ρ sv v ∧ K sv := by
  unfold loadC at h
  cases agg with
  | true =>
    simp only [cond_true] at h
    cases hb : Nat.ble (off + size) (lenS l) with
    | false => rw [hb] at h; cases h
    | true =>
      rw [hb] at h
      simp only [cond_true] at h
      rw [takeS_eq, dropS_eq] at h
      have hle := Nat.le_of_ble_eq_true hb
      rw [lenS_eq, hd.1] at hle
      have hd' := hd.take_drop off size
      refine ⟨.agg ((vs.drop off).take size).toArray, _, ?_, .agg hd'.1 fun i s v h1 h2 => (hd'.2 i s v h1 h2).mono (HLe.refl _) hr, h⟩
      have hlen : ((vs.drop off).take size).length = size := by simp; omega
      have hl := run_loadCells_list (P := P) w ⟨b, o + off, none⟩ ((vs.drop off).take size) fun j v hj => by
        rw [addr_add]
        rw [List.getElem?_take] at hj
        split at hj
        · rw [List.getElem?_drop] at hj
          rw [Nat.add_assoc]; exact hc _ _ hj
        · cases hj
      rw [hlen] at hl
      simp [loadVar, run_isAgg_is hag, run_sizeOf_is hsz, hl]
  | false =>
    simp only [cond_false] at h
    cases hb : Nat.blt off (lenS l) with
    | false => rw [hb] at h; cases h
    | true =>
      rw [hb] at h
      have h := forceS_iff.1 h
      rw [nthS_eq] at h
      have hlt : off < l.length := by rw [lenS_eq] at hb; exact Nat.le_of_ble_eq_true hb
      obtain ⟨v, hg, hdv⟩ := hd.get hlt
      refine ⟨v, _, ?_, hdv.mono (HLe.refl _) hr, h⟩
      simp [loadVar, run_isAgg_is hag, hc _ _ hg]

theorem getElem?_of_lt {E : Type} {xs : List E} {i : Nat} (d : E) (h : i < xs.length) : xs[i]? = some (xs.getD i d) := by simp [h]

theorem row_cells {c : Codec} {arr : Array Value} {xs : List c.E} (hr : RowDen R c arr xs) {i : Nat} (hi : i < xs.length) {b : Nat} {t : TypeId} {f : Nat × Nat} (hw : w.heap[b]? = some (.cells arr t f)) :
    ∃ vs, DenL R [] (c.enc (xs.getD i c.dflt)) vs ∧ CellsAt w b (i * c.k) vs := by
  obtain ⟨vs, h1, h2⟩ := exists_row (R := R) (ρ := []) (Pc := fun j u => arr[i * c.k + j]? = some u) (l := c.enc (xs.getD i c.dflt)) fun j s hj => hr i j _ s (getElem?_of_lt c.dflt hi) hj
  exact ⟨vs, h1, fun j v hj => by rw [cell_of_heap hw]; exact h2 j v hj⟩

theorem lenC {n : Nat} (h : n ≤ 140737488355328) : n ≤ 140737488355328 := h

theorem toB_fold (xs : List Int) : ∀ acc : ByteArray, xs.foldl (fun r n => r.push (UInt8.ofNat n.toNat)) acc = ⟨(acc.data.toList ++ toB xs).toArray⟩ := by
  induction xs with
  | nil => intro acc; simp [toB]
  | cons x xs ih =>
    intro acc
    simp only [List.foldl_cons]
    rw [ih]
    congr 1
    simp [toB, ByteArray.push]

theorem byte_cells {xs : List Int} {vs : List Value} (hl : vs.length = xs.length) (h : ∀ (i : Nat) (n : Int), xs[i]? = some n → ∃ u, vs[i]? = some u ∧ Den R [] (.int .u8 n) u) : vs = xs.map (Value.int .u8) := by
  apply List.ext_getElem?
  intro i
  rw [List.getElem?_map]
  cases hx : xs[i]? with
  | none =>
    have : xs.length ≤ i := by simpa using hx
    simp [hl, this]
  | some n =>
    obtain ⟨u, h1, h2⟩ := h i n hx
    cases h2
    simpa using h1

/-- bytes, found in the world -/
theorem bytes_of (hst : StW ρ R F H w hs) {sv : SV} {v : Value} {K : List Int → Prop} (hd : Den R ρ sv v) (h : VBytes sv H K) :
    ∃ xs, K xs ∧ (Conv.bytesToString v).run P w = .ok (.string ⟨(toB xs).toArray⟩) w ∧ ∃ ad len cap, v = .slice ad len cap := by
  have nil : (Conv.bytesToString (.slice none 0 0)).run P w = .ok (.string ⟨(toB []).toArray⟩) w := by simp [Conv.bytesToString, toB]; rfl
  have some' : ∀ (ad : Addr) (cap : Nat) (vs : List Value) (xs : List Int), vs = xs.map (Value.int .u8) → (∀ (j : Nat) (u : Value), vs[j]? = some u → w.cell? (ad.add j) = some u) →
      (Conv.bytesToString (.slice (some ad) xs.length cap)).run P w = .ok (.string ⟨(toB xs).toArray⟩) w := by
    intro ad cap vs xs hvs hc
    have hl := run_loadCells_list (P := P) w ad vs hc
    rw [hvs, List.length_map] at hl
    rw [run_bytesToString w ad xs.length cap xs hl, toB_fold]
    rfl
  rcases h with ⟨m, ty, xs, rfl, hn, hk⟩ | ⟨ty, xs, rfl, hk⟩ | ⟨rfl, hk⟩
  · refine ⟨xs, hk, ?_⟩
    obtain ⟨v', hv, hso⟩ := hst.get hn (by simp)
    cases hd with
    | ref hn' _ =>
      rw [hv] at hn'; cases hn'
      rcases hso with ⟨rfl, rfl⟩ | ⟨b, cap, arr, rfl, hh, g1, g2, g3, g4⟩
      · exact ⟨nil, _, _, _, rfl⟩
      · refine ⟨?_, _, _, _, rfl⟩
        have hw := hst.own m b _ (by rw [hh]; exact ⟨rfl, rfl⟩)
        have hxk : xs.length ≤ arr.size := by
          have e1 : cap * (byteC ty).k = cap := Nat.mul_one _
          rw [e1] at g2
          exact Nat.le_trans g1 g2
        refine some' ⟨b, 0, none⟩ cap (arr.toList.take xs.length) xs (byte_cells (R := R) (by simp; omega) fun i n hi => ?_) fun j u hj => ?_
        · obtain ⟨u, u1, u2⟩ := g4 i 0 n (.int .u8 n) hi rfl
          have hil : i < xs.length := (List.getElem?_eq_some_iff.1 hi).1
          have e1 : i * (byteC ty).k + 0 = i := by show i * 1 + 0 = i; omega
          rw [e1] at u1
          exact ⟨u, by rw [List.getElem?_take, if_pos hil]; simpa using u1, u2⟩
        · rw [addr_add, Nat.zero_add, cell_of_heap hw]
          rw [List.getElem?_take] at hj
          split at hj
          · simpa using hj
          · cases hj
  · refine ⟨xs, hk, ?_⟩
    cases hd with
    | ro vs hc hd' hk2 hcap hb =>
      rename_i b o cap
      refine ⟨?_, _, _, _, rfl⟩
      refine some' ⟨b, o, none⟩ cap ((List.range xs.length).map fun i => vs i 0) xs (byte_cells (R := R) (by simp) fun i n hi => ?_) fun j u hj => ?_
      · have hil : i < xs.length := (List.getElem?_eq_some_iff.1 hi).1
        exact ⟨vs i 0, by simp [hil], hd' i 0 n (.int .u8 n) hi rfl⟩
      · have hlt : j < xs.length := by have := (List.getElem?_eq_some_iff.1 hj).1; simpa using this
        simp [hlt] at hj
        obtain ⟨cs, t, f, r1, r2⟩ := hc j 0 _ _ (List.getElem?_eq_getElem hlt) rfl
        have e1 : o + (j * 1 + 0) = o + j := by omega
        rw [e1] at r2
        rw [addr_add, cell_of_heap (hst.subR b _ r1), r2, hj]
    | roN => exact ⟨nil, _, _, _, rfl⟩
    | roE ad cap => exact ⟨some' ad cap [] [] (byte_cells (R := R) (by simp) fun i n hi => by simp at hi) fun j u hj => by simp at hj, _, _, _, rfl⟩
  · cases hd
    exact ⟨[], hk, nil, _, _, _, rfl⟩

theorem opR_ok (hG : G.g R) (he : EnvOK N D R ρ e a) (hst : StW ρ R F H w hs) {o : Oper} {s : SOp} {K : SV → Prop} (hc : chkR P s o.op = true) (h : opR G s e H K) :
    ∃ v sv, (execOp a.eval o).run P w = .ok (.value v) w ∧ Den R ρ sv v ∧ K sv := by
  cases s with
  | ld x size agg =>
    cases ho : o.op <;> simp only [ho, chkR] at hc <;> first | (cases hc; done) | skip
    rename_i t x'
    simp only [Bool.and_eq_true] at hc
    obtain ⟨⟨hx, hsz⟩, hag⟩ := hc
    have hd := chkA_den he hx
    have fin : ∀ b off, a.eval x' = .pointer (some ⟨b, off, none⟩) → (∃ v sv, (loadVar t ⟨b, off, none⟩).run P w = .ok v w ∧ Den R ρ sv v ∧ K sv) → ∃ v sv, (execOp a.eval o).run P w = .ok (.value v) w ∧ Den R ρ sv v ∧ K sv := by
      rintro b off hv ⟨v, sv, h1, h2, h3⟩
      exact ⟨v, sv, by simp [execOp, ho, hv, Instr.loadAt, Instr.sureAddr, h1], h2, h3⟩
    simp only [opR] at h
    split at h
    · rename_i n off hx; rw [hx] at hd
      split at h
      · rename_i l hn
        obtain ⟨v, hv, hso⟩ := hst.get hn (by simp)
        obtain ⟨b, ty, vs, rfl, hh, hl, _⟩ := hso
        generalize hvx : a.eval x' = vx at hd
        cases hd with
        | ptr hn' =>
          rw [hv] at hn'; cases hn'
          have hw := hst.own n b _ (by rw [hh]; exact ⟨rfl, rfl⟩)
          refine fin _ _ hvx (loadC_ok (Ext.refl _) hsz hag hl (fun j v hj => ?_) h)
          rw [cell_of_heap hw]; simpa using hj
      · cases h
    · rename_i n j k off hx; rw [hx] at hd
      split at h
      · rename_i c xs hn
        obtain ⟨⟨hj, rfl⟩, hk⟩ := h
        obtain ⟨v, hv, hso⟩ := hst.get hn (by simp)
        rcases hso with ⟨_, rfl⟩ | ⟨b, cap, arr, rfl, hh, h1, h2, h3, h4⟩
        · simp at hj
        · generalize hvx : a.eval x' = vx at hd
          have hw := hst.own n b _ (by rw [hh]; exact ⟨rfl, rfl⟩)
          obtain ⟨vs, g1, g2⟩ := row_cells h4 hj hw
          cases hd with
          | elpS hn' =>
            rw [hv] at hn'; cases hn'
            rw [Nat.zero_add] at hvx
            exact fin _ _ hvx (loadC_ok (Ext.nil _) hsz hag g1 g2 hk)
          | elpP hn' => rw [hv] at hn'; cases hn'
      · rename_i c xs hn
        obtain ⟨⟨hj, rfl⟩, hk⟩ := h
        obtain ⟨v, hv, hso⟩ := hst.get hn (by simp)
        obtain ⟨b, ty, arr, rfl, hh, h1, h4⟩ := hso
        generalize hvx : a.eval x' = vx at hd
        have hw := hst.own n b _ (by rw [hh]; exact ⟨rfl, rfl⟩)
        obtain ⟨vs, g1, g2⟩ := row_cells h4 hj hw
        cases hd with
        | elpS hn' => rw [hv] at hn'; cases hn'
        | elpP hn' =>
          rw [hv] at hn'; cases hn'
          rw [Nat.zero_add] at hvx
          exact fin _ _ hvx (loadC_ok (Ext.nil _) hsz hag g1 g2 hk)
      · cases h
    · rename_i E d k enc xs j off hx; rw [hx] at hd
      obtain ⟨hj, hk⟩ := h
      generalize hvx : a.eval x' = vx at hd
      cases hd with
      | roe vs h1 h2 h3 =>
        rename_i b o'
        obtain ⟨us, g1, g2⟩ := exists_row (R := R) (ρ := []) (Pc := fun m u => RCell R b (o' + (j * k + m)) u) (l := enc (xs.getD j d)) fun m s hm =>
          ⟨vs j m, h1 j m _ s (getElem?_of_lt d hj) hm, h2 j m _ s (getElem?_of_lt d hj) hm⟩
        have hvx' : a.eval x' = .pointer (some ⟨b, o' + j * k + off, none⟩) := by rw [hvx, Nat.add_assoc]
        refine fin _ _ hvx' (loadC_ok (Ext.nil _) hsz hag g1 (fun m v hm => ?_) hk)
        obtain ⟨c, t', f, r1, r2⟩ := g2 m v hm
        rw [cell_of_heap (hst.subR b _ r1), Nat.add_assoc]; exact r2
    · rename_i g off hx; rw [hx] at hd
      obtain ⟨l, h1, h2⟩ := h
      obtain ⟨t', f, vs, r1, r2⟩ := h1 R hG
      generalize hvx : a.eval x' = vx at hd
      cases hd
      rw [← Nat.zero_add off] at hvx
      refine fin _ _ hvx (loadC_ok (Ext.nil _) hsz hag r2 (fun m v hm => ?_) h2)
      rw [cell_of_heap (hst.subR g _ r1)]; simpa using hm
    · cases h
  | b2s x =>
    cases ho : o.op <;> simp only [ho, chkR] at hc <;> first | (cases hc; done) | skip
    rename_i s d y
    simp only [Bool.and_eq_true] at hc
    obtain ⟨hx, ht⟩ := hc
    have hd := chkA_den he hx
    obtain ⟨xs, hk, hr, ad, len, cap, hv⟩ := bytes_of (P := P) hst hd h
    split at ht
    · rename_i el hs1 hd1
      split at ht
      · rename_i he1
        refine ⟨_, _, ?_, .str (toB xs), hk⟩
        rw [hv] at hr
        simp [execOp, ho, hv, run_convert_bytes_string w s d el ad len cap hs1 he1 hd1, hr]
      · cases ht
    · cases ht
  | _ => simp [chkR] at hc

theorem slcS_ok {E : Type} {d : E} {k : Nat} {enc : E → List SV} {xs : List E} {x : Value} {lo hi : Option SV} {vlo vhi : Option Value} {K : SV → Prop} {t el : TypeId} (ht : P.underlying t = some (.slice el)) (hsz : sizeIs P el k = true)
    (hd : Den R ρ (.ro E d k enc xs) x)
    (hlo : (lo = none ∧ vlo = none) ∨ ∃ l v, lo = some l ∧ vlo = some v ∧ Den R ρ l v) (hhi : (hi = none ∧ vhi = none) ∨ ∃ l v, hi = some l ∧ vhi = some v ∧ Den R ρ l v) (h : slcS d k enc xs lo hi K) :
    ∃ v sv, (∀ w, (Instr.sliceAt t x vlo vhi none).run P w = .ok v w) ∧ Den R ρ sv v ∧ K sv := by
  have fin : ∀ (l h' : Nat), l ≤ h' → h' ≤ xs.length → (∀ (ad : Option Addr) (len cap : Nat) (w : World), x = .slice ad len cap → len = xs.length → xs.length ≤ cap → (Instr.sliceBounds true len cap vlo vhi none).run P w = .ok (l, h', cap) w) →
      ∃ v, (∀ w, (Instr.sliceAt t x vlo vhi none).run P w = .ok v w) ∧ Den R ρ (.ro E d k enc ((xs.take h').drop l)) v := by
    intro l h' h1 h2 hb
    have hlen : ((xs.take h').drop l).length = h' - l := by simp; omega
    cases hd with
    | ro vs hc hd' hk hcap hbb =>
      rename_i b o cap
      have hb := fun w => hb _ _ _ w rfl rfl hcap
      by_cases hm : cap = l
      · subst hm
        have : h' = cap := by omega
        subst this
        refine ⟨.slice (some ⟨b, o, none⟩) (h' - h') (h' - h'), fun w => ?_, ?_⟩
        · simp [Instr.sliceAt, Instr.slice, run_underlying ht, hb w, run_sizeOf_is hsz]
        · have e : (xs.take h').drop h' = [] := by simp
          rw [e, Nat.sub_self]
          exact .ro vs (fun i j e s h => by simp at h) (fun i j e s h => by simp at h) hk (Nat.le_refl _) (by simp)
      · refine ⟨.slice (some ⟨b, o + l * k, none⟩) (h' - l) (cap - l), fun w => ?_, ?_⟩
        · simp [Instr.sliceAt, Instr.slice, run_underlying ht, hb w, run_sizeOf_is hsz, hm, addr_add]
        · have e := Den.ro (ρ := ρ) (b := b) (o := o + l * k) (cap := cap - l) (E := E) (d := d) (k := k) (enc := enc) (xs := (xs.take h').drop l) (R := R) (fun i j => vs (l + i) j)
            (fun i j e s g1 g2 => by
              rw [List.getElem?_drop, List.getElem?_take] at g1
              split at g1
              · have := hc (l + i) j e s g1 g2
                rw [Nat.add_mul] at this
                have e2 : o + l * k + (i * k + j) = o + (l * k + i * k + j) := by omega
                rw [e2]; exact this
              · cases g1)
            (fun i j e s g1 g2 => by
              rw [List.getElem?_drop, List.getElem?_take] at g1
              split at g1
              · exact hd' (l + i) j e s g1 g2
              · cases g1) hk (by rw [hlen]; omega) (by rw [hlen]; omega)
          rw [hlen] at e; exact e
    | roN =>
      have hb := fun w => hb _ _ _ w rfl rfl (Nat.le_refl _)
      simp at h2
      subst h2
      have : l = 0 := by omega
      subst this
      refine ⟨.slice none 0 0, fun w => ?_, by simpa using Den.roN⟩
      simp [Instr.sliceAt, Instr.slice, run_underlying ht, hb w, run_sizeOf_is hsz]
    | roE ad cap =>
      have hb := fun w => hb _ _ _ w rfl rfl (Nat.zero_le _)
      simp at h2
      subst h2
      have : l = 0 := by omega
      subst this
      refine ⟨.slice (some ad) 0 cap, fun w => ?_, by simpa using Den.roE ad cap⟩
      by_cases hcp : cap = 0
      · subst hcp
        simp [Instr.sliceAt, Instr.slice, run_underlying ht, hb w, run_sizeOf_is hsz]
      · simp [Instr.sliceAt, Instr.slice, run_underlying ht, hb w, run_sizeOf_is hsz, hcp, Addr.add]
  unfold slcS at h
  split at h
  · obtain ⟨_, rfl⟩ := hlo.resolve_right (by rintro ⟨l, v, h1, _⟩; simp_all)
    obtain ⟨_, rfl⟩ := hhi.resolve_right (by rintro ⟨l, v, h1, _⟩; simp_all)
    obtain ⟨v, g1, g2⟩ := fin 0 xs.length (by omega) (Nat.le_refl _) (fun ad len cap w hx hl hc => by subst hl; simp [Instr.sliceBounds])
    exact ⟨v, _, g1, by simpa using g2, h⟩
  · rename_i kk l
    obtain ⟨l', v, h1, rfl, hdl⟩ := hlo.resolve_left (by simp)
    obtain ⟨_, rfl⟩ := hhi.resolve_right (by rintro ⟨l, v, h1, _⟩; simp_all)
    cases h1; cases hdl
    obtain ⟨⟨h0, h1⟩, hk⟩ := h
    obtain ⟨v, g1, g2⟩ := fin l.toNat xs.length (by omega) (Nat.le_refl _) (fun ad len cap w hx hl hc => by subst hl; simp [Instr.sliceBounds, Instr.sliceBound, asIntOf, h0, h1])
    exact ⟨v, _, g1, by simpa using g2, hk⟩
  · rename_i kk h'
    obtain ⟨_, rfl⟩ := hlo.resolve_right (by rintro ⟨l, v, h1, _⟩; simp_all)
    obtain ⟨l', v, h1, rfl, hdl⟩ := hhi.resolve_left (by simp)
    cases h1; cases hdl
    obtain ⟨⟨h0, h1⟩, hk⟩ := h
    obtain ⟨v, g1, g2⟩ := fin 0 h'.toNat (by omega) (by omega) (fun ad len cap w hx hl hc => by
      have : h' ≤ (cap : Int) := by omega
      simp [Instr.sliceBounds, Instr.sliceBound, asIntOf, h0, this])
    exact ⟨v, _, g1, by simpa using g2, hk⟩
  · rename_i k1 l k2 h'
    obtain ⟨l', v, h1, rfl, hdl⟩ := hlo.resolve_left (by simp)
    obtain ⟨l2, v2, h2, rfl, hdl2⟩ := hhi.resolve_left (by simp)
    cases h1; cases hdl; cases h2; cases hdl2
    obtain ⟨⟨h0, h1, h2⟩, hk⟩ := h
    obtain ⟨v, g1, g2⟩ := fin l.toNat h'.toNat (by omega) (by omega) (fun ad len cap w hx hl hc => by
      have a1 : h' ≤ (cap : Int) := by omega
      have a2 : 0 ≤ h' := by omega
      have a3 : l ≤ (h'.toNat : Int) := by omega
      have a4 : ¬ max h' 0 < l := by omega
      simp [Instr.sliceBounds, Instr.sliceBound, asIntOf, h0, a1, a2, a4])
    exact ⟨v, _, g1, g2, hk⟩
  · cases h

theorem opX_ok (hG : G.g R) (he : EnvOK N D R ρ e a) (hst : StW ρ R F H w hs) {o : Oper} {s : SOp} {K : SV → Prop} (hc : chkX P s o.op = true) (h : opX G s e H K) :
    ∃ v sv, (∀ w', (execOp a.eval o).run P w' = .ok (.value v) w') ∧ Den R ρ sv v ∧ K sv := by
  cases s with
  | len sl x =>
    cases ho : o.op with
    | call c =>
      obtain ⟨callee, args, argTypes⟩ := c
      cases callee with
      | builtin bi =>
        cases bi <;> simp only [ho, chkX] at hc <;> first | (cases hc; done) | skip
        split at hc
        · rename_i y hargs
          simp only [Bool.and_eq_true] at hc
          obtain ⟨hx, ht⟩ := hc
          have hargs' : args = #[y] := by apply Array.ext'; simpa using hargs
          subst hargs'
          have hd := chkA_den he hx
          split at ht
          · rename_i t htt
            have htt' : argTypes[0]? = some t := htt
            have fin : ∀ u, (∀ d, P.underlying t = some d → ((d = .string ∧ sl = false) ∨ ((∃ el, d = .slice el) ∧ sl = true)) → ∀ w', (Builtin.len_ argTypes o.type #[a.eval y]).run P w' = .ok u w') → ∀ w', (execOp a.eval o).run P w' = .ok (.value u) w' := by
              intro u hr w'
              split at ht
              · rename_i hu; simp [execOp, ho, resolve, invoke, builtin, hr _ hu (.inl ⟨rfl, rfl⟩)]
              · rename_i hu; simp [execOp, ho, resolve, invoke, builtin, hr _ hu (.inr ⟨⟨_, rfl⟩, rfl⟩)]
              · cases ht
            simp only [opX] at h
            split at h
            · rename_i s' hx; rw [hx] at hd
              generalize hv : a.eval y = v at hd fin
              cases hd
              refine ⟨.int .i64 s'.length, _, fin _ fun d hu hdd w' => ?_, .int _ _, h⟩
              rcases hdd with ⟨rfl, _⟩ | ⟨_, h0⟩
              · have hsz : ByteArray.size ⟨s'.toArray⟩ = s'.length := by simp [ByteArray.size]
                simp only [Builtin.len_, htt', List.getElem?_toArray, List.getElem?_cons_zero, Sem.run_bind, run_underlying hu, Result.andThen_ok, Sem.run_pure, goInt, hsz]
              · cases h0
            · rename_i hx; rw [hx] at hd
              generalize hv : a.eval y = v at hd fin
              cases hd
              refine ⟨.int .i64 0, _, fin _ fun d hu hdd w' => ?_, .int _ _, h⟩
              rcases hdd with ⟨_, h0⟩ | ⟨⟨el, rfl⟩, _⟩
              · cases h0
              · simp [Builtin.len_, htt', run_underlying hu, goInt]
            · rename_i E d k enc xs hx; rw [hx] at hd
              generalize hv : a.eval y = v at hd fin
              cases hd with
              | ro vs g1 g2 g3 g4 g5 =>
                refine ⟨.int .i64 xs.length, _, fin _ fun d hu hdd w' => ?_, .int _ _, h.h g5⟩
                rcases hdd with ⟨_, h0⟩ | ⟨⟨el, rfl⟩, _⟩
                · cases h0
                · simp [Builtin.len_, htt', run_underlying hu, goInt]
              | roN =>
                refine ⟨.int .i64 0, _, fin _ fun d hu hdd w' => ?_, .int _ _, by simpa using h.h (by simp)⟩
                rcases hdd with ⟨_, h0⟩ | ⟨⟨el, rfl⟩, _⟩
                · cases h0
                · simp [Builtin.len_, htt', run_underlying hu, goInt]
              | roE ad cap =>
                refine ⟨.int .i64 0, _, fin _ fun d hu hdd w' => ?_, .int _ _, by simpa using h.h (by simp)⟩
                rcases hdd with ⟨_, h0⟩ | ⟨⟨el, rfl⟩, _⟩
                · cases h0
                · simp [Builtin.len_, htt', run_underlying hu, goInt]
            · rename_i n hx; rw [hx] at hd
              split at h
              · rename_i c xs hn
                obtain ⟨v, hv, hso⟩ := hst.get hn (by simp)
                generalize hvy : a.eval y = vy at hd fin
                cases hd with
                | ref hn' _ =>
                  rw [hv] at hn'; cases hn'
                  rcases hso with ⟨rfl, rfl⟩ | ⟨b, cap, arr, rfl, hh, g1, g2, g3, g4⟩
                  · refine ⟨.int .i64 0, _, fin _ fun d hu hdd w' => ?_, .int _ _, by simpa using h.h (by simp)⟩
                    rcases hdd with ⟨_, h0⟩ | ⟨⟨el, rfl⟩, _⟩
                    · cases h0
                    · simp [Builtin.len_, htt', run_underlying hu, goInt]
                  · refine ⟨.int .i64 xs.length, _, fin _ fun d hu hdd w' => ?_, .int _ _, h.h g3⟩
                    rcases hdd with ⟨_, h0⟩ | ⟨⟨el, rfl⟩, _⟩
                    · cases h0
                    · simp [Builtin.len_, htt', run_underlying hu, goInt]
              · cases h
            · cases h
          · cases ht
        · cases hc
      | _ => simp [ho, chkX] at hc
    | _ => simp [ho, chkX] at hc
  | ia x i k =>
    cases ho : o.op <;> simp only [ho, chkX] at hc <;> first | (cases hc; done) | skip
    rename_i t x' i'
    simp only [Bool.and_eq_true] at hc
    obtain ⟨⟨hx, hi⟩, ht⟩ := hc
    have hd := chkA_den he hx
    have hdi := chkA_den he hi
    split at ht
    · rename_i el hu
      have fin : ∀ b off len cap kk n, a.eval x' = .slice (some ⟨b, off, none⟩) len cap → a.eval i' = .int kk n → 0 ≤ n → n < len →
          ∀ w', (execOp a.eval o).run P w' = .ok (.value (.pointer (some ⟨b, off + n.toNat * k, none⟩))) w' := by
        intro b off len cap kk n h1 h2 h3 h4 w'
        simp [execOp, ho, h1, h2, Instr.indexAt, asIntOf, run_underlying hu, h3, h4, run_sizeOf_is ht, addr_add]
      simp only [opX] at h
      split at h
      · rename_i E d k' enc xs kk n hx hi
        rw [hx] at hd; rw [hi] at hdi
        obtain ⟨⟨rfl, h0, h1⟩, hk⟩ := h
        generalize hvx : a.eval x' = vx at hd
        generalize hvi : a.eval i' = vi at hdi
        cases hdi
        cases hd with
        | ro vs g1 g2 g3 g4 g5 => exact ⟨_, _, fin _ _ _ _ _ _ hvx hvi h0 h1, by simpa using Den.roe (i := n.toNat) (off := 0) vs g1 g2 g3, hk⟩
        | roN => simp at h1; omega
        | roE ad cap => simp at h1; omega
      · rename_i m kk n hx hi
        rw [hx] at hd; rw [hi] at hdi
        split at h
        · rename_i c xs hn
          obtain ⟨⟨rfl, h0, h1⟩, hk⟩ := h
          obtain ⟨v, hv, hso⟩ := hst.get hn (by simp)
          rcases hso with ⟨_, rfl⟩ | ⟨b, cap, arr, rfl, hh, g1, g2, g3, g4⟩
          · simp at h1; omega
          · generalize hvx : a.eval x' = vx at hd
            generalize hvi : a.eval i' = vi at hdi
            cases hdi
            cases hd with
            | ref hn' _ =>
              rw [hv] at hn'; cases hn'
              exact ⟨_, _, fin _ _ _ _ _ _ hvx hvi h0 h1, by simpa using Den.elpS (i := n.toNat) (k := c.k) (off := 0) hv, hk⟩
        · cases h
      · cases h
    · cases ht
  | iaa x i k len =>
    cases ho : o.op <;> simp only [ho, chkX] at hc <;> first | (cases hc; done) | skip
    rename_i t x' i'
    simp only [Bool.and_eq_true] at hc
    obtain ⟨⟨hx, hi⟩, ht⟩ := hc
    have hd := chkA_den he hx
    have hdi := chkA_den he hi
    split at ht
    · rename_i nn el hu
      simp only [Bool.and_eq_true, beq_iff_eq] at ht
      obtain ⟨rfl, ht⟩ := ht
      simp only [opX] at h
      split at h
      · rename_i m kk n hx hi
        rw [hx] at hd; rw [hi] at hdi
        split at h
        · rename_i c xs hn
          obtain ⟨⟨rfl, hlen, h0, h1⟩, hk⟩ := h
          obtain ⟨v, hv, hso⟩ := hst.get hn (by simp)
          obtain ⟨b, ty, arr, rfl, hh, g1, g4⟩ := hso
          generalize hvx : a.eval x' = vx at hd
          generalize hvi : a.eval i' = vi at hdi
          cases hdi
          cases hd with
          | ptr hn' =>
            rw [hv] at hn'; cases hn'
            refine ⟨.pointer (some ⟨b, 0 + n.toNat * c.k, none⟩), _, fun w' => ?_, by simpa using Den.elpP (i := n.toNat) (k := c.k) (off := 0) hv, hk⟩
            simp [execOp, ho, hvx, hvi, Instr.indexAt, Instr.sureAddr, asIntOf, run_underlying hu, h0, h1, run_sizeOf_is ht, addr_add]
        · cases h
      · rename_i g kk n hx hi
        rw [hx] at hd; rw [hi] at hdi
        obtain ⟨c, xs, htab, ⟨rfl, hlen, h0, h1⟩, hk⟩ := h
        obtain ⟨t', f, arr, r1, r2⟩ := htab.h R hG
        generalize hvx : a.eval x' = vx at hd
        generalize hvi : a.eval i' = vi at hdi
        cases hdi
        cases hd
        refine ⟨.pointer (some ⟨g, 0 + n.toNat * c.k, none⟩), _, fun w' => ?_, ?_, hk⟩
        · simp [execOp, ho, hvx, hvi, Instr.indexAt, Instr.sureAddr, asIntOf, run_underlying hu, h0, h1, run_sizeOf_is ht, addr_add]
        · have e := Den.roe (ρ := ρ) (E := c.E) (d := c.dflt) (k := c.k) (enc := c.enc) (xs := xs) (b := g) (o := 0) (i := n.toNat) (off := 0) (R := R) (fun i j => arr.getD (i * c.k + j) undef)
            (fun i j e s a1 a2 => by
              obtain ⟨u, u1, u2⟩ := r2 i j e s a1 a2
              refine ⟨arr, t', f, r1, ?_⟩
              rw [Nat.zero_add, Array.getD_eq_getD_getElem?, u1]; rfl)
            (fun i j e s a1 a2 => by
              obtain ⟨u, u1, u2⟩ := r2 i j e s a1 a2
              rw [Array.getD_eq_getD_getElem?, u1]; exact u2) c.len
          simpa using e
      · cases h
    · cases ht
  | slc k x lo hi =>
    cases ho : o.op with
    | slice t x' lo' hi' mx =>
      cases mx with
      | some m => simp [ho, chkX] at hc
      | none =>
        simp only [ho, chkX, Bool.and_eq_true] at hc
        obtain ⟨⟨⟨hx, hlo⟩, hhi⟩, ht⟩ := hc
        have hd := chkA_den he hx
        split at ht
        · rename_i el hu
          simp only [opX] at h
          split at h
          · rename_i E d k' enc xs hxe; rw [hxe] at hd
            obtain ⟨rfl, h⟩ := h
            obtain ⟨v, sv, h1, h2, h3⟩ := slcS_ok (P := P) hu ht hd (chkOA_den he hlo) (chkOA_den he hhi) h
            exact ⟨v, sv, fun w => by simp [execOp, ho, h1], h2, h3⟩
          · cases h
        · cases ht
    | _ => simp [ho, chkX] at hc
  | _ => simp [chkX] at hc

theorem opWX_ok (hG : G.g R) (he : EnvOK N D R ρ e a) (hst : StW ρ R F H w hs) {o : Oper} {s : SOp} {K : SV → Prop} (hc : chkWX P s o.op = true) (h : opWX G s e H K) : WOk P R ρ o a K := by
  cases s with
  | len sl x => exact opX_ok (G := G) hG (s := .len sl x) he hst (by simpa [chkWX, chkW] using hc) h
  | ia x i k => exact opX_ok (G := G) hG (s := .ia x i k) he hst (by simpa [chkWX, chkW] using hc) h
  | iaa x i k len => exact opX_ok (G := G) hG (s := .iaa x i k len) he hst (by simpa [chkWX, chkW] using hc) h
  | slc k x lo hi => exact opX_ok (G := G) hG (s := .slc k x lo hi) he hst (by simpa [chkWX, chkW] using hc) h
  | _ => exact opW_ok (K := K) he (by simpa [chkWX, chkX] using hc) (by simpa only [opWX] using h)
end
end Go.V
