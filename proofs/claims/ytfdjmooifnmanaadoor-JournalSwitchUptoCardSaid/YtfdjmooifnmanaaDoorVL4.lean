/- Soundness of the operations that act: append, calls; and all of them. -/
import Derived.Test.YtfdjmooifnmanaaDoorVL3
namespace Go.V
section
variable {P : Program} {N : Nat} {D : List Deferred} {R : Hp} {F : Fr} {ρ : List Value} {e : Env} {a : Act} {H : List SO} {w : World} {hs : Nat → Hp} {G : Glob}

/-- the cells of what is appended -/
def LRow (R : Hp) (c : Codec) (news : List Value) (ys : List c.E) : Prop :=
  ∀ (i j : Nat) (e : c.E) (s : SV), ys[i]? = some e → (c.enc e)[j]? = some s → ∃ u, news[i * c.k + j]? = some u ∧ Den R [] s u

structure Src (R : Hp) (w : World) (c : Codec) (ys : List c.E) (ad : Addr) (news : List Value) : Prop where
  len : news.length = ys.length * c.k
  cell : ∀ (j : Nat) (u : Value), news[j]? = some u → w.cell? (ad.add j) = some u
  row : LRow R c news ys

theorem row_one {c : Codec} {news : List Value} {ys : List c.E} (hk : 0 < c.k) (hl : news.length = ys.length * c.k) (hr : LRow R c news ys) : ∀ u ∈ news, u.oneCell' = true := by
  intro u hu
  obtain ⟨p, hp⟩ := List.getElem?_of_mem hu
  have hlt := (List.getElem?_eq_some_iff.1 hp).1
  have hi : p / c.k < ys.length := Nat.div_lt_of_lt_mul (by rw [Nat.mul_comm, ← hl]; exact hlt)
  have hj : p % c.k < (c.enc (ys.getD (p / c.k) c.dflt)).length := by rw [c.len]; exact Nat.mod_lt _ hk
  obtain ⟨v, h1, h2⟩ := hr (p / c.k) (p % c.k) _ _ (getElem?_of_lt c.dflt hi) (List.getElem?_eq_getElem hj)
  have : p / c.k * c.k + p % c.k = p := by rw [Nat.mul_comm]; exact Nat.div_add_mod p c.k
  rw [this, hp] at h1
  cases h1
  exact one_oneCell (h2.one (c.plain _ _ (List.getElem_mem hj)))

/-- what is appended, found in the world -/
theorem src_of (hst : StW ρ R F H w hs) {c : Codec} {sv : SV} {v : Value} {K : List c.E → Prop} (hk : 0 < c.k) (hd : Den R ρ sv v) (h : VApp sv H c K) :
    ∃ ys, K ys ∧ ((v = .slice none 0 0 ∧ ys = []) ∨ ∃ ad cap news, v = .slice (some ad) ys.length cap ∧ Src R w c ys ad news) := by
  rcases h with ⟨m, ys, rfl, hn, hk'⟩ | ⟨ys, rfl, hk'⟩ | ⟨rfl, hk'⟩
  · refine ⟨ys, hk', ?_⟩
    obtain ⟨v', hv, hso⟩ := hst.get hn (by simp)
    cases hd with
    | ref hn' _ =>
      rw [hv] at hn'; cases hn'
      rcases hso with ⟨rfl, rfl⟩ | ⟨b, cap, arr, rfl, hh, g1, g2, g3, g4⟩
      · exact .inl ⟨rfl, rfl⟩
      · have hw := hst.own m b _ (by rw [hh]; exact ⟨rfl, rfl⟩)
        have hxk : ys.length * c.k ≤ arr.size := Nat.le_trans (Nat.mul_le_mul_right _ g1) g2
        refine .inr ⟨⟨b, 0, none⟩, cap, arr.toList.take (ys.length * c.k), rfl, ⟨by simp; omega, fun j u hj => ?_, fun i j e s a1 a2 => ?_⟩⟩
        · rw [addr_add, Nat.zero_add, cell_of_heap hw]
          rw [List.getElem?_take] at hj
          split at hj
          · simpa using hj
          · cases hj
        · obtain ⟨u, u1, u2⟩ := g4 i j e s a1 a2
          refine ⟨u, ?_, u2⟩
          have hjk : j < c.k := by rw [← c.len e]; exact (List.getElem?_eq_some_iff.1 a2).1
          have hil : i < ys.length := (List.getElem?_eq_some_iff.1 a1).1
          have : (i + 1) * c.k ≤ ys.length * c.k := Nat.mul_le_mul_right _ hil
          rw [Nat.succ_mul] at this
          rw [List.getElem?_take, if_pos (by omega)]
          simpa using u1
  · refine ⟨ys, hk', ?_⟩
    cases hd with
    | ro vs hc hd' hk2 hcap hb =>
      rename_i b o cap
      have idx : ∀ p, p < ys.length * c.k → ∃ e s, ys[p / c.k]? = some e ∧ (c.enc e)[p % c.k]? = some s := fun p hp => by
        have hi : p / c.k < ys.length := Nat.div_lt_of_lt_mul (by rw [Nat.mul_comm]; exact hp)
        have hj : p % c.k < (c.enc (ys.getD (p / c.k) c.dflt)).length := by rw [c.len]; exact Nat.mod_lt _ hk
        exact ⟨_, _, getElem?_of_lt c.dflt hi, List.getElem?_eq_getElem hj⟩
      refine .inr ⟨⟨b, o, none⟩, cap, (List.range (ys.length * c.k)).map (fun p => vs (p / c.k) (p % c.k)), rfl, ⟨by simp, fun j u hj => ?_, fun i j e s a1 a2 => ?_⟩⟩
      · have hlt : j < ys.length * c.k := by have := (List.getElem?_eq_some_iff.1 hj).1; simpa using this
        simp [hlt] at hj
        obtain ⟨e, s, e1, e2⟩ := idx j hlt
        obtain ⟨cs, t, f, r1, r2⟩ := hc _ _ e s e1 e2
        have : j / c.k * c.k + j % c.k = j := by rw [Nat.mul_comm]; exact Nat.div_add_mod j c.k
        rw [this] at r2
        rw [addr_add, cell_of_heap (hst.subR b _ r1), r2, hj]
      · have hjk : j < c.k := by rw [← c.len e]; exact (List.getElem?_eq_some_iff.1 a2).1
        have hil : i < ys.length := (List.getElem?_eq_some_iff.1 a1).1
        have h1 : (i + 1) * c.k ≤ ys.length * c.k := Nat.mul_le_mul_right _ hil
        rw [Nat.succ_mul] at h1
        have hlt : i * c.k + j < ys.length * c.k := by omega
        have hdv : (i * c.k + j) / c.k = i := by rw [Nat.mul_comm, Nat.mul_add_div hk, Nat.div_eq_of_lt hjk]; omega
        have hmd : (i * c.k + j) % c.k = j := by rw [Nat.add_comm, Nat.add_mul_mod_self_right]; exact Nat.mod_eq_of_lt hjk
        exact ⟨vs i j, by simp [hlt, hdv, hmd], hd' i j e s a1 a2⟩
    | roN => exact .inl ⟨rfl, rfl⟩
    | roE ad cap => exact .inr ⟨ad, cap, [], rfl, ⟨by simp, fun j u hj => by simp at hj, fun i j e s a1 a2 => by simp at a1⟩⟩
  · cases hd
    exact ⟨[], hk', .inl ⟨rfl, rfl⟩⟩

/-- the new row: what was there, what is appended, and spare cells -/
theorem row_app {c : Codec} {xs ys : List c.E} {olds news : List Value} {arr : Array Value} (hol : olds.length = xs.length * c.k) (ho : LRow R c olds xs) (hn : LRow R c news ys)
    (harr : ∀ p, p < (olds ++ news).length → arr[p]? = (olds ++ news)[p]?) : RowDen R c arr (xs ++ ys) := by
  intro i j e s a1 a2
  have hjk : j < c.k := by rw [← c.len e]; exact (List.getElem?_eq_some_iff.1 a2).1
  by_cases hi : i < xs.length
  · rw [List.getElem?_append_left hi] at a1
    obtain ⟨u, u1, u2⟩ := ho i j e s a1 a2
    have hlt := (List.getElem?_eq_some_iff.1 u1).1
    exact ⟨u, by rw [harr _ (by simp; omega), List.getElem?_append_left hlt]; exact u1, u2⟩
  · rw [List.getElem?_append_right (by omega)] at a1
    obtain ⟨u, u1, u2⟩ := hn (i - xs.length) j e s a1 a2
    have hlt := (List.getElem?_eq_some_iff.1 u1).1
    have hm : i * c.k + j = olds.length + ((i - xs.length) * c.k + j) := by
      rw [hol, ← Nat.add_assoc, ← Nat.add_mul]
      congr 2; omega
    refine ⟨u, ?_, u2⟩
    rw [hm, harr _ (by simp; omega), List.getElem?_append_right (by omega), Nat.add_sub_cancel_left]
    exact u1

theorem lrow_of {c : Codec} {arr : Array Value} {xs : List c.E} (h : RowDen R c arr xs) : LRow R c (arr.toList.take (xs.length * c.k)) xs := by
  intro i j e s a1 a2
  obtain ⟨u, u1, u2⟩ := h i j e s a1 a2
  refine ⟨u, ?_, u2⟩
  have hjk : j < c.k := by rw [← c.len e]; exact (List.getElem?_eq_some_iff.1 a2).1
  have hil : i < xs.length := (List.getElem?_eq_some_iff.1 a1).1
  have : (i + 1) * c.k ≤ xs.length * c.k := Nat.mul_le_mul_right _ hil
  rw [Nat.succ_mul] at this
  rw [List.getElem?_take, if_pos (by omega)]
  simpa using u1

theorem app_ok (he : EnvOK N D R ρ e a) (hst : StW ρ R F H w hs) {o : Oper} {ty : TypeId} {k bytes : Nat} {s x : SA} {K Kp : SV → List SO → Prop} {t : TypeId} {s' x' : Operand}
    (ho : o.op = .call { callee := .builtin .append, args := #[s', x'], argTypes := #[t, t] })
    (hs' : chkA s s' = true) (hx' : chkA x x' = true) (hk0 : 0 < k) {el : TypeId} (hu : P.underlying t = some (.slice el)) (hel : elemIs P el ty k bytes = true)
    (h : opL P G (.app ty k bytes s x) e H K Kp) : LOk P ρ R F o a w K Kp := by
  obtain ⟨rfl, i, zv, hi, hsz, hby, hzz, hzs⟩ := elemIs_info hel
  have hds := chkA_den he hs'
  have hdx := chkA_den he hx'
  have exec : ∀ v w', (Builtin.append_ #[t, t] o.type #[a.eval s', a.eval x']).run P w = .ok v w' → (execOp a.eval o).run P w = .ok (.value v) w' := by
    intro v w' hr
    simp [execOp, ho, resolve, invoke, builtin, hr]
  -- a new row
  have fresh : ∀ (c : Codec) (zs : List c.E) (cur : Array Value) (cap : Nat) (Hn : List SO) (ρn : List Value) (hsn : Nat → Hp) , c.ty = el → StW ρn R F Hn w hsn → zs.length ≤ cap → cap * c.k ≤ cur.size → zs.length ≤ 140737488355328 → RowDen R c cur zs →
      St (ρn ++ [.slice (some ⟨w.heap.size, 0, none⟩) zs.length cap]) R F (Hn ++ [.list c zs]) (w.drew.alloc (.cells cur el)) := by
    intro c zs cur cap Hn ρn hsn hty hstn h1 h2 h3 h4
    refine (st_newCells (w' := w.drew.alloc (.cells cur el)) (o := .list c zs) hstn rfl (.inr ⟨w.heap.size, cap, cur, rfl, by rw [hty], h1, h2, h3, h4⟩))
  have growc : ∀ need old, need ≤ grownCap w need old el := fun need old => grownCap_ge w need old el
  simp only [opL] at h
  split at h
  · -- onto a slice
    rename_i n hse; rw [hse] at hds
    split at h
    · rename_i c xs hn
      obtain ⟨⟨hcty, hck⟩, h⟩ := h
      subst hck
      obtain ⟨ys, ⟨⟨hb, hm⟩, h⟩, hsrc⟩ := src_of hst hk0 hdx h
      have h := newO_iff.1 (setK_iff.1 h)
      obtain ⟨v, hv, hso⟩ := hst.get hn (by simp)
      have hlenS : (setO H n .gone).length = H.length := by rw [setO_eq, List.length_set]
      have hdrop : ∃ hs2, StW ρ R F (setO H n .gone) w hs2 := St.drop ⟨hs, hst⟩ n
      obtain ⟨hs2, hst2⟩ := hdrop
      have nm : ∀ u, (ρ ++ [u])[(setO H n .gone).length]? = some u := fun u => last_name hst2 u
      cases hds with
      | ref hn' _ =>
        rw [hv] at hn'
        have hev : a.eval s' = v := (Option.some.inj hn').symm
        rcases hso with ⟨rfl, rfl⟩ | ⟨b, cap, arr, rfl, hh, g1, g2, g3, g4⟩
        · -- it was nil
          rcases hsrc with ⟨hxv, rfl⟩ | ⟨ad, cap', news, hxv, hS⟩
          · have hr : (Builtin.append_ #[t, t] o.type #[a.eval s', a.eval x']).run P w = .ok (.slice none 0 0) w := by
              rw [hev, hxv]
              simp [Builtin.append_, run_underlying hu, sizeOf, typeInfo, hi, Builtin.lenOf, Builtin.firstCells]
            refine lok_value (exec _ _ hr) (Ext.append _ _) (HLe.refl _) (hst2.alloc (h' := emp) (o' := .list c ([] ++ [])) (v := .slice none 0 0) (fun _ _ => rfl) (fun b o h => h.elim) (.inl ⟨rfl, rfl⟩)) (.ref (nm _) rfl) h
          · by_cases hy0 : ys.length = 0
            · have hys : ys = [] := List.length_eq_zero_iff.1 hy0
              subst hys
              have hnw : news = [] := List.length_eq_zero_iff.1 (by simpa using hS.len)
              subst hnw
              have hr : (Builtin.append_ #[t, t] o.type #[a.eval s', a.eval x']).run P w = .ok (.slice none 0 0) w := by
                rw [hev, hxv]
                simp [Builtin.append_, run_underlying hu, sizeOf, typeInfo, hi, Builtin.lenOf, Builtin.firstCells, loadCells, loadCellsFrom]
              refine lok_value (exec _ _ hr) (Ext.append _ _) (HLe.refl _) (hst2.alloc (h' := emp) (o' := .list c ([] ++ [])) (v := .slice none 0 0) (fun _ _ => rfl) (fun b o h => h.elim) (.inl ⟨rfl, rfl⟩)) (.ref (nm _) rfl) h
            · have hr := run_append_nil (P := P) w t o.type el i zv hu hi hzz ad ys.length cap' news (by rw [hsz]; exact hS.len) hS.cell (by omega) (by simp at hm; omega) (by rw [hby]; simp at hb; omega)
              rw [← hxv, ← hev] at hr
              have hge := growc ys.length 0
              refine lok_value (exec _ _ hr) (Ext.append _ _) (HLe.refl _) (fresh c ([] ++ ys) _ _ _ _ _ hcty hst2 (by simpa using hge) ?_ (by simpa using hm) ?_) ?_ h
              · simp only [Array.size_append, List.size_toArray, hS.len, size_zeroCells, hzs, ← Nat.add_mul]
                exact Nat.mul_le_mul_right _ (by omega)
              · exact row_app (olds := []) (xs := []) (by simp) (fun i j e s a1 => by simp at a1) hS.row fun p hp => by
                  simp at hp
                  rw [Array.getElem?_append]; simp [hp]
              · simpa using Den.ref (nm _) rfl
        · -- it has a row
          have hw := hst.own n b _ (by rw [hh]; exact ⟨rfl, rfl⟩)
          rw [hcty] at hw
          have hxk : xs.length * c.k ≤ arr.size := Nat.le_trans (Nat.mul_le_mul_right _ g1) g2
          have holds : (arr.toList.take (xs.length * c.k)).length = xs.length * c.k := by simp; omega
          have hnl : n < H.length := (List.getElem?_eq_some_iff.1 (nthO_some hn (by simp))).1
          have keep : St (ρ ++ [.slice (some ⟨b, 0, none⟩) xs.length cap]) R F (setO H n .gone ++ [.list c (xs ++ [])]) w :=
            hst.move hh hnl (hst.own n b _ (by rw [hh]; exact ⟨rfl, rfl⟩)) (fun _ _ => rfl) (.inr ⟨b, cap, arr, by simp, rfl, by simpa using g1, g2, by simpa using g3, by simpa using g4⟩)
          rcases hsrc with ⟨hxv, rfl⟩ | ⟨ad, cap', news, hxv, hS⟩
          · have hr : (Builtin.append_ #[t, t] o.type #[a.eval s', a.eval x']).run P w = .ok (.slice (some ⟨b, 0, none⟩) xs.length cap) w := by
              rw [hev, hxv]
              simp [Builtin.append_, run_underlying hu, sizeOf, typeInfo, hi, Builtin.lenOf, Builtin.firstCells, g1, storeCells]
            exact lok_value (exec _ _ hr) (Ext.append _ _) (HLe.refl _) keep (.ref (nm _) rfl) h
          · by_cases hroom : xs.length + ys.length ≤ cap
            · have hfit : xs.length * c.k + news.length ≤ arr.size := by
                rw [hS.len, ← Nat.add_mul]; exact Nat.le_trans (Nat.mul_le_mul_right _ hroom) g2
              have hr := run_append_room (P := P) w t o.type el i hu hi b xs.length cap arr hw ad ys.length cap' news (by rw [hsz]; exact hS.len) hS.cell (row_one hk0 hS.len hS.row) hroom (by rw [hsz]; exact hfit)
              rw [← hxv, ← hev, hsz] at hr
              refine lok_value (exec _ _ hr) (Ext.append _ _) (HLe.refl _) (H' := setO H n .gone ++ [.list c (xs ++ ys)]) ?_ (.ref (nm _) rfl) h
              refine hst.move hh hnl (setRow_heap w b _ _ el (0, 0) hw) (fun b' hb' => setRow_other w b b' _ hb') (.inr ⟨b, cap, _, by simp, by rw [hcty], by simpa using hroom, ?_, by simpa using hm, ?_⟩)
              · simp only [List.size_toArray, List.length_append, List.length_take, List.length_drop, Array.length_toList]
                omega
              · exact row_app holds (lrow_of g4) hS.row fun p hp => by
                  rw [List.getElem?_toArray, List.getElem?_append_left (by simpa using hp)]
            · have hr := run_append_grow (P := P) w t o.type el i zv hu hi hzz ⟨b, 0, none⟩ xs.length cap (arr.toList.take (xs.length * c.k)) (by rw [hsz]; exact holds)
                (fun j u hj => by
                  rw [addr_add, Nat.zero_add, cell_of_heap hw]
                  rw [List.getElem?_take] at hj
                  split at hj
                  · simpa using hj
                  · cases hj) ad ys.length cap' news (by rw [hsz]; exact hS.len) hS.cell (by omega) (by omega) (growslice_fits (by omega) (by rw [hby]; exact hb))
              rw [← hxv, ← hev] at hr
              have hge := growc (xs.length + ys.length) cap
              refine lok_value (exec _ _ hr) (Ext.append _ _) (HLe.refl _) (fresh c (xs ++ ys) _ _ _ _ _ hcty hst2 (by simpa using hge) ?_ (by simpa using hm) ?_) ?_ h
              · simp only [Array.size_append, List.size_toArray, hS.len, size_zeroCells, hzs, holds, ← Nat.add_mul]
                exact Nat.mul_le_mul_right _ (by omega)
              · exact row_app holds (lrow_of g4) hS.row fun p hp => by
                  rw [Array.getElem?_append_left (by simpa using hp)]
                  simp
              · simpa using Den.ref (nm _) rfl
    · cases h
  · -- onto nil
    rename_i hse; rw [hse] at hds
    obtain ⟨c, hcty, hck, hva⟩ := h
    subst hck
    obtain ⟨ys, ⟨⟨hb, hm⟩, h⟩, hsrc⟩ := src_of hst hk0 hdx hva
    have h := newO_iff.1 h
    have nm : ∀ u, (ρ ++ [u])[H.length]? = some u := fun u => last_name hst u
    have hev : a.eval s' = .slice none 0 0 := by generalize a.eval s' = v at hds; cases hds; rfl
    have none_ok : ys = [] → (Builtin.append_ #[t, t] o.type #[a.eval s', a.eval x']).run P w = .ok (.slice none 0 0) w → LOk P ρ R F o a w K Kp := by
      rintro rfl hr
      exact lok_value (exec _ _ hr) (Ext.append _ _) (HLe.refl _) (hst.alloc (h' := emp) (o' := .list c []) (v := .slice none 0 0) (fun _ _ => rfl) (fun b o h => h.elim) (.inl ⟨rfl, rfl⟩)) (.ref (nm _) rfl) h
    rcases hsrc with ⟨hxv, rfl⟩ | ⟨ad, cap', news, hxv, hS⟩
    · exact none_ok rfl (by rw [hev, hxv]; simp [Builtin.append_, run_underlying hu, sizeOf, typeInfo, hi, Builtin.lenOf, Builtin.firstCells])
    · by_cases hy0 : ys.length = 0
      · have hys : ys = [] := List.length_eq_zero_iff.1 hy0
        subst hys
        exact none_ok rfl (by rw [hev, hxv]; simp [Builtin.append_, run_underlying hu, sizeOf, typeInfo, hi, Builtin.lenOf, Builtin.firstCells, loadCells, loadCellsFrom])
      · have hr := run_append_nil (P := P) w t o.type el i zv hu hi hzz ad ys.length cap' news (by rw [hsz]; exact hS.len) hS.cell (by omega) (by omega) (by rw [hby]; omega)
        rw [← hxv, ← hev] at hr
        have hge := growc ys.length 0
        refine lok_value (exec _ _ hr) (Ext.append _ _) (HLe.refl _) (fresh c ys _ _ _ _ _ hcty hst hge ?_ hm ?_) (.ref (nm _) rfl) h
        · simp only [Array.size_append, List.size_toArray, hS.len, size_zeroCells, hzs, ← Nat.add_mul]
          exact Nat.mul_le_mul_right _ (by omega)
        · have := row_app (olds := []) (xs := []) (arr := news.toArray ++ Builtin.zeroCells zv.cells (grownCap w ys.length 0 el - ys.length)) (by simp) (fun i j e s a1 => by simp at a1) hS.row fun p hp => by
            simp at hp
            rw [Array.getElem?_append]; simp [hp]
          simpa using this
  · cases h

theorem str_cells (t : Bytes) : ((⟨t.toArray⟩ : ByteArray).data.map (fun b => Value.int .u8 (b.toNat : Int))).toList = (ofB t).map (Value.int .u8) := by simp [ofB]

theorem str_first (size : Nat) (t : Bytes) (w : World) : (Builtin.firstCells size t.length (.string ⟨t.toArray⟩)).run P w = .ok ((ofB t).map (Value.int .u8)).toArray w := by
  have h : (⟨t.toArray⟩ : ByteArray).extract 0 t.length = ⟨t.toArray⟩ := by
    apply ByteArray.ext; simp
  simp only [Builtin.firstCells, h, Sem.run_pure]
  congr 1
  apply Array.ext'
  rw [str_cells]

theorem byteList_out {v : Value} {ty : TypeId} {xs : List Int} {h : Hp} (hd : SODen R ρ v (.list (byteC ty) xs) h) : (v = .slice none 0 0 ∧ xs = []) ∨
    ∃ b cap arr, v = .slice (some ⟨b, 0, none⟩) xs.length cap ∧ h = single b (.cells arr ty (0, 0)) ∧ xs.length ≤ cap ∧ cap ≤ arr.size ∧ xs.length ≤ 140737488355328 ∧ arr.toList.take xs.length = xs.map (Value.int .u8) := by
  rcases hd with hd | ⟨b, cap, arr, g1, g2, g3, g4, g5, g6⟩
  · exact .inl hd
  · have hc1 : cap ≤ arr.size := by have e1 : cap * (byteC ty).k = cap := Nat.mul_one _; rw [e1] at g4; exact g4
    refine .inr ⟨b, cap, arr, g1, g2, g3, hc1, g5, ?_⟩
    have hle : xs.length ≤ arr.size := Nat.le_trans g3 hc1
    apply List.ext_getElem?
    intro i
    rw [List.getElem?_take, List.getElem?_map]
    cases hx : xs[i]? with
    | none =>
      have : xs.length ≤ i := by simpa using hx
      rw [if_neg (by omega)]; rfl
    | some n =>
      have hil : i < xs.length := (List.getElem?_eq_some_iff.1 hx).1
      obtain ⟨u, u1, u2⟩ := g6 i 0 n (.int .u8 n) hx rfl
      have e1 : i * (byteC ty).k + 0 = i := by show i * 1 + 0 = i; omega
      rw [e1] at u1
      cases u2
      rw [if_pos hil]; simpa using u1

theorem byteList_in {ty : TypeId} {xs : List Int} {b cap : Nat} {arr : Array Value} (g3 : xs.length ≤ cap) (g4 : cap ≤ arr.size) (g5 : xs.length ≤ 140737488355328) (g6 : arr.toList.take xs.length = xs.map (Value.int .u8)) :
    SODen R ρ (.slice (some ⟨b, 0, none⟩) xs.length cap) (.list (byteC ty) xs) (single b (.cells arr ty (0, 0))) := by
  refine .inr ⟨b, cap, arr, rfl, rfl, g3, by have e1 : cap * (byteC ty).k = cap := Nat.mul_one _; rw [e1]; exact g4, g5, fun i j e s a1 a2 => ?_⟩
  have hj : j = 0 := by
    have := (List.getElem?_eq_some_iff.1 a2).1
    have e1 : ((byteC ty).enc e).length = 1 := rfl
    omega
  subst hj
  have e2 : s = .int .u8 e := by
    have : ((byteC ty).enc e)[0]? = some (.int .u8 e) := rfl
    rw [this] at a2; exact (Option.some.inj a2).symm
  subst e2
  refine ⟨.int .u8 e, ?_, .int _ _⟩
  have e1 : i * (byteC ty).k + 0 = i := by show i * 1 + 0 = i; omega
  have e3 : (arr.toList.take xs.length)[i]? = (xs.map (Value.int .u8))[i]? := by rw [g6]
  have hil : i < xs.length := (List.getElem?_eq_some_iff.1 a1).1
  rw [List.getElem?_take, if_pos hil, List.getElem?_map, show xs[i]? = some e from a1, Array.getElem?_toList] at e3
  rw [e1]; exact e3

theorem lenOf_str (t : Bytes) (w : World) : (Builtin.lenOf (.string ⟨t.toArray⟩)).run P w = .ok t.length w := by
  simp [Builtin.lenOf, ByteArray.size]

theorem apps_ok (he : EnvOK N D R ρ e a) (hst : StW ρ R F H w hs) {o : Oper} {ty : TypeId} {s x : SA} {K Kp : SV → List SO → Prop} {t t' : TypeId} {s' x' : Operand}
    (ho : o.op = .call { callee := .builtin .append, args := #[s', x'], argTypes := #[t, t'] })
    (hs' : chkA s s' = true) (hx' : chkA x x' = true) {el : TypeId} (hu : P.underlying t = some (.slice el)) (hu' : P.underlying t' = some .string) (hel : elemIs P el ty 1 1 = true) (_hz : zeroIs P el [.int .u8 0] = true)
    (h : opL P G (.apps ty s x) e H K Kp) : LOk P ρ R F o a w K Kp := by
  obtain ⟨rfl, i, zv, hi, hsz, hby, hzz, hzs⟩ := elemIs_info hel
  have hds := chkA_den he hs'
  have hdx := chkA_den he hx'
  have exec : ∀ v w', (Builtin.append_ #[t, t'] o.type #[a.eval s', a.eval x']).run P w = .ok v w' → (execOp a.eval o).run P w = .ok (.value v) w' := by
    intro v w' hr
    simp [execOp, ho, resolve, invoke, builtin, hr]
  have fresh : ∀ (zs : List Int) (cur : Array Value) (cap : Nat) (Hn : List SO) (hsn : Nat → Hp), StW ρ R F Hn w hsn → zs.length ≤ cap → cap ≤ cur.size → zs.length ≤ 140737488355328 → cur.toList.take zs.length = zs.map (Value.int .u8) →
      St (ρ ++ [.slice (some ⟨w.heap.size, 0, none⟩) zs.length cap]) R F (Hn ++ [.list (byteC el) zs]) (w.drew.alloc (.cells cur el)) := by
    intro zs cur cap Hn hsn hstn h1 h2 h3 h4
    exact (st_newCells (w' := w.drew.alloc (.cells cur el)) (o := .list (byteC el) zs) hstn rfl (byteList_in h1 h2 h3 h4))
  have growc : ∀ need old, need ≤ grownCap w need old el := fun need old => grownCap_ge w need old el
  have ofl : ∀ u : Bytes, (ofB u).length = u.length := fun u => by simp [ofB]
  -- a row that is too small, or none
  have grow : ∀ (b : Option Addr) (sLen sCap : Nat) (olds : List Value) (u : Bytes), (Builtin.firstCells 1 sLen (.slice b sLen sCap)).run P w.drew = .ok olds.toArray w.drew → sCap < sLen + u.length → (sLen + u.length) ≤ 140737488355328 →
      (Builtin.append_ #[t, t'] o.type #[.slice b sLen sCap, .string ⟨u.toArray⟩]).run P w =
        .ok (.slice (some ⟨w.heap.size, 0, none⟩) (sLen + u.length) (grownCap w (sLen + u.length) sCap el))
          (w.drew.alloc (.cells (olds.toArray ++ ((ofB u).map (Value.int .u8)).toArray ++ Builtin.zeroCells zv.cells (grownCap w (sLen + u.length) sCap el - (sLen + u.length))) el)) := by
    intro b sLen sCap olds u hf hg hm
    have hn : ¬ (sLen + u.length ≤ sCap) := by omega
    have h63' : ¬ (9223372036854775807 < ((sLen : Int) + (u.length : Int))) := by omega
    have h48' : ¬ (281474976710656 < Builtin.nextslicecap (sLen + u.length) sCap) := by
      have := growslice_fits (bytes := 1) hg (by omega)
      omega
    simp [Builtin.append_, run_underlying hu, run_underlying hu', sizeOf, typeInfo, zeroValue, hi, hsz, hby, hzz, lenOf_str, hn, h63', h48', Question.forced, hf, str_first, newRow, grownCap]
    congr 2
    apply Array.ext'
    simp [List.append_assoc]
  simp only [opL] at h
  have nil : ∀ (Hn : List SO) (hsn : Nat → Hp) (u : Bytes), StW ρ R F Hn w hsn → a.eval s' = .slice none 0 0 → a.eval x' = .string ⟨u.toArray⟩ → u.length ≤ 140737488355328 → K (.ref Hn.length) (Hn ++ [.list (byteC el) (ofB u)]) → LOk P ρ R F o a w K Kp := by
    intro Hn hsn u hstn hev hxv hm h
    have nm : ∀ u, (ρ ++ [u])[Hn.length]? = some u := fun u => last_name hstn u
    by_cases hu0 : u = []
    · subst hu0
      have hr : (Builtin.append_ #[t, t'] o.type #[a.eval s', a.eval x']).run P w = .ok (.slice none 0 0) w := by
        rw [hev, hxv]
        simp [Builtin.append_, run_underlying hu, run_underlying hu', sizeOf, typeInfo, hi, Builtin.lenOf, Builtin.firstCells, ByteArray.size]
      exact lok_value (exec _ _ hr) (Ext.append _ _) (HLe.refl _) (hstn.alloc (h' := emp) (o' := .list (byteC el) (ofB [])) (v := .slice none 0 0) (fun _ _ => rfl) (fun b o h => h.elim) (.inl ⟨rfl, rfl⟩)) (.ref (nm _) rfl) h
    · have hpos : 0 < u.length := List.length_pos_iff.2 hu0
      have hr := grow none 0 0 [] u (by simp [Builtin.firstCells]) (by omega) (by omega)
      rw [← hxv, ← hev] at hr
      have hge := growc (0 + u.length) 0
      have hl : (ofB u).length = 0 + u.length := by rw [ofl]; omega
      rw [← hl] at hr hge
      refine lok_value (exec _ _ hr) (Ext.append _ _) (HLe.refl _) (fresh (ofB u) _ _ _ _ hstn hge ?_ (by rw [ofl]; exact hm) ?_) (.ref (nm _) rfl) h
      · simp only [Array.size_append, List.size_toArray, size_zeroCells, hzs, List.length_map, List.length_nil]
        omega
      · simp
  split at h
  · rename_i n u hse hxe; rw [hse] at hds; rw [hxe] at hdx
    obtain ⟨xs, hn, hm, h⟩ := h
    have h := newO_iff.1 (setK_iff.1 h)
    have hxv : a.eval x' = .string ⟨u.toArray⟩ := by generalize a.eval x' = v at hdx; cases hdx; rfl
    obtain ⟨v, hv, hso⟩ := hst.get hn (by simp)
    obtain ⟨hs2, hst2⟩ := St.drop ⟨hs, hst⟩ n
    have nm : ∀ u, (ρ ++ [u])[(setO H n .gone).length]? = some u := fun u => last_name hst2 u
    have hnl : n < H.length := (List.getElem?_eq_some_iff.1 (nthO_some hn (by simp))).1
    have hm : xs.length + u.length ≤ 140737488355328 := hm
    cases hds with
    | ref hn' _ =>
      rw [hv] at hn'
      have hev : a.eval s' = v := (Option.some.inj hn').symm
      rcases byteList_out hso with ⟨rfl, rfl⟩ | ⟨b, cap, arr, rfl, hh, g1, hc1, g3, g4⟩
      · exact nil _ _ u hst2 hev hxv (by simpa using hm) h
      · have hw := hst.own n b _ (by rw [hh]; exact ⟨rfl, rfl⟩)
        have holds : (arr.toList.take xs.length).length = xs.length := List.length_take_of_le (show xs.length ≤ arr.toList.length from Nat.le_trans (Nat.le_trans g1 hc1) (Nat.le_of_eq Array.length_toList.symm))
        by_cases hroom : xs.length + u.length ≤ cap
        · have hone : ∀ q ∈ (ofB u).map (Value.int .u8), q.oneCell' = true := by
            intro q hq; obtain ⟨y, _, rfl⟩ := List.mem_map.1 hq; rfl
          have hsr := put_cells (P := P) hw (p := xs.length) (vs := (ofB u).map (Value.int .u8)) (by rw [List.length_map, ofl]; omega) hone
          have hr : (Builtin.append_ #[t, t'] o.type #[a.eval s', a.eval x']).run P w = .ok (.slice (some ⟨b, 0, none⟩) (xs ++ ofB u).length cap)
              (w.setRow b (arr.toList.take xs.length ++ (ofB u).map (Value.int .u8) ++ arr.toList.drop (xs.length + ((ofB u).map (Value.int .u8)).length)).toArray) := by
            rw [hev, hxv, List.length_append, ofl]
            simp only [Builtin.append_, Sem.run_bind, run_underlying hu, run_underlying hu', Result.andThen_ok, sizeOf, typeInfo, run_program, hi, Sem.run_pure, hsz, List.getElem?_toArray, List.getElem?_cons_zero, List.getElem?_cons_succ,
              lenOf_str, hroom, if_true, Bool.not_false, str_first, addr_add, Nat.mul_one, Nat.zero_add, hsr, Bool.false_eq_true, if_false]
          refine lok_value (exec _ _ hr) (Ext.append _ _) (HLe.refl _) (H' := setO H n .gone ++ [.list (byteC el) (xs ++ ofB u)]) ?_ (.ref (nm _) rfl) h
          refine hst.move hh hnl (setRow_heap w b _ _ el (0, 0) hw) (fun b' hb' => setRow_other w b b' _ hb') (byteList_in ?_ ?_ ?_ ?_)
          · rw [List.length_append, ofl]; exact hroom
          · simp only [List.size_toArray, List.length_append, List.length_take, List.length_drop, Array.length_toList, List.length_map, ofl]
            omega
          · rw [List.length_append, ofl]; exact hm
          · rw [List.map_append, ← g4]
            rw [List.take_append_of_le_length (by simp only [List.length_append, holds, List.length_map]; omega), List.take_of_length_le (by simp only [List.length_append, holds, List.length_map]; omega)]
        · have hf : (Builtin.firstCells 1 xs.length (.slice (some ⟨b, 0, none⟩) xs.length cap)).run P w.drew = .ok (arr.toList.take xs.length).toArray w.drew := by
            refine run_firstCells_some (P := P) w.drew 1 xs.length ⟨b, 0, none⟩ xs.length cap (arr.toList.take xs.length) (by rw [holds, Nat.mul_one]) fun j q hj => ?_
            have hw' : w.drew.heap[b]? = some (.cells arr el (0, 0)) := hw
            rw [addr_add, Nat.zero_add, cell_of_heap hw']
            rw [List.getElem?_take] at hj
            split at hj
            · simpa using hj
            · cases hj
          have hr := grow (some ⟨b, 0, none⟩) xs.length cap (arr.toList.take xs.length) u hf (by omega) hm
          rw [← hxv, ← hev] at hr
          have hge := growc (xs.length + u.length) cap
          have hl : (xs ++ ofB u).length = xs.length + u.length := by rw [List.length_append, ofl]
          rw [← hl] at hr hge
          refine lok_value (exec _ _ hr) (Ext.append _ _) (HLe.refl _) (fresh (xs ++ ofB u) _ _ _ _ hst2 hge ?_ (by rw [hl]; exact hm) ?_) (.ref (nm _) rfl) h
          · simp only [Array.size_append, List.size_toArray, size_zeroCells, hzs, List.length_map, holds, hl, ofl]
            omega
          · rw [List.map_append, ← g4]
            simp only [Array.toList_append]
            rw [List.take_append_of_le_length (by simp only [List.length_append, holds, List.length_map]; omega), List.take_of_length_le (by simp only [List.length_append, holds, List.length_map]; omega)]
  · rename_i u hse hxe; rw [hse] at hds; rw [hxe] at hdx
    obtain ⟨hm, h⟩ := h
    have h := newO_iff.1 h
    have hxv : a.eval x' = .string ⟨u.toArray⟩ := by generalize a.eval x' = v at hdx; cases hdx; rfl
    have hev : a.eval s' = .slice none 0 0 := by generalize a.eval s' = v at hds; cases hds; rfl
    exact nil _ _ u hst hev hxv hm h
  · cases h

theorem call_ok (hG : G.g R) {o : Oper} {f : FuncId} {svs : List SV} {vals : List Value} {K Kp : SV → List SO → Prop} (hst : St ρ R F H w) (hcl : calleeOK P f = true) (hd : DenL R ρ svs vals)
    (hex : (execOp a.eval o).run P w = (callFunc f vals.toArray).run P w) (h : Con P G f svs H K Kp) : LOk P ρ R F o a w K Kp := by
  intro next Q hn hp
  unfold calleeOK at hcl
  split at hcl
  · rename_i fn hfn
    simp only [Bool.and_eq_true, Bool.not_eq_true', beq_eq_false_iff_ne, ne_eq] at hcl
    have hb : fn.body.isNone = false := by cases hb : fn.body <;> simp_all
    have hrun : (callFunc f vals.toArray).run P w = .ok (.enter f vals.toArray) w := by
      simp only [callFunc, Sem.run_bind, run_program, Result.andThen_ok, hfn]
      simp [hcl.2]
      intro h0; simp [h0] at hb
    unfold Oper.wp
    rw [hex, hrun]
    refine (h.run ρ R F w vals hG hd hst).mono fun en w' hc => ?_
    obtain ⟨ρ', R', H', h1, h2, h3, h4⟩ := hc
    rcases h4 with ⟨v, sv, rfl, h5, h6⟩ | ⟨v, sv, rfl, h5, h6⟩
    · exact hn _ _ _ _ _ _ h1 h2 h3 h5 h6
    · exact hp _ _ _ _ _ _ h1 h2 h3 h5 h6
  · cases hcl

/-- EVERY OPERATION THAT ACTS. -/
theorem opL_ok (hG : G.g R) (he : EnvOK N D R ρ e a) (hst : St ρ R F H w) {o : Oper} {s : SOp} {K Kp : SV → List SO → Prop} (hc : chkL P s o.op = true) (h : opL P G s e H K Kp) : LOk P ρ R F o a w K Kp := by
  obtain ⟨hs, hst⟩ := hst
  cases s with
  | alloc zero =>
    cases ho : o.op <;> simp only [ho, chkL] at hc <;> first | (cases hc; done) | skip
    rename_i t
    exact alloc_ok (so := .cells zero) hst ho hc (fun z hz => ⟨w.heap.size, t, z.cells.toList, rfl, by simp, cstL_den hz, fun x hx => by cases hx⟩) h
  | alloct ty zero =>
    cases ho : o.op <;> simp only [ho, chkL] at hc <;> first | (cases hc; done) | skip
    rename_i t
    simp only [Bool.and_eq_true, beq_iff_eq] at hc
    obtain ⟨rfl, hc⟩ := hc
    exact alloc_ok (so := .cells zero (some ty)) hst ho hc (fun z hz => ⟨w.heap.size, ty, z.cells.toList, rfl, by simp, cstL_den hz, fun x hx => by cases hx; rfl⟩) h
  | alloca c xs =>
    cases ho : o.op <;> simp only [ho, chkL] at hc <;> first | (cases hc; done) | skip
    refine alloc_ok (so := .arr c xs) hst ho hc (fun z hz => ?_) h
    have hd := cstL_den (R := R) (ρ := []) hz
    have hfl : ∀ (xs : List c.E) (l : List Value), DenL R [] (xs.flatMap c.enc) l → xs.length * c.k ≤ l.length ∧ LRow R c l xs := by
      intro xs
      induction xs with
      | nil => intro l _; exact ⟨by simp, fun i j e s a1 => by simp at a1⟩
      | cons x xs ih =>
        intro l hl
        simp only [List.flatMap_cons] at hl
        have hl1 : c.k + (xs.flatMap c.enc).length = l.length := by rw [← hl.1, List.length_append, c.len]
        have hlk : c.k ≤ l.length := by omega
        have hd2 : DenL R [] (xs.flatMap c.enc) (l.drop c.k) := by
          refine ⟨by rw [List.length_drop]; omega, fun i s v h1 h2 => hl.2 (c.k + i) s v ?_ ?_⟩
          · rw [List.getElem?_append_right (by rw [c.len]; omega), c.len, Nat.add_sub_cancel_left]; exact h1
          · rw [List.getElem?_drop] at h2; exact h2
        obtain ⟨g1, g2⟩ := ih _ hd2
        refine ⟨by rw [List.length_cons, Nat.succ_mul]; simp at g1; omega, fun i j e s a1 a2 => ?_⟩
        have hjk : j < c.k := by rw [← c.len e]; exact (List.getElem?_eq_some_iff.1 a2).1
        cases i with
        | zero =>
          simp at a1; subst a1
          have hlt : j < l.length := by omega
          exact ⟨l[j], by simp [hlt], hl.2 j s _ (by rw [List.getElem?_append_left (by rw [c.len]; exact hjk)]; exact a2) (List.getElem?_eq_getElem hlt)⟩
        | succ i =>
          obtain ⟨u, u1, u2⟩ := g2 i j e s (by simpa using a1) a2
          refine ⟨u, ?_, u2⟩
          rw [List.getElem?_drop] at u1
          rw [← u1, Nat.succ_mul]
          congr 1; omega
    obtain ⟨g1, g2⟩ := hfl xs _ hd
    exact ⟨w.heap.size, _, z.cells, rfl, rfl, by simpa using g1, fun i j e s a1 a2 => by obtain ⟨u, u1, u2⟩ := g2 i j e s a1 a2; exact ⟨u, by simpa using u1, u2⟩⟩
  | box x =>
    cases ho : o.op <;> simp only [ho, chkL] at hc <;> first | (cases hc; done) | skip
    exact box_ok he hst ho hc h
  | st size x y =>
    cases ho : o.op <;> simp only [ho, chkL] at hc <;> first | (cases hc; done) | skip
    simp only [Bool.and_eq_true] at hc
    exact st_ok he hst ho hc.1.1 hc.1.2 hc.2 h
  | bsl c n parts =>
    cases ho : o.op <;> simp only [ho, chkL] at hc <;> first | (cases hc; done) | skip
    simp only [Bool.and_eq_true, beq_iff_eq, decide_eq_true_eq] at hc
    obtain ⟨⟨⟨⟨rfl, hp⟩, hle⟩, hk0⟩, ht⟩ := hc
    split at ht
    · rename_i el hu; exact bsl_ok he hst ho hp hle hk0 hu ht h
    · cases ht
  | mks c z bytes x =>
    cases ho : o.op <;> simp only [ho, chkL] at hc <;> first | (cases hc; done) | skip
    simp only [Bool.and_eq_true] at hc
    obtain ⟨⟨hl, hcp⟩, ht⟩ := hc
    split at ht
    · rename_i el hu
      simp only [Bool.and_eq_true, decide_eq_true_eq] at ht
      exact mks_ok he hst ho hl hcp hu ht.1.1.1 ht.1.1.2 ht.1.2 ht.2 h
    · cases ht
  | app ty k bytes s x =>
    cases ho : o.op with
    | call c =>
      obtain ⟨callee, args, argTypes⟩ := c
      cases callee with
      | builtin bi =>
        cases bi <;> simp only [ho, chkL] at hc <;> first | (cases hc; done) | skip
        split at hc
        · rename_i s' x' hargs
          have hargs' : args = #[s', x'] := by apply Array.ext'; simpa using hargs
          subst hargs'
          simp only [Bool.and_eq_true] at hc
          obtain ⟨⟨h1, h2⟩, ht⟩ := hc
          split at ht
          · rename_i t t' htt
            have htt' : argTypes = #[t, t'] := by apply Array.ext'; simpa using htt
            subst htt'
            simp only [Bool.and_eq_true, beq_iff_eq, decide_eq_true_eq] at ht
            obtain ⟨⟨rfl, hk0⟩, ht⟩ := ht
            split at ht
            · rename_i el hu; exact app_ok he hst ho h1 h2 hk0 hu ht h
            · cases ht
          · cases ht
        · cases hc
      | _ => simp [ho, chkL] at hc
    | _ => simp [ho, chkL] at hc
  | apps ty s x =>
    cases ho : o.op with
    | call c =>
      obtain ⟨callee, args, argTypes⟩ := c
      cases callee with
      | builtin bi =>
        cases bi <;> simp only [ho, chkL] at hc <;> first | (cases hc; done) | skip
        split at hc
        · rename_i s' x' hargs
          have hargs' : args = #[s', x'] := by apply Array.ext'; simpa using hargs
          subst hargs'
          simp only [Bool.and_eq_true] at hc
          obtain ⟨⟨h1, h2⟩, ht⟩ := hc
          split at ht
          · rename_i t t' htt
            have htt' : argTypes = #[t, t'] := by apply Array.ext'; simpa using htt
            subst htt'
            split at ht
            · rename_i el hu hu'
              simp only [Bool.and_eq_true] at ht
              exact apps_ok he hst ho h1 h2 hu hu' ht.1 ht.2 h
            · cases ht
          · cases ht
        · cases hc
      | _ => simp [ho, chkL] at hc
    | _ => simp [ho, chkL] at hc
  | call f args =>
    cases ho : o.op with
    | call c =>
      obtain ⟨callee, args', argTypes⟩ := c
      cases callee with
      | value fo =>
        cases fo with
        | func f' =>
          simp only [ho, chkL, Bool.and_eq_true, beq_iff_eq] at hc
          obtain ⟨⟨rfl, hal⟩, hcl⟩ := hc
          refine call_ok hG ⟨hs, hst⟩ hcl (chkAL_den he hal) ?_ h
          simp [execOp, ho, resolve, Act.eval, Deferred.ofValue, invoke]
          congr 2
          apply Array.ext'; simp
        | _ => simp [ho, chkL] at hc
      | _ => simp [ho, chkL] at hc
    | _ => simp [ho, chkL] at hc
  | calld x args =>
    cases ho : o.op with
    | call c =>
      obtain ⟨callee, args', argTypes⟩ := c
      cases callee with
      | value fo =>
        simp only [ho, chkL, Bool.and_eq_true] at hc
        obtain ⟨hx, hal⟩ := hc
        have hd := chkA_den he hx
        simp only [opL] at h
        split at h
        · rename_i f caps hxe
          rw [hxe] at hd
          obtain ⟨hcl, h⟩ := h
          generalize hv : a.eval fo = v at hd
          cases hd with
          | fn g1 g2 =>
            rename_i cvs
            have hal := chkAL_den he hal
            have hall : DenL R ρ (args.map (evA e) ++ caps) (args'.toList.map a.eval ++ cvs) := by
              refine ⟨by have := hal.1; simp at this ⊢; omega, fun i s v h1 h2 => ?_⟩
              by_cases hi : i < (args.map (evA e)).length
              · rw [List.getElem?_append_left hi] at h1
                rw [List.getElem?_append_left (by rw [← hal.1]; exact hi)] at h2
                exact hal.2 i s v h1 h2
              · rw [List.getElem?_append_right (by omega)] at h1
                rw [List.getElem?_append_right (by rw [← hal.1]; omega), ← hal.1] at h2
                exact g2 _ s v h1 h2
            refine call_ok hG ⟨hs, hst⟩ hcl hall ?_ h
            simp [execOp, ho, resolve, hv, Deferred.ofValue, invoke]
            congr 2
            apply Array.ext'; simp
        · cases h
      | _ => simp [ho, chkL] at hc
    | _ => simp [ho, chkL] at hc
  | pan x =>
    cases ho : o.op <;> simp only [ho, chkL] at hc <;> first | (cases hc; done) | skip
    rename_i x'
    have hd := chkA_den he hc
    simp only [opL] at h
    split at h
    · rename_i t s hx
      rw [hx] at hd
      generalize hv : a.eval x' = v at hd
      cases hd with
      | ifc hd =>
        rename_i u
        intro next Q hn hp
        unfold Oper.wp
        have hr : (execOp a.eval o).run P w = .halt (.panic (.iface t u)) w := by
          simp [execOp, ho, hv, Instr.panic]
        rw [hr]
        exact hp _ _ _ _ _ _ (Ext.refl _) (HLe.refl _) ⟨hs, hst⟩ (.ifc hd) h
    · cases h
  | _ => simp only [chkL] at hc; cases hc
end
end Go.V
