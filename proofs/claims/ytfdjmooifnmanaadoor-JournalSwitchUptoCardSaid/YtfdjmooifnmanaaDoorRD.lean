/- What the arguments read as: plain data, and what they denote. -/
import Derived.Test.YtfdjmooifnmanaaDoorVE
import Derived.Test.YtfdjmooifnmanaaDoorRows
import Derived.ProofKit
namespace Go.V
open Go.Proofs

/-- all that lies in memory -/
def heapOf (W : World) : Hp := fun b o => W.heap[b]? = some o

/-- a type whose values read as E -/
structure Rd (P : Program) (t : TypeId) (E : Type) (enc : E → List SV) (bulk : E → Nat) (ok : E → Prop) : Prop where
  len : ∀ e, (enc e).length = P.cellsOf t
  read : ∀ {H : Type} {eH : TypeId × Value → H} {W : World} {fuel : Nat} {cs : List Value} {d : DataW H} {ps : List MemPlace}, DataW.trod eH P W 0 (fun _ => true) true fuel t cs = some (d, ps) → YtfdjmooifnmanaaDoor.Rows.uptoBulk d ≤ 1048576 →
    ∃ e, DenL (heapOf W) [] (enc e) cs ∧ bulk e ≤ YtfdjmooifnmanaaDoor.Rows.uptoBulk d ∧ ok e
  carry : ∀ {H : Type} {eH : TypeId × Value → H} {W W' : World} {fuel : Nat} {cs : List Value} {d : DataW H} {ps : List MemPlace} {sp : Nat → Bool}, (∀ b, b < W.heap.size → W'.heap[b]? = W.heap[b]?) → (∀ p ∈ ps, sp p.block = true) →
    DataW.trod eH P W 0 (fun _ => true) true fuel t cs = some (d, ps) → DataW.trod eH P W' 0 sp true fuel t cs = some (d, ps)

section
variable {P : Program}
theorem kind_wf {k : IntKind} {n : Int} (h : (Lit.int k n).wf = true) : k.min ≤ n ∧ n ≤ k.max := by
  simpa [Lit.wf] using h

theorem Rd.int {t : TypeId} {k : IntKind} (ht : P.underlying t = some (.int k)) (hc : P.cellsOf t = 1) : Rd P t Int (fun n => [.int k n]) (fun _ => 1) (fun n => k.min ≤ n ∧ n ≤ k.max) where
  len _ := hc.symm
  read h _ := by
    obtain ⟨n, rfl, hx, hw⟩ := DataW.trod_int ht h
    cases hx
    exact ⟨n, .cons (.int _ _) .nil, by simp [YtfdjmooifnmanaaDoor.Rows.uptoBulk], kind_wf hw⟩
  carry := by
    intro H eH W W' fuel cs d ps sp _ _ h
    obtain ⟨n, rfl, hx, hw⟩ := DataW.trod_int ht h
    cases hx
    cases fuel with
    | zero => simp [DataW.trod] at h
    | succ m => simp [DataW.trod, ht, hw]
theorem Rd.bool {t : TypeId} (ht : P.underlying t = some .bool) (hc : P.cellsOf t = 1) : Rd P t Bool (fun n => [.bool n]) (fun _ => 1) (fun _ => True) where
  len _ := hc.symm
  read h _ := by
    obtain ⟨n, rfl, hx⟩ := DataW.trod_bool ht h
    cases hx
    exact ⟨n, .cons (.bool _) .nil, by simp [YtfdjmooifnmanaaDoor.Rows.uptoBulk], trivial⟩
  carry := by
    intro H eH W W' fuel cs d ps sp _ _ h
    obtain ⟨n, rfl, hx⟩ := DataW.trod_bool ht h
    cases hx
    cases fuel with
    | zero => simp [DataW.trod] at h
    | succ m => simp [DataW.trod, ht]
theorem Rd.str {t : TypeId} (ht : P.underlying t = some .string) (hc : P.cellsOf t = 1) : Rd P t Bytes (fun s => [.str s]) (fun s => s.length + 1) (fun _ => True) where
  len _ := hc.symm
  read h _ := by
    obtain ⟨s, rfl, hx, hw⟩ := DataW.trod_string ht h
    cases hx
    exact ⟨s.data.toList, .cons (.str s.data.toList) .nil, by simp [YtfdjmooifnmanaaDoor.Rows.uptoBulk], trivial⟩
  carry := by
    intro H eH W W' fuel cs d ps sp _ _ h
    obtain ⟨s, rfl, hx, hw⟩ := DataW.trod_string ht h
    cases hx
    cases fuel with
    | zero => simp [DataW.trod] at h
    | succ m => simp [DataW.trod, ht, hw]

theorem cell_same {W W' : World} (h : ∀ b, b < W.heap.size → W'.heap[b]? = W.heap[b]?) {a : Addr} {v : Value} (hv : W.cell? a = some v) : W'.cell? a = some v := by
  have hb : a.block < W.heap.size := by
    unfold World.cell? at hv
    split at hv
    · rename_i hh; exact (Array.getElem?_eq_some_iff.1 hh).1
    · cases hv
  unfold World.cell? at hv ⊢
  rw [h _ hb]; exact hv
theorem mapM_congr {α β : Type} {f g : α → Option β} : ∀ {l : List α} {r : List β}, l.mapM f = some r → (∀ x ∈ l, ∀ y ∈ r, f x = some y → g x = some y) → l.mapM g = some r
  | [], _, h, _ => h
  | x :: l, r, h, hfg => by
    simp only [List.mapM_cons, Option.bind_eq_bind, Option.bind_eq_some_iff, Option.pure_def, Option.some.injEq] at h ⊢
    obtain ⟨y, h1, ys, h2, rfl⟩ := h
    exact ⟨y, hfg x (by simp) y (by simp) h1, ys, mapM_congr h2 (fun x hx y hy => hfg x (by simp [hx]) y (by simp [hy])), rfl⟩
theorem mapM_of_get {α β : Type} {f : α → Option β} : ∀ {l : List α} {r : List β}, r.length = l.length → (∀ (i : Nat) (y : β), r[i]? = some y → ∃ x, l[i]? = some x ∧ f x = some y) → l.mapM f = some r
  | [], [], _, _ => rfl
  | x :: l, y :: r, hl, h => by
    obtain ⟨x', h1, h2⟩ := h 0 y rfl
    simp at h1; subst h1
    have := mapM_of_get (f := f) (l := l) (r := r) (by simpa using hl) fun i y hy => by
      obtain ⟨x', g1, g2⟩ := h (i + 1) y (by simpa using hy)
      exact ⟨x', by simpa using g1, g2⟩
    simp [List.mapM_cons, h2, this]
  | [], _ :: _, hl, _ => by simp at hl
  | _ :: _, [], hl, _ => by simp at hl
theorem cells_same {W W' : World} (h : ∀ b, b < W.heap.size → W'.heap[b]? = W.heap[b]?) {a : Addr} {n : Nat} {cs : List Value} (hv : W.cells? 0 a n = some cs) : W'.cells? 0 a n = some cs := by
  unfold World.cells? at hv ⊢
  split at hv
  · rename_i hb
    rw [if_pos hb]
    exact mapM_congr hv fun x _ y _ hx => cell_same h hx
  · cases hv
theorem cells_get {W : World} {a : Addr} {n : Nat} {cs : List Value} (hv : W.cells? 0 a n = some cs) : cs.length = n ∧ ∀ (j : Nat) (v : Value), cs[j]? = some v → W.cell? (a.add j) = some v := by
  unfold World.cells? at hv
  split at hv
  · refine ⟨by simpa using mapM_some_length hv, fun j v hj => ?_⟩
    have hl := mapM_some_length hv
    have hlt : j < n := by have := (List.getElem?_eq_some_iff.1 hj).1; rw [hl] at this; simpa using this
    have := mapM_some_get hv j j (by simp [hlt])
    rw [this]; exact hj
  · cases hv
theorem cell_heap {W : World} {a : Addr} {v : Value} (h : W.cell? a = some v) : a.spot = none ∧ ∃ c t f, W.heap[a.block]? = some (.cells c t f) ∧ c[a.off]? = some v := by
  unfold World.cell? at h
  split at h
  · rename_i c t f hh
    split at h
    · cases h
    · rename_i hs
      exact ⟨by simpa using hs, c, t, f, hh, h⟩
  · cases h

theorem bulkAll_mem {H : Type} : ∀ {l : List (DataW H)} {d : DataW H}, d ∈ l → YtfdjmooifnmanaaDoor.Rows.uptoBulk d ≤ YtfdjmooifnmanaaDoor.Rows.uptoBulkAll l
  | x :: l, d, h => by
    simp only [YtfdjmooifnmanaaDoor.Rows.uptoBulkAll]
    rcases List.mem_cons.1 h with rfl | h
    · omega
    · have := bulkAll_mem h; omega
theorem one_le {H : Type} (d : DataW H) : 1 ≤ YtfdjmooifnmanaaDoor.Rows.uptoBulk d := by
  cases d with
  | lit l => cases l <;> simp [YtfdjmooifnmanaaDoor.Rows.uptoBulk]
  | nil => simp [YtfdjmooifnmanaaDoor.Rows.uptoBulk]
  | ptr d => simp [YtfdjmooifnmanaaDoor.Rows.uptoBulk]
  | slice elems spare => simp [YtfdjmooifnmanaaDoor.Rows.uptoBulk]
  | agg parts => simp [YtfdjmooifnmanaaDoor.Rows.uptoBulk]
  | iface t d => simp [YtfdjmooifnmanaaDoor.Rows.uptoBulk]
  | map entries => simp [YtfdjmooifnmanaaDoor.Rows.uptoBulk]
  | held h => simp [YtfdjmooifnmanaaDoor.Rows.uptoBulk]

def bulkL {E : Type} (bulk : E → Nat) : List E → Nat
  | [] => 0
  | e :: l => bulk e + bulkL bulk l

/-- a list, element by element -/
theorem elems_read {t e : TypeId} {E : Type} {enc : E → List SV} {bulk : E → Nat} {ok : E → Prop} (r : Rd P e E enc bulk ok) {H : Type} {eH : TypeId × Value → H} {W : World} {fuel : Nat} (cell : Nat → Option (List Value)) :
    ∀ (n k : Nat) (elems : List (DataW H × List MemPlace)), elems.length = n → (∀ i, i < n → (cell (k + i)).bind (DataW.trod eH P W 0 (fun _ => true) true fuel e) = elems[i]?) → YtfdjmooifnmanaaDoor.Rows.uptoBulkAll (elems.map (·.1)) ≤ 1048576 →
    ∃ xs : List E, xs.length = n ∧ (∀ (i : Nat) (x : E), xs[i]? = some x → ∃ cs, cell (k + i) = some cs ∧ DenL (heapOf W) [] (enc x) cs) ∧ bulkL bulk xs ≤ YtfdjmooifnmanaaDoor.Rows.uptoBulkAll (elems.map (·.1)) ∧ (∀ x ∈ xs, ok x)
  | 0, _, [], _, _, _ => ⟨[], rfl, fun i x h => by simp at h, by simp [bulkL], fun x h => by cases h⟩
  | n + 1, k, y :: ys, hl, h, hb => by
    have h0 := h 0 (by omega)
    simp only [List.getElem?_cons_zero, Nat.add_zero] at h0
    obtain ⟨cs, c1, c2⟩ := Option.bind_eq_some_iff.1 h0
    simp only [List.map_cons, YtfdjmooifnmanaaDoor.Rows.uptoBulkAll] at hb
    obtain ⟨x, d1, d2, d3⟩ := r.read (d := y.1) (ps := y.2) c2 (by omega)
    obtain ⟨xs, e1, e2, e3, e4⟩ := elems_read (t := t) r cell n (k + 1) ys (by simpa using hl) (fun i hi => by
      have := h (i + 1) (by omega)
      rw [List.getElem?_cons_succ] at this
      rw [← this, show k + 1 + i = k + (i + 1) by omega]) (by omega)
    refine ⟨x :: xs, by simp [e1], fun i z hz => ?_, by simp only [bulkL, List.map_cons, YtfdjmooifnmanaaDoor.Rows.uptoBulkAll]; omega, fun z hz => ?_⟩
    · cases i with
      | zero => simp at hz; subst hz; exact ⟨cs, c1, d1⟩
      | succ i =>
        obtain ⟨cs', q1, q2⟩ := e2 i z (by simpa using hz)
        exact ⟨cs', by rw [← q1]; congr 1; omega, q2⟩
    · rcases List.mem_cons.1 hz with rfl | hz
      · exact d3
      · exact e4 z hz

theorem bulkL_len {E : Type} {bulk : E → Nat} : ∀ {l : List E}, (∀ e ∈ l, 1 ≤ bulk e) → l.length ≤ bulkL bulk l
  | [], _ => by simp [bulkL]
  | e :: l, h => by
    have := h e (by simp)
    have := bulkL_len (l := l) (fun x hx => h x (by simp [hx]))
    simp [bulkL]; omega

theorem bulkL_mem {E : Type} {bulk : E → Nat} : ∀ {l : List E} {x : E}, x ∈ l → bulk x ≤ bulkL bulk l
  | e :: l, x, h => by
    rcases List.mem_cons.1 h with rfl | h
    · simp [bulkL]
    · have := bulkL_mem (bulk := bulk) h
      simp [bulkL]; omega
theorem texts_ok {l : List Bytes} (h : bulkL (fun s : Bytes => s.length + 1) l + 1 ≤ 1048576) : ∀ x ∈ l, x.length ≤ 1048576 := fun x hx => by
  have : x.length + 1 ≤ _ := bulkL_mem (bulk := fun s : Bytes => s.length + 1) hx
  omega

theorem Rd.slice {t e : TypeId} {E : Type} {enc : E → List SV} {bulk : E → Nat} {ok : E → Prop} (d : E) (ht : P.underlying t = some (.slice e)) (hc : P.cellsOf t = 1) (hk : 0 < P.cellsOf e) (r : Rd P e E enc bulk ok) :
    Rd P t (List E) (fun l => [.ro E d (P.cellsOf e) enc l]) (fun l => bulkL bulk l + 1) (fun l => (∀ x ∈ l, ok x) ∧ l.length ≤ 1048576) where
  len _ := hc.symm
  read h hb := by
    rename_i H eH W fuel cs dd ps
    rcases DataW.trod_slice ht h with ⟨rfl, hx⟩ | ⟨a, len, cap, elems, rest, n, rfl, rfl, hx, h0, hl, hm, hel, hg, hsp, hns⟩
    · cases hx
      exact ⟨[], .cons .roN .nil, by simp [bulkL, YtfdjmooifnmanaaDoor.Rows.uptoBulk], (fun x hx => by cases hx), Nat.zero_le _⟩
    · cases hx
      simp only [YtfdjmooifnmanaaDoor.Rows.uptoBulk] at hb
      have hlen : elems.length ≤ 1048576 := by
        have : (elems.map (·.1)).length ≤ YtfdjmooifnmanaaDoor.Rows.uptoBulkAll (elems.map (·.1)) := by
          generalize elems.map (·.1) = l
          induction l with
          | nil => simp [YtfdjmooifnmanaaDoor.Rows.uptoBulkAll]
          | cons x l ih => have := one_le x; simp only [YtfdjmooifnmanaaDoor.Rows.uptoBulkAll, List.length_cons]; omega
        rw [List.length_map] at this; omega
      obtain ⟨xs, e1, e2, e3, e4⟩ := elems_read (t := t) r (fun i => W.cells? 0 (a.add (i * P.cellsOf e)) (P.cellsOf e)) len 0 elems hel (fun i hi => by rw [Nat.zero_add]; exact hg i hi) (by omega)
      refine ⟨xs, .cons ?_ .nil, by simp only [YtfdjmooifnmanaaDoor.Rows.uptoBulk]; omega, e4, by omega⟩
      have atC : ∀ (i j : Nat) (x : E) (s : SV), a.spot = none → xs[i]? = some x → (enc x)[j]? = some s → ∃ v, W.cell? ⟨a.block, a.off + (i * P.cellsOf e + j), none⟩ = some v ∧ Den (heapOf W) [] s v := by
        intro i j x s hsp hx hs
        obtain ⟨cs', w1, w2⟩ := e2 i x hx
        have hj : j < cs'.length := by rw [← w2.1]; exact (List.getElem?_eq_some_iff.1 hs).1
        have hcell := (cells_get w1).2 j cs'[j] (List.getElem?_eq_getElem hj)
        obtain ⟨b, o, sp⟩ := a
        simp only at hsp
        subst hsp
        rw [Nat.zero_add, addr_add, addr_add, Nat.add_assoc] at hcell
        exact ⟨_, hcell, w2.2 j s _ hs (List.getElem?_eq_getElem hj)⟩
      cases xs with
      | nil => simp at e1; subst e1; exact .roE _ _
      | cons x0 xs =>
        obtain ⟨cs0, q1, q2⟩ := e2 0 x0 rfl
        simp only [Nat.add_zero, Nat.zero_mul] at q1
        have hcl := cells_get q1
        have hspot : a.spot = none := by
          have h1 : 0 < cs0.length := by rw [hcl.1]; exact hk
          have := (cell_heap (hcl.2 0 cs0[0] (List.getElem?_eq_getElem h1))).1
          simpa [Addr.add] using this
        obtain ⟨b, o, sp⟩ := a
        simp only at hspot
        subst hspot
        rw [← e1]
        refine .ro (fun i j => (W.cell? ⟨b, o + (i * P.cellsOf e + j), none⟩).getD undef) (fun i j x s hx hs => ?_) (fun i j x s hx hs => ?_) (fun x => r.len x) (by omega) (by omega)
        · obtain ⟨v, hv, hd⟩ := atC i j x s rfl hx hs
          obtain ⟨_, c, ty, f, k1, k2⟩ := cell_heap hv
          exact ⟨c, ty, f, k1, by rw [hv]; exact k2⟩
        · obtain ⟨v, hv, hd⟩ := atC i j x s rfl hx hs
          rw [hv]; exact hd
  carry := by
    intro H eH W W' fuel cs d ps sp hw hsp h
    have h' := h
    cases fuel with
    | zero => simp [DataW.trod] at h
    | succ n =>
      rcases DataW.trod_slice ht h with ⟨rfl, hx⟩ | ⟨a, len, cap, elems, rest, m, hm, rfl, hx, h0, hl, hmx, hel, hg, hsr, hns⟩
      · cases hx
        simp [DataW.trod, ht]
      · cases hm
        have hx' := hx
        cases hx
        obtain ⟨hrl, hr⟩ := hsr rfl
        have step : ∀ (i : Nat) (y : DataW H × List MemPlace), y ∈ elems ++ rest → (W.cells? 0 (a.add (i * P.cellsOf e)) (P.cellsOf e)).bind (DataW.trod eH P W 0 (fun _ => true) true n e) = some y → (W'.cells? 0 (a.add (i * P.cellsOf e)) (P.cellsOf e)).bind (DataW.trod eH P W' 0 sp true n e) = some y := by
          intro i y hy hb
          obtain ⟨cs, c1, c2⟩ := Option.bind_eq_some_iff.1 hb
          rw [cells_same hw c1]
          exact r.carry hw (fun p hp => hsp p (List.mem_append.2 (.inr (List.mem_flatMap.2 ⟨y, hy, hp⟩)))) c2
        have m1 : (List.range len).mapM (fun i => (W'.cells? 0 (a.add (i * P.cellsOf e)) (P.cellsOf e)).bind (DataW.trod eH P W' 0 sp true n e)) = some elems := by
          apply mapM_of_get
          · simpa using hel
          · intro i y hy
            have hi : i < len := by have := (List.getElem?_eq_some_iff.1 hy).1; omega
            refine ⟨i, by simp [hi], step i y (List.mem_append.2 (.inl (List.mem_of_getElem? hy))) ?_⟩
            rw [hg i hi]; exact hy
        have m2 : (if sp a.block then (List.range (cap - len)).mapM fun j => (W'.cells? 0 (a.add ((len + j) * P.cellsOf e)) (P.cellsOf e)).bind (DataW.trod eH P W' 0 sp true n e) else some []) = some rest := by
          have hmm : (List.range (cap - len)).mapM (fun j => (W'.cells? 0 (a.add ((len + j) * P.cellsOf e)) (P.cellsOf e)).bind (DataW.trod eH P W' 0 sp true n e)) = some rest := by
            apply mapM_of_get
            · simpa using hrl
            · intro j y hy
              have hj : j < cap - len := by have := (List.getElem?_eq_some_iff.1 hy).1; omega
              refine ⟨j, by simp [hj], step (len + j) y (List.mem_append.2 (.inr (List.mem_of_getElem? hy))) ?_⟩
              rw [hr j hj]; exact hy
          cases hs : sp a.block with
          | true => simpa using hmm
          | false =>
            by_cases hz : cap = 0
            · have : rest = [] := List.length_eq_zero_iff.1 (by omega)
              simp [this]
            · have hmem : MemPlace.cell a.block (a.off + 0) ∈ MemPlace.row a ((elems.length + rest.length) * P.cellsOf e) := by
                refine List.mem_map.2 ⟨0, ?_, rfl⟩
                rw [List.mem_range]
                exact Nat.mul_pos (by omega) hk
              have := hsp _ (List.mem_append.2 (.inl hmem))
              simp only [MemPlace.block] at this
              rw [hs] at this; cases this
        simp only [DataW.trod, ht]
        rw [if_pos ⟨h0, hl, hmx⟩, m1, Option.bind_some, m2, Option.map_some]
end
end Go.V
