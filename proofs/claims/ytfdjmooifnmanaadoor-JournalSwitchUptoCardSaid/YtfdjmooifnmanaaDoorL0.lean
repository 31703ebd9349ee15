/- Plain: what a device's sectors are, behind writes, flushes and crashes. -/
import Derived.Test.YtfdjmooifnmanaaDoorD
namespace Go.V

/-- what was written since the last flush is among what is held back -/
structure DevM.good (m : DevM) : Prop where
  wf : m.wf
  seen : ∀ a, m.now.getD a [] ≠ [] → ∃ x ∈ m.held, x.1.toNat = a

theorem sector_def (m : DevM) (b : Nat) : m.sector b = if m.now.getD b [] = [] then m.kept b else m.now.getD b [] := rfl
theorem getD_set {α : Type} (l : List α) (i j : Nat) (x d : α) : (l.set i x).getD j d = if j = i ∧ i < l.length then x else l.getD j d := by
  simp only [List.getD_eq_getElem?_getD, List.getElem?_set]
  by_cases h : i = j
  · subst h
    by_cases h2 : i < l.length
    · simp [h2]
    · simp [h2]
  · have h' : ¬ j = i := fun e => h e.symm
    simp [h, h']

theorem count_sector (m : DevM) (b : Nat) : m.count.sector b = m.sector b ∧ m.count.kept b = m.kept b := by
  obtain ⟨h1, h2, _⟩ := count_size m
  simp [DevM.sector, DevM.kept, h1, h2]
theorem DevM.good.count {m : DevM} (h : m.good) : m.count.good := by
  obtain ⟨h1, h2, h3⟩ := count_size m
  exact ⟨h.wf.count, fun a ha => by rw [h2] at ha; rw [h3]; exact h.seen a ha⟩
/-- where nothing is held back a sector is what it was at the last flush -/
theorem DevM.good.same {m : DevM} (h : m.good) {b : Nat} (hb : ∀ x ∈ m.held, x.1.toNat ≠ b) : m.sector b = m.kept b := by
  rw [sector_def]
  by_cases hn : m.now.getD b [] = []
  · rw [if_pos hn]
  · obtain ⟨x, hx, e⟩ := h.seen b hn
    exact absurd e (hb x hx)

theorem len_ne {s : Bytes} (h : s.length = 512) : s ≠ [] := fun e => by rw [e] at h; cases h
theorem write1_sector {m : DevM} {a : Nat} {s : Bytes} (hw : m.wf) (ha : a < m.safe.length) (hs : s.length = 512) (b : Nat) : (m.write1 a s).sector b = (if b = a then s else m.sector b) ∧ (m.write1 a s).kept b = m.kept b := by
  obtain ⟨h1, h2, _⟩ := count_size m
  have hk : (m.write1 a s).kept b = m.kept b := by simp [DevM.write1, DevM.kept, h1]
  refine ⟨?_, hk⟩
  have hn : (m.write1 a s).now = m.now.set a s := by simp [DevM.write1, h2]
  rw [sector_def, sector_def, hk, hn, getD_set]
  by_cases hb : b = a
  · rw [if_pos (c := b = a ∧ a < m.now.length) ⟨hb, by rw [hw.now]; exact ha⟩, if_neg (len_ne hs), if_pos hb]
  · rw [if_neg (c := b = a ∧ a < m.now.length) (fun h => hb h.1), if_neg hb]
theorem DevM.good.write1 {m : DevM} (h : m.good) {a : Nat} {s : Bytes} (ha : a < m.safe.length) (hs : s.length = 512) (hn : m.held.length + 1 ≤ 1000000000000) : (m.write1 a s).good := by
  obtain ⟨h1, h2, h3⟩ := count_size m
  refine ⟨h.wf.write1 ha hs hn, fun b hb => ?_⟩
  have hn : (m.write1 a s).now = m.now.set a s := by simp [DevM.write1, h2]
  have hh : (m.write1 a s).held = m.held ++ [((a : Int), s)] := by simp [DevM.write1, h3]
  rw [hn, getD_set] at hb
  rw [hh]
  by_cases e : b = a
  · exact ⟨((a : Int), s), by simp, by simp [e]⟩
  · rw [if_neg (fun h => e h.1)] at hb
    obtain ⟨x, hx, hxe⟩ := h.seen b hb
    exact ⟨x, by simp [hx], hxe⟩

theorem put_sector {m : DevM} (hw : m.wf) (a b : Nat) : (m.put a).sector b = m.sector b ∧ (m.put a).now.getD b [] = (if b = a then [] else m.now.getD b []) := by
  unfold DevM.put
  by_cases hn : m.now.getD a [] = []
  · rw [if_pos hn]
    refine ⟨rfl, ?_⟩
    by_cases hb : b = a
    · subst hb; rw [if_pos rfl, hn]
    · rw [if_neg hb]
  · rw [if_neg hn]
    have hl : a < m.now.length := by
      rcases Nat.lt_or_ge a m.now.length with h | h
      · exact h
      · exact absurd (by simp [List.getD, List.getElem?_eq_none h]) hn
    have hl2 : a < m.safe.length := by rw [← hw.now]; exact hl
    have hnow : (m.now.set a []).getD b [] = if b = a then [] else m.now.getD b [] := by
      rw [getD_set]
      by_cases hb : b = a
      · rw [if_pos ⟨hb, hl⟩, if_pos hb]
      · rw [if_neg (fun h => hb h.1), if_neg hb]
    refine ⟨?_, hnow⟩
    show (let s := (m.now.set a []).getD b []; if s = [] then (let s := (m.safe.set a (m.now.getD a [])).getD b []; if s = [] then zeros 512 else s) else s) = m.sector b
    simp only [hnow, getD_set]
    by_cases hb : b = a
    · subst hb
      simp only [if_true, hl2, and_self]
      rw [sector_def, if_neg hn, if_neg hn]
    · simp only [hb, false_and, if_false]
      rfl
theorem puts_sector (l : List (Int × Bytes)) : ∀ {m : DevM}, m.wf → ∀ b, (m.puts l).sector b = m.sector b ∧ (m.puts l).now.getD b [] = (if ∃ x ∈ l, x.1.toNat = b then [] else m.now.getD b []) := by
  induction l with
  | nil => intro m _ b; exact ⟨rfl, by simp [DevM.puts]⟩
  | cons x l ih =>
    intro m hw b
    have h1 := put_sector hw x.1.toNat b
    have h2 := ih (hw.put x.1.toNat) b
    refine ⟨h2.1.trans h1.1, ?_⟩
    show ((m.put x.1.toNat).puts l).now.getD b [] = _
    rw [h2.2, h1.2]
    by_cases e1 : ∃ y ∈ l, y.1.toNat = b
    · obtain ⟨y, hy, hye⟩ := e1
      rw [if_pos ⟨y, hy, hye⟩, if_pos ⟨y, by simp [hy], hye⟩]
    · rw [if_neg e1]
      by_cases e2 : b = x.1.toNat
      · rw [if_pos e2, if_pos ⟨x, by simp, e2.symm⟩]
      · rw [if_neg e2, if_neg (by rintro ⟨y, hy, hye⟩; rcases List.mem_cons.1 hy with rfl | hy <;> (first | exact e2 hye.symm | exact e1 ⟨y, hy, hye⟩))]
theorem settle_sector {m : DevM} (h : m.good) (b : Nat) : m.settle.sector b = m.sector b ∧ m.settle.kept b = m.sector b := by
  have h1 := puts_sector m.held h.wf b
  have hs : m.settle.sector b = m.sector b := h1.1
  have hn : m.settle.now.getD b [] = [] := by
    show (m.puts m.held).now.getD b [] = []
    rw [h1.2]
    by_cases e : ∃ x ∈ m.held, x.1.toNat = b
    · rw [if_pos e]
    · rw [if_neg e]
      by_cases hb : m.now.getD b [] = []
      · exact hb
      · exact absurd (h.seen b hb) e
  refine ⟨hs, ?_⟩
  rw [← hs, sector_def, if_pos hn]
theorem DevM.good.settle {m : DevM} (h : m.good) : m.settle.good := by
  refine ⟨h.wf.settle, fun b hb => ?_⟩
  have h1 := puts_sector m.held h.wf b
  exfalso
  apply hb
  show (m.puts m.held).now.getD b [] = []
  rw [h1.2]
  by_cases e : ∃ x ∈ m.held, x.1.toNat = b
  · rw [if_pos e]
  · rw [if_neg e]
    by_cases hb : m.now.getD b [] = []
    · exact hb
    · exact absurd (h.seen b hb) e
theorem flush_sector {m : DevM} (h : m.good) (b : Nat) : m.flush.sector b = m.sector b ∧ m.flush.kept b = (bif m.oper then m.sector b else m.kept b) := by
  have hc := count_sector m b
  unfold DevM.flush
  cases ho : m.oper with
  | true =>
    have := settle_sector h.count b
    simp only [cond_true]
    exact ⟨this.1.trans hc.1, this.2.trans hc.1⟩
  | false => exact hc
theorem DevM.good.flush {m : DevM} (h : m.good) : m.flush.good := by
  unfold DevM.flush
  cases m.oper with
  | true => exact h.count.settle
  | false => exact h.count
theorem flush_held (m : DevM) : m.flush.held = (bif m.oper then [] else m.held) := by
  unfold DevM.flush
  cases m.oper with
  | true => rfl
  | false => exact (count_size m).2.2

/-! ### crashes -/
/-- what a sector is behind a crash: of each write that was held back a beginning is kept -/
def torn (K : Nat → Bytes) (P : List (Int × Bytes)) (keep : List Int) : Nat → Nat → Bytes
  | 0, b => K b
  | i + 1, b => if b = (P.getD i (0, [])).1.toNat then (P.getD i (0, [])).2.take (keepAt keep i) ++ (torn K P keep i b).drop (keepAt keep i) else torn K P keep i b
theorem torn_other {K : Nat → Bytes} {P : List (Int × Bytes)} {keep : List Int} {b : Nat} : ∀ n, n ≤ P.length → (∀ x ∈ P, x.1.toNat ≠ b) → torn K P keep n b = K b
  | 0, _, _ => rfl
  | i + 1, hi, h => by
    have hx : (P.getD i (0, [])) ∈ P := by simp [show i < P.length by omega]
    rw [torn, if_neg (fun e => h _ hx e.symm), torn_other i (by omega) h]

theorem clear_sector {m : DevM} (h : m.good) (b : Nat) : (m.clear m.held).now.getD b [] = [] := by
  have key : ∀ (l : List (Int × Bytes)) (w : List Bytes), (l.foldl (fun w x => w.set x.1.toNat []) w).getD b [] = if ∃ x ∈ l, x.1.toNat = b then [] else w.getD b [] := by
    intro l
    induction l with
    | nil => intro w; simp
    | cons x l ih =>
      intro w
      rw [List.foldl_cons, ih]
      by_cases e1 : ∃ y ∈ l, y.1.toNat = b
      · obtain ⟨y, hy, hye⟩ := e1
        rw [if_pos ⟨y, hy, hye⟩, if_pos ⟨y, by simp [hy], hye⟩]
      · rw [if_neg e1, getD_set]
        by_cases e2 : b = x.1.toNat
        · rw [if_pos (⟨x, by simp, e2.symm⟩ : ∃ y ∈ x :: l, y.1.toNat = b)]
          by_cases hl : x.1.toNat < w.length
          · rw [if_pos ⟨e2, hl⟩]
          · rw [if_neg (fun h => hl h.2), e2]; simp [List.getD, List.getElem?_eq_none (Nat.le_of_not_lt hl)]
        · rw [if_neg (fun h => e2 h.1), if_neg (by rintro ⟨y, hy, hye⟩; rcases List.mem_cons.1 hy with rfl | hy <;> (first | exact e2 hye.symm | exact e1 ⟨y, hy, hye⟩))]
  show (m.held.foldl (fun w x => w.set x.1.toNat []) m.now).getD b [] = []
  rw [key]
  by_cases e : ∃ x ∈ m.held, x.1.toNat = b
  · rw [if_pos e]
  · rw [if_neg e]
    by_cases hb : m.now.getD b [] = []
    · exact hb
    · exact absurd (h.seen b hb) e

theorem tears_sector {m : DevM} (h : m.good) (keep : List Int) : ∀ i, i ≤ m.held.length → ∀ b, ((m.clear m.held).tears keep i).sector b = torn m.kept m.held keep i b ∧ (((m.clear m.held).tears keep i).now.getD b [] ≠ [] → ∃ x ∈ m.held, x.1.toNat = b)
  | 0, _, b => by
    refine ⟨?_, fun hb => absurd (clear_sector h b) hb⟩
    show (m.clear m.held).sector b = m.kept b
    rw [sector_def, if_pos (clear_sector h b)]
    rfl
  | i + 1, hi, b => by
    have ih := tears_sector h keep i (by omega)
    have hw := (h.wf.clear m.held).tears keep i (show i ≤ m.held.length by omega)
    have hz := tears_size (m.clear m.held) keep i
    have hx : (m.held.getD i (0, [])) ∈ m.held := by simp [show i < m.held.length by omega]
    obtain ⟨x0, x1, x2⟩ := h.wf.held _ hx
    have hxl : (m.held.getD i (0, [])).1.toNat < ((m.clear m.held).tears keep i).now.length := by rw [hw.now, hz.1]; show _ < m.safe.length; omega
    have e : (m.clear m.held).tears keep (i + 1) = ((m.clear m.held).tears keep i).tear1 (m.held.getD i (0, [])) (keepAt keep i) := rfl
    have hlen : ((m.held.getD i (0, [])).2.take (keepAt keep i) ++ (((m.clear m.held).tears keep i).sector (m.held.getD i (0, [])).1.toNat).drop (keepAt keep i)).length = 512 := by
      have := keepAt_le keep i
      rw [List.length_append, List.length_take, List.length_drop, hw.sector, x2]; omega
    rw [e]
    generalize (m.clear m.held).tears keep i = q at *
    have hnow : (q.tear1 (m.held.getD i (0, [])) (keepAt keep i)).now.getD b [] = if b = (m.held.getD i (0, [])).1.toNat then (m.held.getD i (0, [])).2.take (keepAt keep i) ++ (q.sector (m.held.getD i (0, [])).1.toNat).drop (keepAt keep i) else q.now.getD b [] := by
      show (q.now.set _ _).getD b [] = _
      rw [getD_set]
      by_cases hb : b = (m.held.getD i (0, [])).1.toNat
      · rw [if_pos ⟨hb, hxl⟩, if_pos hb]
      · rw [if_neg (fun h => hb h.1), if_neg hb]
    constructor
    · rw [sector_def, hnow, torn]
      by_cases hb : b = (m.held.getD i (0, [])).1.toNat
      · rw [if_pos hb, if_pos hb, if_neg (len_ne hlen), ← hb, (ih b).1]
      · rw [if_neg hb, if_neg hb]
        exact (ih b).1
    · intro hne
      rw [hnow] at hne
      by_cases hb : b = (m.held.getD i (0, [])).1.toNat
      · exact ⟨_, hx, hb.symm⟩
      · rw [if_neg hb] at hne; exact (ih b).2 hne

/-- WHAT A CRASH LEAVES. -/
theorem crash_spec {m : DevM} (h : m.good) (keep : List Int) : (m.crash keep).good ∧ (m.crash keep).calm ∧ (m.crash keep).held = [] ∧ (m.crash keep).safe.length = m.safe.length ∧
    (∀ b, (m.crash keep).sector b = torn m.kept m.held keep m.held.length b) ∧ ∀ b, (m.crash keep).kept b = (m.crash keep).sector b := by
  have ht := tears_sector h keep m.held.length (Nat.le_refl _)
  have hw := (h.wf.clear m.held).tears keep m.held.length (Nat.le_refl _)
  have hz := tears_size (m.clear m.held) keep m.held.length
  have hg : ((m.clear m.held).tears keep m.held.length).good := ⟨hw, fun a ha => by
    obtain ⟨x, hx, e⟩ := (ht a).2 ha
    exact ⟨x, by rw [hz.2.2]; exact hx, e⟩⟩
  have hs := hg.settle
  refine ⟨⟨h.wf.crash keep, hs.seen⟩, ⟨rfl, rfl⟩, rfl, ?_, fun b => ?_, fun b => ?_⟩
  · show ((m.clear m.held).tears keep m.held.length).settle.safe.length = _
    rw [(settle_size _).1, hz.1]; rfl
  · exact (settle_sector hg b).1.trans (ht b).1
  · exact (settle_sector hg b).2.trans (settle_sector hg b).1.symm
end Go.V
