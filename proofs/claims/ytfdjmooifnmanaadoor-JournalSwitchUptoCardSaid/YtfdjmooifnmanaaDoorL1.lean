/- Plain: writes of several sectors; slots; frames that lie one behind the other. -/
import Derived.Test.YtfdjmooifnmanaaDoorL0
import Derived.Test.YtfdjmooifnmanaaDoorJ
namespace Go.V

/-! ### several sectors -/
theorem wrN_spec {m : DevM} (h : m.good) {a : Nat} {data : Bytes} (hn : m.held.length + data.length / 512 ≤ 1000000000000) (ha : a + data.length / 512 ≤ m.safe.length) : ∀ n, n ≤ data.length / 512 →
    ∃ k, k ≤ n ∧ ((m.wrN a data n).2 = true → k = n) ∧ ((m.wrN a data n).2 = false → (m.wrN a data n).1.down = true) ∧ ((m.wrN a data n).2 = true → (m.wrN a data n).1.down = m.down) ∧ ((m.wrN a data n).2 = false → k < n) ∧ (m.wrN a data n).1.good ∧ (m.wrN a data n).1.safe.length = m.safe.length ∧
      (∀ b, (m.wrN a data n).1.kept b = m.kept b ∧ (m.wrN a data n).1.sector b = if a ≤ b ∧ b < a + k then sect data (b - a) else m.sector b) ∧
      (m.wrN a data n).1.held = m.held ++ (List.range k).map fun i => (((a + i : Nat) : Int), sect data i)
  | 0, _ => ⟨0, Nat.le_refl _, fun _ => rfl, fun h => (by cases h), fun _ => rfl, fun h => (by cases h), h, rfl, fun b => ⟨rfl, by rw [if_neg (by omega)]; rfl⟩, by simp [DevM.wrN]⟩
  | n + 1, hi => by
    obtain ⟨k, h1, h2, h3, h3', h3n, h4, h5, h6, h7⟩ := wrN_spec h hn ha n (by omega)
    have hz := wrN_size m a data n
    unfold DevM.wrN
    cases hok : (m.wrN a data n).2 with
    | false =>
      simp only [cond_false, hok]
      exact ⟨k, by omega, fun h => (by cases h), fun _ => h3 hok, fun h => (by cases h), fun _ => by have := h3n hok; omega, h4, h5, h6, h7⟩
    | true =>
      have hk := h2 hok
      subst hk
      cases ho : (m.wrN a data k).1.oper with
      | false =>
        simp only [cond_true, cond_false]
        have hc := count_size (m.wrN a data k).1
        refine ⟨k, by omega, fun h => (by cases h), fun _ => by unfold DevM.count; rw [ho]; rfl, fun h => (by cases h), fun _ => Nat.lt_succ_self _, h4.count, by rw [hc.1]; exact h5, fun b => ?_, by rw [hc.2.2]; exact h7⟩
        have hs := count_sector (m.wrN a data k).1 b
        rw [hs.1, hs.2]; exact h6 b
      | true =>
        simp only [cond_true]
        have hl := sect_len (data := data) (i := k) (by omega)
        have hak : a + k < (m.wrN a data k).1.safe.length := by rw [h5]; omega
        refine ⟨k + 1, Nat.le_refl _, fun _ => rfl, fun h => (by cases h), fun _ => by show (m.wrN a data k).1.count.down = m.down; rw [← h3' hok]; unfold DevM.count; rw [ho]; rfl, fun h => (by cases h), h4.write1 hak hl (by omega), by simp only [DevM.write1]; rw [(count_size _).1]; exact h5, fun b => ?_, ?_⟩
        · have hs := write1_sector (s := sect data k) h4.wf hak hl b
          rw [hs.1, hs.2]
          refine ⟨(h6 b).1, ?_⟩
          by_cases hb : b = a + k
          · subst hb
            rw [if_pos rfl, if_pos ⟨by omega, by omega⟩, Nat.add_sub_cancel_left]
          · rw [if_neg hb, (h6 b).2]
            by_cases hb2 : a ≤ b ∧ b < a + k
            · rw [if_pos hb2, if_pos ⟨hb2.1, by omega⟩]
            · rw [if_neg hb2, if_neg (fun h => hb2 ⟨h.1, by omega⟩)]
        · simp only [DevM.write1]
          rw [(count_size _).2.2, h7, List.range_succ, List.map_append, List.append_assoc]; rfl
/-- WHAT A WRITE LEAVES: some sectors from the first one on; all of them, if the device did not go down. -/
theorem wr_spec {m : DevM} (h : m.good) {a : Nat} {data : Bytes} (hn : m.held.length + data.length / 512 ≤ 1000000000000) (ha : a + data.length / 512 ≤ m.safe.length) :
    ∃ k, k ≤ data.length / 512 ∧ ((m.wr a data).2 = true → k = data.length / 512) ∧ ((m.wr a data).2 = false → (m.wr a data).1.down = true) ∧ ((m.wr a data).2 = true → (m.wr a data).1.down = false) ∧ ((m.wr a data).2 = false → m.down = false → k < data.length / 512) ∧ (m.wr a data).1.good ∧ (m.wr a data).1.safe.length = m.safe.length ∧
      (∀ b, (m.wr a data).1.kept b = m.kept b ∧ (m.wr a data).1.sector b = if a ≤ b ∧ b < a + k then sect data (b - a) else m.sector b) ∧
      (m.wr a data).1.held = m.held ++ (List.range k).map fun i => (((a + i : Nat) : Int), sect data i) := by
  unfold DevM.wr
  cases hd : m.down with
  | true => exact ⟨0, Nat.zero_le _, fun h => (by cases h), fun _ => hd, fun h => (by cases h), fun _ h => (by cases h), h, rfl, fun b => ⟨rfl, by rw [if_neg (by omega)]; rfl⟩, by simp⟩
  | false => have := wrN_spec h hn ha _ (Nat.le_refl _); rw [hd] at this; obtain ⟨k, a1, a2, a3, a4, a5, a6⟩ := this; exact ⟨k, a1, a2, a3, a4, fun h _ => a5 h, a6⟩
theorem oper_down {m : DevM} (h : m.oper = false) : m.count.down = true := by unfold DevM.count; rw [h]; rfl

/-! ### slots -/
theorem isPrefixOf_append (a b : Bytes) : a.isPrefixOf (a ++ b) = true := by simp
theorem slot_num {q h k : Nat} (hq : q < 256 ^ 8) : beN (getB (slotB q h k) 4 8) = q ∧ beN (getB (slotB q h k) 504 8) = q := by
  have e8 := putBE_len 8 q
  have e4 := putBE_len 4 h
  have e44 := putBE_len 4 k
  have ez := zeros_len 484
  have em : markJ.length = 4 := rfl
  constructor
  · have e : slotB q h k = markJ ++ putBE 8 q ++ (putBE 4 h ++ putBE 4 k ++ (zeros 484 ++ putBE 8 q)) := by simp [slotB, List.append_assoc]
    rw [e, getB_mid em.symm e8.symm, beN_putBE, Nat.mod_eq_of_lt hq]
  · have e : slotB q h k = (markJ ++ putBE 8 q ++ putBE 4 h ++ putBE 4 k ++ zeros 484) ++ putBE 8 q ++ [] := by simp [slotB, List.append_assoc]
    rw [e, getB_mid (by simp only [List.length_append]; omega) e8.symm, beN_putBE, Nat.mod_eq_of_lt hq]
theorem slotRead_slot {q h k half : Nat} (hq : q < 4611686018427387904) (hh : h ≤ 1) (h1 : 1 ≤ k) (h2 : k ≤ half) (h3 : half ≤ 8192) : slotRead (slotB q h k) half = (q, h, k) := by
  have e8 := putBE_len 8 q
  have e4 := putBE_len 4 h
  have e44 := putBE_len 4 k
  have em : markJ.length = 4 := rfl
  have hn := slot_num (q := q) (h := h) (k := k) (by omega)
  have b1 : beN (getB (slotB q h k) 12 4) = h := by
    have e : slotB q h k = (markJ ++ putBE 8 q) ++ putBE 4 h ++ (putBE 4 k ++ (zeros 484 ++ putBE 8 q)) := by simp [slotB, List.append_assoc]
    rw [e, getB_mid (by simp only [List.length_append]; omega) e4.symm, beN_putBE, Nat.mod_eq_of_lt (by omega)]
  have b2 : beN (getB (slotB q h k) 16 4) = k := by
    have e : slotB q h k = (markJ ++ putBE 8 q ++ putBE 4 h) ++ putBE 4 k ++ (zeros 484 ++ putBE 8 q) := by simp [slotB, List.append_assoc]
    rw [e, getB_mid (by simp only [List.length_append]; omega) e44.symm, beN_putBE, Nat.mod_eq_of_lt (by omega)]
  have b0 : markJ.isPrefixOf (slotB q h k) = true := by
    have e : slotB q h k = markJ ++ (putBE 8 q ++ putBE 4 h ++ putBE 4 k ++ (zeros 484 ++ putBE 8 q)) := by simp [slotB, List.append_assoc]
    rw [e]; exact isPrefixOf_append _ _
  unfold slotRead
  rw [hn.1, hn.2, b1, b2, if_pos ⟨b0, rfl, hq, hh, h1, h2⟩]

/-- no slot of the number q, nor of a higher one, nor will it be one by a beginning of such a slot's write -/
def Stale (t : Bytes) (q : Nat) : Prop := t.length = 512 ∧ (beN (getB t 504 8) < q ∨ (beN (getB t 4 8) = q ∧ beN (getB t 504 8) ≠ q))
theorem Stale.read {t : Bytes} {q half : Nat} (h : Stale t q) (hq : 0 < q) : (slotRead t half).1 < q := by
  unfold slotRead
  split
  · rename_i hc
    rcases h.2 with h | h
    · show beN (getB t 4 8) < q
      rw [hc.2.1]; exact h
    · exact absurd (hc.2.1.symm.trans h.1) h.2
  · exact hq
theorem stale_slot {q q' h k : Nat} (hq : q' < q) (h8 : q < 256 ^ 8) : Stale (slotB q' h k) q := ⟨slotB_len _ _ _, .inl (by rw [(slot_num (by omega)).2]; exact hq)⟩
theorem getB_zeros {n a k : Nat} (h : a + k ≤ n) : getB (zeros n) a k = zeros k := by
  unfold getB zeros; rw [List.drop_replicate, List.take_replicate]; congr 1; omega
theorem stale_zero {q : Nat} (hq : 0 < q) : Stale (zeros 512) q := ⟨zeros_len _, .inl (by
  have : beN (getB (zeros 512) 504 8) = 0 := by
    rw [getB_zeros (by omega)]; rfl
  omega)⟩
theorem Stale.mono {t : Bytes} {q : Nat} (h : Stale t q) (hl : beN (getB t 504 8) < q) : Stale t (q + 1) := ⟨h.1, .inl (by omega)⟩

theorem getB_left {a b : Bytes} {n k : Nat} (h : n + k ≤ a.length) : getB (a ++ b) n k = getB a n k := by
  unfold getB
  rw [List.drop_append_of_le_length (by omega), List.take_append_of_le_length (by rw [List.length_drop]; omega)]
theorem getB_right {a b : Bytes} {n k : Nat} (h : a.length ≤ n) : getB (a ++ b) n k = getB b (n - a.length) k := by
  unfold getB
  rw [List.drop_append, List.drop_of_length_le h, List.nil_append]
theorem getB_take {s : Bytes} {n m k : Nat} (h : n + k ≤ m) : getB (s.take m) n k = getB s n k := by
  unfold getB
  rw [List.drop_take, List.take_take, Nat.min_eq_left (by omega)]
theorem getB_drop {s : Bytes} {n m k : Nat} : getB (s.drop m) n k = getB s (m + n) k := by
  unfold getB; rw [List.drop_drop]
theorem take_drop_same {s t : Bytes} {n : Nat} (hl : s.length = t.length) (h : s.drop n = t.drop n) : s.take n ++ t.drop n = s := by rw [← h, List.take_append_drop]

/-- a torn write of a slot -/
theorem torn_slot {t : Bytes} {q h k n : Nat} (ht : Stale t q) (hq : q < 256 ^ 8) (hn : n ≤ 512) : (slotB q h k).take n ++ t.drop n = slotB q h k ∨ Stale ((slotB q h k).take n ++ t.drop n) q := by
  have hs := slotB_len q h k
  have hsn := slot_num (h := h) (k := k) hq
  have hl : ((slotB q h k).take n ++ t.drop n).length = 512 := by rw [List.length_append, List.length_take, List.length_drop, hs, ht.1]; omega
  have htl : ((slotB q h k).take n).length = n := by rw [List.length_take, hs]; omega
  by_cases h504 : n ≤ 504
  · right
    have e1 : getB ((slotB q h k).take n ++ t.drop n) 504 8 = getB t 504 8 := by
      rw [getB_right (by omega), getB_drop, htl]; congr 1; omega
    refine ⟨hl, ?_⟩
    rw [e1]
    rcases ht.2 with h1 | ⟨h1, h2⟩
    · exact .inl h1
    · by_cases h0 : beN (getB t 504 8) < q
      · exact .inl h0
      · right
        refine ⟨?_, h2⟩
        -- the head's number is a beginning of q's bytes, and then t's, which are q's
        have e4 : getB t 4 8 = putBE 8 q := by
          have := putBE_beN (getB t 4 8)
          rw [h1, show (getB t 4 8).length = 8 by simp [getB, ht.1]] at this
          exact this.symm
        have e5 : getB (slotB q h k) 4 8 = putBE 8 q := by
          have := putBE_beN (getB (slotB q h k) 4 8)
          rw [hsn.1, show (getB (slotB q h k) 4 8).length = 8 by simp [getB, hs]] at this
          exact this.symm
        have e6 : getB ((slotB q h k).take n ++ t.drop n) 4 8 = putBE 8 q := by
          apply List.ext_getElem?
          intro i
          have g1 : (getB ((slotB q h k).take n ++ t.drop n) 4 8)[i]? = if i < 8 then ((slotB q h k).take n ++ t.drop n)[4 + i]? else none := by
            unfold getB; rw [List.getElem?_take, List.getElem?_drop]
          have g2 : (getB (slotB q h k) 4 8)[i]? = if i < 8 then (slotB q h k)[4 + i]? else none := by
            unfold getB; rw [List.getElem?_take, List.getElem?_drop]
          have g3 : (getB t 4 8)[i]? = if i < 8 then t[4 + i]? else none := by
            unfold getB; rw [List.getElem?_take, List.getElem?_drop]
          rw [e5] at g2
          rw [e4] at g3
          rw [g1]
          by_cases hi : i < 8
          · rw [if_pos hi]
            rw [if_pos hi] at g2 g3
            by_cases hin : 4 + i < n
            · rw [List.getElem?_append_left (by rw [htl]; exact hin), List.getElem?_take, if_pos hin]; exact g2.symm
            · rw [List.getElem?_append_right (by rw [htl]; omega), htl, List.getElem?_drop, show n + (4 + i - n) = 4 + i by omega]; exact g3.symm
          · rw [if_neg hi]
            rw [if_neg hi] at g2
            exact g2.symm
        rw [e6, beN_putBE, Nat.mod_eq_of_lt hq]
  · have e1 : getB ((slotB q h k).take n ++ t.drop n) 4 8 = getB (slotB q h k) 4 8 := by
      rw [getB_left (by rw [htl]; omega), getB_take (by omega)]
    by_cases h0 : beN (getB ((slotB q h k).take n ++ t.drop n) 504 8) = q
    · left
      have e4 : getB ((slotB q h k).take n ++ t.drop n) 504 8 = putBE 8 q := by
        have := putBE_beN (getB ((slotB q h k).take n ++ t.drop n) 504 8)
        rw [h0, show (getB ((slotB q h k).take n ++ t.drop n) 504 8).length = 8 by unfold getB; rw [List.length_take, List.length_drop, hl]; rfl] at this
        exact this.symm
      have e5 : getB (slotB q h k) 504 8 = putBE 8 q := by
        have := putBE_beN (getB (slotB q h k) 504 8)
        rw [hsn.2, show (getB (slotB q h k) 504 8).length = 8 by simp [getB, hs]] at this
        exact this.symm
      have e6 : ((slotB q h k).take n ++ t.drop n).drop 504 = (slotB q h k).drop 504 := by
        have a1 : getB ((slotB q h k).take n ++ t.drop n) 504 8 = ((slotB q h k).take n ++ t.drop n).drop 504 := List.take_of_length_le (by rw [List.length_drop, hl]; omega)
        have a2 : getB (slotB q h k) 504 8 = (slotB q h k).drop 504 := List.take_of_length_le (by rw [List.length_drop, hs]; omega)
        rw [← a1, ← a2, e4, e5]
      have e7 : ((slotB q h k).take n ++ t.drop n).take 504 = (slotB q h k).take 504 := by
        rw [List.take_append_of_le_length (by rw [htl]; omega), List.take_take, Nat.min_eq_left (by omega)]
      rw [← List.take_append_drop 504 ((slotB q h k).take n ++ t.drop n), e6, e7, List.take_append_drop]
    · right
      exact ⟨hl, .inr ⟨by rw [e1]; exact hsn.1, h0⟩⟩
end Go.V
