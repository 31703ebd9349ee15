/- Plain: the journal's calls. -/
import Derived.Test.YtfdjmooifnmanaaDoorL3
namespace Go.V

theorem JI.len {j : JourM} {d : DevM} {O : Nat → Bytes} {l : List Bytes} {prev : Option (Nat × List Bytes)} (J : JI j d O l prev) : j.records.length + 1 = l.length ∧ l.length ≤ j.half := by
  have h1 := J.texts
  have h2 := J.cur.pos
  refine ⟨?_, h2.2⟩
  rw [← h1]; rfl
theorem JI.fits {j : JourM} {d : DevM} {O : Nat → Bytes} {l : List Bytes} {prev : Option (Nat × List Bytes)} (J : JI j d O l prev) (hs : j.seq < 1000000000000) : j.fits d := by
  have h1 := J.len
  have h2 := J.cur.half1
  have h3 := J.cur.used
  exact ⟨J.room, hs, J.cur.h1, by rw [J.used]; exact h3, by omega⟩

theorem JI.append {j : JourM} {d : DevM} {O : Nat → Bytes} {l : List Bytes} {prev : Option (Nat × List Bytes)} (J : JI j d O l prev) (hseq : j.seq < 1000000000000) {text : Bytes} (ht : text.length ≤ 65536) (hr : secs text.length ≤ j.half - j.used) :
    ((j.append d text).2.2 = 0 ∧ JI (j.append d text).1 (j.append d text).2.1 O (l ++ [text]) (some (j.active, l)) ∧ (j.append d text).1.seq = j.seq + 1 ∧ (j.append d text).1.from' = j.from' ∧ (j.append d text).1.half = j.half ∧ (j.append d text).2.1.safe.length = d.safe.length) ∨
    ((j.append d text).2.2 = 41 ∧ (j.append d text).1.unfit = true ∧ (j.append d text).1.base = j.base ∧ (j.append d text).1.records = j.records ∧ (j.append d text).2.1.down = true ∧ Rec (j.append d text).2.1 j.from' j.half O (l :: prevTexts prev) j.seq) := by
  have cur := J.cur
  have hlen := J.len
  have hus := J.used
  have hul := cur.used
  have hma := Nat.mul_le_mul_right j.half cur.h1
  rw [Nat.one_mul] at hma
  have hsp := secs_pos text.length
  have hpl : j.place j.active j.used = j.from' + 4 + j.active * j.half + usedOf l := by unfold JourM.place; rw [hus]
  have e : j.append d text = (let p := j.puts d j.active j.used text (j.records.length + 2); bif p.2.2 then ({ p.1 with records := p.1.records ++ [text], used := p.1.used + secs text.length }, p.2.1, 0) else (p.1, p.2.1, 41)) := by
    unfold JourM.append
    rw [if_neg (by rw [J.fit]; simp), if_neg (by omega), if_neg (by omega)]
  have hp := J.puts (half' := j.active) (at' := j.used) (frames := j.records.length + 2) (text := text) cur.h1 (by omega) hseq (.inl (by omega)) (fun h' l' he => by
      have hold := J.hold
      subst he
      obtain ⟨_, _, ⟨q', hq', gk⟩, hle⟩ := hold
      have hu' := gk.used
      have h1' := gk.h1
      have h1a := cur.h1
      by_cases hh : h' = j.active
      · subst hh
        have := hle rfl
        exact .inl (by omega)
      · rcases Nat.lt_or_ge h' 1 with h0 | h0
        · have e0 : h' = 0 := by omega
          have e1 : j.active = 1 := by omega
          have hA : j.active * j.half = j.half := by rw [e1, Nat.one_mul]
          subst e0
          rw [Nat.zero_mul]
          exact .inl (by omega)
        · have e0 : h' = 1 := by omega
          have e1 : j.active = 0 := by omega
          have hA : j.active * j.half = 0 := by rw [e1, Nat.zero_mul]
          subst e0
          rw [Nat.one_mul]
          exact .inr (by omega)) (nl := l ++ [text]) (by simp) (by rw [usedOf_append]; simp [usedOf] at *; omega) (by simp; omega)
    (fun C' hC' hb => by
      refine Lies.snoc ht (cur.lies.congr fun b x y => (hC' b (by omega) (by omega)).symm) ⟨j.seq + 1, by omega, ?_⟩
      rw [← hpl]; exact hb)
  have hsame := puts_same j d j.active j.used text (j.records.length + 2)
  rw [e]
  generalize j.puts d j.active j.used text (j.records.length + 2) = r at *
  obtain ⟨j2, d2, ok⟩ := r
  dsimp only at hp hsame ⊢
  cases ok with
  | true =>
    left
    obtain ⟨p1, p2, p3, p4, p5, p6, p7, p8⟩ := hp.1 rfl
    subst p1
    refine ⟨rfl, ⟨p2, p3, by rw [cond_true]; show _ ≤ d2.safe.length; rw [p4]; exact J.room, J.fit, p5, ?_, ?_, ⟨rfl, p6, ⟨j.seq, rfl, p7⟩, fun _ => by rw [usedOf_append]; omega⟩, p8⟩, rfl, rfl, rfl, p4⟩
    · show j.base :: (j.records ++ [text]) = _
      rw [← J.texts]; rfl
    · show j.used + secs text.length = _
      rw [usedOf_append, hus]; simp [usedOf]
  | false =>
    right
    obtain ⟨p1, p2, p3⟩ := hp.2 rfl
    exact ⟨rfl, p1, hsame.2.2.2.1, hsame.2.2.2.2.1, p2, p3⟩

theorem JI.check1 {j : JourM} {d : DevM} {O : Nat → Bytes} {l : List Bytes} (J : JI j d O l none) (hseq : j.seq < 1000000000000) {text : Bytes} (ht : text.length ≤ 65536) (hr : secs text.length ≤ j.half) :
    ((j.check1 d text).2.2 = 0 ∧ JI (j.check1 d text).1 (j.check1 d text).2.1 O [text] (some (j.active, l)) ∧ (j.check1 d text).1.seq = j.seq + 1 ∧ (j.check1 d text).1.from' = j.from' ∧ (j.check1 d text).1.half = j.half ∧ (j.check1 d text).2.1.safe.length = d.safe.length) ∨
    ((j.check1 d text).2.2 = 41 ∧ (j.check1 d text).1.unfit = true ∧ (j.check1 d text).1.base = j.base ∧ (j.check1 d text).1.records = j.records ∧ (j.check1 d text).2.1.down = true ∧ Rec (j.check1 d text).2.1 j.from' j.half O [l] j.seq) := by
  have cur := J.cur
  have hul := cur.used
  have h1a := cur.h1
  have hpl : j.place (1 - j.active) 0 = j.from' + 4 + (1 - j.active) * j.half + 0 := rfl
  have hdis : j.from' + 4 + j.active * j.half + usedOf l ≤ j.place (1 - j.active) 0 ∨ j.place (1 - j.active) 0 + secs text.length ≤ j.from' + 4 + j.active * j.half := by
    rcases Nat.lt_or_ge j.active 1 with h0 | h0
    · have e0 : j.active = 0 := by omega
      rw [hpl, e0]; left; simp; omega
    · have e0 : j.active = 1 := by omega
      rw [hpl, e0]; right; simp; omega
  have hp := J.puts (half' := 1 - j.active) (at' := 0) (frames := 1) (text := text) (by omega) (by omega) hseq hdis (fun h' l' he => by cases he) (nl := [text]) (by simp) (by simp [usedOf]; omega) rfl
    (fun C' hC' hb => ⟨⟨j.seq + 1, by omega, by rw [hpl, Nat.add_zero] at hb; exact hb⟩, ht, trivial⟩)
  have hsame := puts_same j d (1 - j.active) 0 text 1
  unfold JourM.check1
  generalize j.puts d (1 - j.active) 0 text 1 = r at *
  obtain ⟨j2, d2, ok⟩ := r
  dsimp only at hp hsame ⊢
  cases ok with
  | true =>
    left
    obtain ⟨p1, p2, p3, p4, p5, p6, p7, p8⟩ := hp.1 rfl
    subst p1
    refine ⟨rfl, ⟨p2, p3, by rw [cond_true]; show _ ≤ d2.safe.length; rw [p4]; exact J.room, J.fit, p5, rfl, ?_, ⟨rfl, p6, ⟨j.seq, rfl, p7⟩, fun hh => ?_⟩, p8⟩, rfl, rfl, rfl, p4⟩
    · show secs text.length = _
      simp [usedOf]
    · have hh : j.active = 1 - j.active := hh
      omega
  | false =>
    right
    obtain ⟨p1, p2, p3⟩ := hp.2 rfl
    exact ⟨rfl, p1, hsame.2.2.2.1, hsame.2.2.2.2.1, p2, p3⟩

theorem Rec.more {d : DevM} {a half : Nat} {O : Nat → Bytes} {S S' : List (List Bytes)} {Q Q' : Nat} (h : Rec d a half O S Q) (hs : ∀ x ∈ S, x ∈ S') (hq : Q ≤ Q') : Rec d a half O S' Q' :=
  ⟨h.good, h.room, fun keep => let ⟨q, hh, l, h1, h2, h3⟩ := h.back keep; ⟨q, hh, l, hs l h1, Nat.le_trans h2 hq, h3⟩, h.out⟩

theorem JI.check {j : JourM} {d : DevM} {O : Nat → Bytes} {l : List Bytes} {prev : Option (Nat × List Bytes)} (J : JI j d O l prev) (hseq : j.seq < 1000000000000) {text : Bytes} (ht : text.length ≤ 65536) (hr : secs text.length ≤ j.half) :
    ((j.check d text).2.2 = 0 ∧ JI (j.check d text).1 (j.check d text).2.1 O [text] (some (j.active, l)) ∧ (j.check d text).1.seq = j.seq + 1 ∧ (j.check d text).1.from' = j.from' ∧ (j.check d text).1.half = j.half ∧ (j.check d text).2.1.safe.length = d.safe.length) ∨
    ((j.check d text).2.2 = 41 ∧ (j.check d text).1.unfit = true ∧ (j.check d text).1.base = j.base ∧ (j.check d text).1.records = j.records ∧ (j.check d text).2.1.down = true ∧ Rec (j.check d text).2.1 j.from' j.half O (l :: prevTexts prev) j.seq) := by
  have e : j.check d text = bif j.held then (bif d.oper then (j.flush d).check1 d.flush text else (j.flush d, d.flush, 41)) else j.check1 d text := by
    unfold JourM.check
    rw [if_neg (by rw [J.fit]; simp), if_neg (by omega), if_neg (by omega)]
  rw [e]
  have hold := J.hold
  cases prev with
  | none =>
    obtain ⟨h1, _⟩ := hold
    rw [h1, cond_false]
    rcases J.check1 hseq ht hr with h | ⟨a1, a2, a3, a4, a5, a6⟩
    · exact .inl h
    · exact .inr ⟨a1, a2, a3, a4, a5, a6⟩
  | some p =>
    obtain ⟨h', l'⟩ := p
    obtain ⟨h1, _⟩ := hold
    rw [h1, cond_true]
    have hf := J.flush
    cases ho : d.oper with
    | true =>
      rw [cond_true]
      have hfs := flush_size d
      rcases (hf.1 ho).check1 hseq ht hr with ⟨a1, a2, a3, a4, a5, a6⟩ | ⟨a1, a2, a3, a4, a5, a6⟩
      · exact .inl ⟨a1, a2, a3, a4, a5, a6.trans hfs.1⟩
      · exact .inr ⟨a1, a2, a3, a4, a5, a6.more (by simp) (Nat.le_refl _)⟩
    | false =>
      rw [cond_false]
      obtain ⟨b1, b2, b3⟩ := hf.2 ho
      exact .inr ⟨rfl, b2, rfl, rfl, b1, b3⟩

/-- a journal that was found -/
theorem JI.opened {d : DevM} {O : Nat → Bytes} {a half q h : Nat} {l : List Bytes} (hg : d.good) (hup : d.down = false) (ho : d.oper = true) (hr : a + 4 + 2 * half ≤ d.safe.length) (g : Good d.sector a half q h l) (hout : ∀ b, (b < a ∨ a + 4 + 2 * half ≤ b) → d.sector b = O b) :
    JI (openedJ a half (q, h, l.length) l) d.flush O l none := by
  have hs := fun b => flush_sector hg b
  have hf := flush_size d
  have hsec : d.flush.sector = d.sector := funext fun b => (hs b).1
  have hc : d.count.down = false := by unfold DevM.count; rw [ho]; exact hup
  refine ⟨hg.flush, by unfold DevM.flush; rw [ho]; exact (puts_flags _ _).1.trans hc, by rw [hf.1]; exact hr, rfl, by rw [hsec]; exact g, ?_, rfl, ⟨rfl, by rw [flush_held, ho]; rfl⟩, fun b hb => by rw [(hs b).1, (hs b).2, ho]; exact ⟨hout b hb, hout b hb⟩⟩
  have := g.some'
  cases l with
  | nil => exact absurd rfl this
  | cons x r => rfl

/-- A JOURNAL IS MADE. -/
theorem JI.make {d : DevM} (hg : d.good) (hc : d.calm) {O : Nat → Bytes} {a half : Nat} (hhalf : half ≤ 8192) {base : Bytes} (hm : d.held.length ≤ 999000) (hr : a + 4 + 2 * half ≤ d.safe.length) (ht : base.length ≤ 65536) (hb : secs base.length ≤ half) (hout : ∀ b, (b < a ∨ a + 4 + 2 * half ≤ b) → d.sector b = O b) :
    JI (JourM.make a half d base).1 (JourM.make a half d base).2 O [base] none ∧ (JourM.make a half d base).2.calm ∧ (JourM.make a half d base).1.seq = 1 ∧ (JourM.make a half d base).1.from' = a ∧ (JourM.make a half d base).1.half = half ∧ (JourM.make a half d base).2.safe.length = d.safe.length := by
  have hz := hg.wf.size
  have hl : (zeros 1024).length = 1024 := zeros_len _
  obtain ⟨k, w1, w2, w3, w4, wn, w5, w6, w7, w8⟩ := wr_spec hg (a := a) (data := zeros 1024) (by rw [hl]; omega) (by rw [hl]; omega)
  have hcw := hc.wr a (zeros 1024)
  have hk := w2 hcw.2
  rw [hl] at hk
  have hk : k = 2 := hk
  subst hk
  unfold JourM.make
  generalize (d.wr a (zeros 1024)).1 = d1 at *
  have c1 := hcw.1
  have hs1 := fun b => flush_sector w5 b
  have hf1 := flush_size d1
  have c2 := c1.flush
  have hh2 : d1.flush.held = [] := by rw [flush_held, c1.oper]; rfl
  -- the frame and the slot
  have hfl := frameB_len 1 base
  have hq : (frameB 1 base).length / 512 = secs base.length := by rw [hfl, Nat.mul_div_cancel _ (by decide)]
  have hsl := slotB_len 1 0 1
  have hsp := secs_pos base.length
  obtain ⟨k1, u1, u2, u3, u4, un, u5, u6, u7, u8⟩ := wr_spec w5.flush (a := a + 4) (data := frameB 1 base) (by rw [hh2, hq]; simp; omega) (by rw [hf1.1, w6, hq]; omega)
  have cw1 := c2.wr (a + 4) (frameB 1 base)
  have hk1 := u2 cw1.2
  rw [hq] at hk1
  subst hk1
  have hpl : ((JourM.new a half).flush d1).place 0 0 = a + 4 := by show a + 4 + 0 * half + 0 = _; omega
  have hpt : ((JourM.new a half).flush d1).puts d1.flush 0 0 base 1 = ({ ((JourM.new a half).flush d1).flush (d1.flush.wr (a + 4) (frameB 1 base)).1 with seq := 1, held := true }, ((d1.flush.wr (a + 4) (frameB 1 base)).1.flush.wr (a + 1) (slotB 1 0 1)).1, true) := by
    have e := puts_4 (j := (JourM.new a half).flush d1) (d := d1.flush) (half := 0) (at' := 0) (text := base) (frames := 1) (d1 := (d1.flush.wr (a + 4) (frameB 1 base)).1) (d3 := ((d1.flush.wr (a + 4) (frameB 1 base)).1.flush.wr (a + 1) (slotB 1 0 1)).1)
      (by rw [hpl]; exact Prod.ext rfl cw1.2) cw1.1.oper (Prod.ext rfl (cw1.1.flush.wr _ _).2)
    exact e
  dsimp only
  rw [hpt]
  dsimp only
  have c3 := cw1.1
  generalize (d1.flush.wr (a + 4) (frameB 1 base)).1 = d3 at *
  have hs3 := fun b => flush_sector u5 b
  have hf3 := flush_size d3
  have hh4 : d3.flush.held = [] := by rw [flush_held, c3.oper]; rfl
  have hq5 : (slotB 1 0 1).length / 512 = 1 := by rw [hsl]
  obtain ⟨k5, v1, v2, v3, v4, vn, v5, v6, v7, v8⟩ := wr_spec u5.flush (a := a + 1) (data := slotB 1 0 1) (by rw [hh4, hq5]; simp) (by rw [hf3.1, u6, hf1.1, w6, hq5]; omega)
  have cw5 := c3.flush.wr (a + 1) (slotB 1 0 1)
  have hk5 := v2 cw5.2
  rw [hq5] at hk5
  subst hk5
  have c5 := cw5.1
  generalize (d3.flush.wr (a + 1) (slotB 1 0 1)).1 = d5 at *
  have hs5 := fun b => flush_sector v5 b
  have hf5 := flush_size d5
  -- what is seen in the end
  have seen : ∀ b, d5.sector b = if b = a + 1 then slotB 1 0 1 else if a + 4 ≤ b ∧ b < a + 4 + secs base.length then sect (frameB 1 base) (b - (a + 4)) else if a ≤ b ∧ b < a + 2 then sect (zeros 1024) (b - a) else d.sector b := fun b => by
    rw [(v7 b).2]
    by_cases h1 : b = a + 1
    · subst h1; rw [if_pos ⟨Nat.le_refl _, by omega⟩, if_pos rfl, Nat.sub_self, sect_whole hsl]
    · rw [if_neg (by omega), if_neg h1, (hs3 b).1, (u7 b).2]
      by_cases h2 : a + 4 ≤ b ∧ b < a + 4 + secs base.length
      · rw [if_pos h2, if_pos h2]
      · rw [if_neg h2, if_neg h2, (hs1 b).1, (w7 b).2]
  have hz0 : sect (zeros 1024) 0 = zeros 512 := by
    unfold sect zeros; rw [Nat.zero_mul, List.drop_zero, Nat.zero_add, Nat.one_mul, List.take_replicate]; congr 1
  have hsec : d5.flush.sector = d5.sector := funext fun b => (hs5 b).1
  refine ⟨⟨v5.flush, c5.flush.up, by show _ ≤ d5.flush.safe.length; rw [hf5.1]; show _ ≤ d5.safe.length; rw [v6, hf3.1, u6, hf1.1, w6]; exact hr, ?_, ?_, rfl, ?_, ⟨?_, ?_⟩, fun b hb => ?_⟩, c5.flush, rfl, rfl, rfl, ?_⟩
  · simp [JourM.flush, JourM.new, c1.oper, c3.oper, c5.oper]
  · show Good d5.flush.sector a half 1 0 [base]
    rw [hsec]
    refine ⟨fun b => sector_len v5 b, by decide, by decide, by decide, hhalf, by simp, by simp [usedOf]; omega, ?_, ?_, ?_⟩
    · rw [seen, if_pos rfl]; rfl
    · rw [seen, if_neg (by omega), if_neg (by omega), if_pos ⟨by omega, by omega⟩, show a + (1 + 1) % 2 - a = 0 by omega, hz0]
      exact stale_zero (by decide)
    · refine ⟨⟨1, by decide, ?_⟩, ht, trivial⟩
      rw [show a + 4 + 0 * half = a + 4 by omega]
      have e : bytesAt d5.sector (a + 4) (secs base.length) = (frameB 1 base).take (secs base.length * 512) := by
        refine bytesAt_sect 512 rfl fun b x y => ?_
        rw [seen, if_neg (by omega), if_pos ⟨x, y⟩]; rfl
      rw [e, List.take_of_length_le (by rw [hfl]; exact Nat.le_refl _)]
  · show secs base.length = _
    simp [usedOf]
  · simp [JourM.flush, c5.oper]
  · show d5.flush.held = []
    rw [flush_held, c5.oper]; rfl
  · show d5.flush.kept b = O b ∧ d5.flush.sector b = O b
    have hb : b < a ∨ a + 4 + 2 * half ≤ b := hb
    rw [(hs5 b).1, (hs5 b).2, c5.oper]
    have : d5.sector b = O b := by rw [seen, if_neg (by omega), if_neg (by omega), if_neg (by omega)]; exact hout b hb
    exact ⟨this, this⟩
  · show d5.flush.safe.length = _
    rw [hf5.1]; show d5.safe.length = _; rw [v6, hf3.1, u6, hf1.1, w6]
end Go.V
