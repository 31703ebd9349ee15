/- Plain: what the journal's operations do to a journal on its device. -/
import Derived.Test.YtfdjmooifnmanaaDoorL2
namespace Go.V

/-- BEHIND EVERY CRASH it is one of these; what lies outside is untouched. -/
structure Rec (d : DevM) (a half : Nat) (O : Nat → Bytes) (S : List (List Bytes)) (Q : Nat) : Prop where
  good : d.good
  room : a + 4 + 2 * half ≤ d.safe.length
  back : ∀ keep, ∃ q h l, l ∈ S ∧ q ≤ Q ∧ Good (d.crash keep).sector a half q h l
  out : ∀ keep b, (b < a ∨ a + 4 + 2 * half ≤ b) → (d.crash keep).sector b = O b

/-- A JOURNAL OF THESE TEXTS; 'prev': the one ahead of it, while its slot is not safe. -/
structure JI (j : JourM) (d : DevM) (O : Nat → Bytes) (l : List Bytes) (prev : Option (Nat × List Bytes)) : Prop where
  good : d.good
  up : d.down = false
  room : j.from' + 4 + 2 * j.half ≤ d.safe.length
  fit : j.unfit = false
  cur : Good d.sector j.from' j.half j.seq j.active l
  texts : j.base :: j.records = l
  used : j.used = usedOf l
  hold : match prev with
    | none => j.held = false ∧ d.held = []
    | some (h', l') => j.held = true ∧ d.held = [(((j.from' + j.seq % 2 : Nat) : Int), slotB j.seq j.active l.length)] ∧ (∃ q', q' + 1 = j.seq ∧ Good d.kept j.from' j.half q' h' l') ∧ (h' = j.active → usedOf l' ≤ usedOf l)
  out : ∀ b, (b < j.from' ∨ j.from' + 4 + 2 * j.half ≤ b) → d.kept b = O b ∧ d.sector b = O b

def prevTexts : Option (Nat × List Bytes) → List (List Bytes)
  | none => []
  | some (_, l) => [l]

theorem torn_append {K : Nat → Bytes} {P R : List (Int × Bytes)} {keep : List Int} {b : Nat} (hb : ∀ x ∈ R, x.1.toNat ≠ b) : ∀ n, n ≤ (P ++ R).length → torn K (P ++ R) keep n b = torn K P keep (min n P.length) b
  | 0, _ => by rw [Nat.min_eq_left (Nat.zero_le _)]; rfl
  | n + 1, hn => by
    have ih := torn_append (K := K) (P := P) (keep := keep) hb n (by omega)
    rw [torn]
    by_cases h : n < P.length
    · have e : (P ++ R).getD n (0, []) = P.getD n (0, []) := by simp [List.getD, List.getElem?_append_left h]
      rw [e, ih, Nat.min_eq_left (by omega), Nat.min_eq_left (by omega), torn]
    · have hx : (P ++ R).getD n (0, []) ∈ R := by
        have hlt : n < (P ++ R).length := by omega
        have e : (P ++ R).getD n (0, []) = (P ++ R)[n] := by rw [List.getD_eq_getElem?_getD, List.getElem?_eq_getElem hlt]; rfl
        rw [e, List.getElem_append_right (by omega)]
        exact List.getElem_mem _
      rw [if_neg (fun e => hb _ hx e.symm), ih, Nat.min_eq_right (by omega), Nat.min_eq_right (by omega)]

theorem sector_len {d : DevM} (h : d.good) (b : Nat) : (d.sector b).length = 512 := h.wf.sector b
theorem kept_len {d : DevM} (h : d.good) (b : Nat) : (d.kept b).length = 512 := h.wf.kept b

/-- the crash of a device that holds, besides what it held, writes into a region that nobody needs -/
theorem JI.recov' {j : JourM} {d d' : DevM} {O : Nat → Bytes} {l : List Bytes} {prev : Option (Nat × List Bytes)} (J : JI j d O l prev) (hg : d'.good) (hs : d'.safe.length = d.safe.length) (hk : ∀ b, d'.kept b = d.kept b)
    {R : List (Int × Bytes)} (hh : d'.held = d.held ++ R) {p n : Nat} (hp : j.from' + 4 ≤ p) (hpn : p + n ≤ j.from' + 4 + 2 * j.half) (hR : ∀ x ∈ R, p ≤ x.1.toNat ∧ x.1.toNat < p + n)
    (h1 : j.from' + 4 + j.active * j.half + usedOf l ≤ p ∨ p + n ≤ j.from' + 4 + j.active * j.half)
    (h2 : ∀ h' l', prev = some (h', l') → j.from' + 4 + h' * j.half + usedOf l' ≤ p ∨ p + n ≤ j.from' + 4 + h' * j.half) :
    Rec d' j.from' j.half O (l :: prevTexts prev) j.seq := by
  have away : ∀ b, ¬ (p ≤ b ∧ b < p + n) → ∀ x ∈ R, x.1.toNat ≠ b := fun b hb x hx e => hb (e ▸ hR x hx)
  have hc := fun keep => crash_spec hg keep
  have key : ∀ keep b, ¬ (p ≤ b ∧ b < p + n) → (d'.crash keep).sector b = torn d.kept d.held keep d.held.length b := fun keep b hb => by
    rw [(hc keep).2.2.2.2.1 b, hh]
    rw [torn_append (away b hb) _ (Nat.le_refl _), Nat.min_eq_right (by simp)]
    have e : d'.kept = d.kept := funext hk
    rw [e]
  have hlen : ∀ keep b, ((d'.crash keep).sector b).length = 512 := fun keep b => sector_len (hc keep).1 b
  have cur := J.cur
  have hm := Nat.mul_le_mul_right j.half cur.h1
  rw [Nat.one_mul] at hm
  have hold := J.hold
  cases prev with
  | none =>
    obtain ⟨_, hheld⟩ := hold
    have same : ∀ b, d.sector b = d.kept b := fun b => J.good.same (by rw [hheld]; intro x hx; cases hx)
    have key2 : ∀ keep b, ¬ (p ≤ b ∧ b < p + n) → (d'.crash keep).sector b = d.sector b := fun keep b hb => by
      rw [key keep b hb, hheld]
      exact (same b).symm
    refine ⟨hg, by rw [hs]; exact J.room, fun keep => ⟨j.seq, j.active, l, by simp, Nat.le_refl _, ?_⟩, fun keep b hb => ?_⟩
    · exact cur.congr (hlen keep) (fun b x y => key2 keep b (by omega)) (fun b x y => key2 keep b (by omega))
    · rw [key2 keep b (by omega)]; exact (J.out b hb).2
  | some pr =>
    obtain ⟨h', l'⟩ := pr
    obtain ⟨_, hheld, ⟨q', hq', gk⟩, hle⟩ := hold
    have h2 := h2 h' l' rfl
    have hm2 := Nat.mul_le_mul_right j.half gk.h1
    rw [Nat.one_mul] at hm2
    have hb0 : ((j.from' + j.seq % 2 : Nat) : Int).toNat = j.from' + j.seq % 2 := by omega
    have same : ∀ b, b ≠ j.from' + j.seq % 2 → d.sector b = d.kept b := fun b hb => J.good.same (by
      rw [hheld]; intro x hx; simp at hx; subst hx; show ((j.from' + j.seq % 2 : Nat) : Int).toNat ≠ b; omega)
    have key2 : ∀ keep b, ¬ (p ≤ b ∧ b < p + n) → (d'.crash keep).sector b = if b = j.from' + j.seq % 2 then (slotB j.seq j.active l.length).take (keepAt keep 0) ++ (d.kept b).drop (keepAt keep 0) else d.kept b := fun keep b hb => by
      rw [key keep b hb, hheld]
      show (if b = ((j.from' + j.seq % 2 : Nat) : Int).toNat then _ else _) = _
      rw [hb0]; rfl
    have hst : Stale (d.kept (j.from' + j.seq % 2)) j.seq := by
      have := gk.stale
      rw [hq'] at this; exact this
    have hq2 := cur.q2
    refine ⟨hg, by rw [hs]; exact J.room, fun keep => ?_, fun keep b hb => ?_⟩
    · rcases torn_slot hst (h := j.active) (k := l.length) (by omega) (keepAt_le keep 0) with e | e
      · refine ⟨j.seq, j.active, l, by simp, Nat.le_refl _, ?_⟩
        have key3 : ∀ b, ¬ (p ≤ b ∧ b < p + n) → (d'.crash keep).sector b = d.sector b := fun b hb => by
          rw [key2 keep b hb]
          by_cases hb1 : b = j.from' + j.seq % 2
          · subst hb1; rw [if_pos rfl, e]; exact cur.slot.symm
          · rw [if_neg hb1]; exact (same b hb1).symm
        exact cur.congr (hlen keep) (fun b x y => key3 b (by omega)) (fun b x y => key3 b (by omega))
      · refine ⟨q', h', l', by simp [prevTexts], by omega, ?_⟩
        have e2 : (d'.crash keep).sector (j.from' + j.seq % 2) = (slotB j.seq j.active l.length).take (keepAt keep 0) ++ (d.kept (j.from' + j.seq % 2)).drop (keepAt keep 0) := by
          rw [key2 keep _ (by omega), if_pos rfl]
        have e3 : ∀ b, ¬ (p ≤ b ∧ b < p + n) → b ≠ j.from' + j.seq % 2 → (d'.crash keep).sector b = d.kept b := fun b hb hb1 => by rw [key2 keep b hb, if_neg hb1]
        refine ⟨hlen keep, gk.q1, gk.q2, gk.h1, gk.half1, gk.some', gk.used, ?_, ?_, ?_⟩
        · rw [e3 _ (by omega) (by omega)]; exact gk.slot
        · rw [hq', e2]; exact e
        · exact gk.lies.congr fun b x y => (e3 b (by omega) (by omega)).symm
    · rw [key2 keep b (by omega), if_neg (by omega)]; exact (J.out b hb).1
theorem JI.recov {j : JourM} {d : DevM} {O : Nat → Bytes} {l : List Bytes} {prev : Option (Nat × List Bytes)} (J : JI j d O l prev) : Rec d j.from' j.half O (l :: prevTexts prev) j.seq := by
  have hm := Nat.mul_le_mul_right j.half J.cur.h1
  rw [Nat.one_mul] at hm
  refine J.recov' J.good rfl (fun _ => rfl) (R := []) (by simp) (p := j.from' + 4 + 2 * j.half) (n := 0) (by omega) (by omega) (fun x hx => by cases hx) (.inl (by have := J.cur.used; omega)) (fun h' l' he => ?_)
  have hold := J.hold
  subst he
  obtain ⟨_, _, ⟨q', hq', gk⟩, _⟩ := hold
  have hm2 := Nat.mul_le_mul_right j.half gk.h1
  rw [Nat.one_mul] at hm2
  have := gk.used
  exact .inl (by omega)

/-- a flush: what is seen is safe -/
theorem JI.flush {j : JourM} {d : DevM} {O : Nat → Bytes} {l : List Bytes} {prev : Option (Nat × List Bytes)} (J : JI j d O l prev) :
    (d.oper = true → JI (j.flush d) d.flush O l none) ∧ (d.oper = false → d.flush.down = true ∧ (j.flush d).unfit = true ∧ Rec d.flush j.from' j.half O (l :: prevTexts prev) j.seq) := by
  have hs := fun b => flush_sector J.good b
  have hf := flush_size d
  constructor
  · intro ho
    have hsec : d.flush.sector = d.sector := funext fun b => (hs b).1
    refine ⟨J.good.flush, ?_, by rw [hf.1]; exact J.room, by simp [JourM.flush, J.fit, ho], ?_, J.texts, J.used, ⟨by simp [JourM.flush, ho], by rw [flush_held, ho]; rfl⟩, fun b hb => ?_⟩
    · have hc : d.count.down = false := by unfold DevM.count; rw [ho]; exact J.up
      unfold DevM.flush; rw [ho]
      exact (puts_flags _ _).1.trans hc
    · rw [hsec]; exact J.cur
    · rw [(hs b).1, (hs b).2, ho]; exact ⟨(J.out b hb).2, (J.out b hb).2⟩
  · intro ho
    have hfe : d.flush = d.count := by unfold DevM.flush; rw [ho]; rfl
    refine ⟨by rw [hfe]; exact oper_down ho, by simp [JourM.flush, ho], ?_⟩
    have hm := Nat.mul_le_mul_right j.half J.cur.h1
    rw [Nat.one_mul] at hm
    refine J.recov' J.good.flush hf.1 (fun b => by rw [(hs b).2, ho]; rfl) (R := []) (by rw [flush_held, ho]; simp) (p := j.from' + 4 + 2 * j.half) (n := 0) (by omega) (by omega) (fun x hx => by cases hx) (.inl (by have := J.cur.used; omega)) (fun h' l' he => ?_)
    have hold := J.hold
    subst he
    obtain ⟨_, _, ⟨q', hq', gk⟩, _⟩ := hold
    have hm2 := Nat.mul_le_mul_right j.half gk.h1
    rw [Nat.one_mul] at hm2
    have := gk.used
    exact .inl (by omega)

/-- a device that holds nothing back -/
theorem rec_flat {d : DevM} {a half : Nat} {O : Nat → Bytes} {S : List (List Bytes)} {Q q h : Nat} {l : List Bytes} (hg : d.good) (hr : a + 4 + 2 * half ≤ d.safe.length) (hh : d.held = []) (g : Good d.kept a half q h l) (hl : l ∈ S) (hq : q ≤ Q)
    (ho : ∀ b, (b < a ∨ a + 4 + 2 * half ≤ b) → d.kept b = O b) : Rec d a half O S Q := by
  have hc := fun keep => crash_spec hg keep
  have e : ∀ keep, (d.crash keep).sector = d.kept := fun keep => funext fun b => by rw [(hc keep).2.2.2.2.1 b, hh]; rfl
  exact ⟨hg, hr, fun keep => ⟨q, h, l, hl, hq, by rw [e]; exact g⟩, fun keep b hb => by rw [e]; exact ho b hb⟩

theorem sect_whole {s : Bytes} (h : s.length = 512) : sect s 0 = s := by
  unfold sect; rw [Nat.zero_mul, List.drop_zero, Nat.zero_add, Nat.one_mul, List.take_of_length_le (by omega)]

theorem JI.held_le {j : JourM} {d : DevM} {O : Nat → Bytes} {l : List Bytes} {prev : Option (Nat × List Bytes)} (J : JI j d O l prev) : d.held.length ≤ 1 := by
  have := J.hold
  cases prev with
  | none => rw [this.2]; exact Nat.zero_le _
  | some p => rw [this.2.1]; exact Nat.le_refl _

/-- A FRAME AND A SLOT ARE WRITTEN. -/
theorem JI.puts {j : JourM} {d : DevM} {O : Nat → Bytes} {l : List Bytes} {prev : Option (Nat × List Bytes)} (J : JI j d O l prev) {half' at' frames : Nat} {text : Bytes} (hh : half' ≤ 1) (hat : at' + secs text.length ≤ j.half) (hseq : j.seq < 1000000000000)
    (h1 : j.from' + 4 + j.active * j.half + usedOf l ≤ j.place half' at' ∨ j.place half' at' + secs text.length ≤ j.from' + 4 + j.active * j.half)
    (h2 : ∀ h' l', prev = some (h', l') → j.from' + 4 + h' * j.half + usedOf l' ≤ j.place half' at' ∨ j.place half' at' + secs text.length ≤ j.from' + 4 + h' * j.half)
    {nl : List Bytes} (n1 : nl ≠ []) (n2 : usedOf nl ≤ j.half) (n3 : frames = nl.length)
    (hnew : ∀ C' : Nat → Bytes, (∀ b, j.from' + 4 ≤ b → ¬ (j.place half' at' ≤ b ∧ b < j.place half' at' + secs text.length) → C' b = d.sector b) → bytesAt C' (j.place half' at') (secs text.length) = frameB (j.seq + 1) text → Lies C' (j.from' + 4 + half' * j.half) nl) :
    ((j.puts d half' at' text frames).2.2 = true → (j.puts d half' at' text frames).1 = { j with seq := j.seq + 1, held := true } ∧ (j.puts d half' at' text frames).2.1.good ∧ (j.puts d half' at' text frames).2.1.down = false ∧ (j.puts d half' at' text frames).2.1.safe.length = d.safe.length ∧
      Good (j.puts d half' at' text frames).2.1.sector j.from' j.half (j.seq + 1) half' nl ∧ (j.puts d half' at' text frames).2.1.held = [(((j.from' + (j.seq + 1) % 2 : Nat) : Int), slotB (j.seq + 1) half' nl.length)] ∧
      Good (j.puts d half' at' text frames).2.1.kept j.from' j.half j.seq j.active l ∧ ∀ b, (b < j.from' ∨ j.from' + 4 + 2 * j.half ≤ b) → (j.puts d half' at' text frames).2.1.kept b = O b ∧ (j.puts d half' at' text frames).2.1.sector b = O b) ∧
    ((j.puts d half' at' text frames).2.2 = false → (j.puts d half' at' text frames).1.unfit = true ∧ (j.puts d half' at' text frames).2.1.down = true ∧ Rec (j.puts d half' at' text frames).2.1 j.from' j.half O (l :: prevTexts prev) j.seq) := by
  have cur := J.cur
  have hr := J.room
  have hz := J.good.wf.size
  have hhl := J.held_le
  have hm := Nat.mul_le_mul_right j.half hh
  have hma := Nat.mul_le_mul_right j.half cur.h1
  rw [Nat.one_mul] at hm hma
  have hfl := frameB_len (j.seq + 1) text
  have hq : (frameB (j.seq + 1) text).length / 512 = secs text.length := by rw [hfl, Nat.mul_div_cancel _ (by decide)]
  have hsl := slotB_len (j.seq + 1) half' frames
  have hpl : j.place half' at' = j.from' + 4 + half' * j.half + at' := rfl
  obtain ⟨k, w1, w2, w3, w4, w5, w6, w7, w8, w9⟩ := wr_spec J.good (a := j.place half' at') (data := frameB (j.seq + 1) text) (by omega) (by omega)
  rw [hq] at w1 w2
  have hR : ∀ x ∈ (List.range k).map (fun i => (((j.place half' at' + i : Nat) : Int), sect (frameB (j.seq + 1) text) i)), j.place half' at' ≤ x.1.toNat ∧ x.1.toNat < j.place half' at' + secs text.length := by
    intro x hx
    obtain ⟨i, hi, rfl⟩ := List.mem_map.1 hx
    have := List.mem_range.1 hi
    show _ ≤ Int.toNat ((j.place half' at' + i : Nat) : Int) ∧ Int.toNat ((j.place half' at' + i : Nat) : Int) < _
    omega
  cases hp1 : d.wr (j.place half' at') (frameB (j.seq + 1) text) with
  | mk d1 ok1 =>
  rw [hp1] at w2 w3 w4 w5 w6 w7 w8 w9
  dsimp only at w2 w3 w4 w5 w6 w7 w8 w9
  cases ok1 with
  | false =>
    rw [puts_1 hp1]
    refine ⟨fun h => (by cases h), fun _ => ⟨rfl, w3 rfl, ?_⟩⟩
    exact J.recov' w6 w7 (fun b => (w8 b).1) w9 (by omega) (by omega) hR h1 h2
  | true =>
    have hk := w2 rfl
    subst hk
    have hs1 := fun b => flush_sector w6 b
    have hf1 := flush_size d1
    cases ho : d1.oper with
    | false =>
      rw [puts_2 hp1 ho]
      refine ⟨fun h => (by cases h), fun _ => ⟨by simp [JourM.flush, ho], ?_, ?_⟩⟩
      · show d1.flush.down = true
        unfold DevM.flush; rw [ho]; exact oper_down ho
      · exact J.recov' w6.flush (by rw [hf1.1]; exact w7) (fun b => by rw [(hs1 b).2, ho]; exact (w8 b).1) (by rw [flush_held, ho]; exact w9) (by omega) (by omega) hR h1 h2
    | true =>
      have hup1 : d1.down = false := w4 rfl
      have hup2 : d1.flush.down = false := by
        have hc : d1.count.down = false := by unfold DevM.count; rw [ho]; exact hup1
        unfold DevM.flush; rw [ho]; exact (puts_flags _ _).1.trans hc
      have hh2 : d1.flush.held = [] := by rw [flush_held, ho]; rfl
      have hk2 : ∀ b, d1.flush.kept b = d1.sector b := fun b => by rw [(hs1 b).2, ho]; rfl
      -- what is seen outside the frame
      have hout : ∀ b, ¬ (j.place half' at' ≤ b ∧ b < j.place half' at' + secs text.length) → d1.sector b = d.sector b := fun b hb => by rw [(w8 b).2, if_neg hb]
      have g1 : Good d1.sector j.from' j.half j.seq j.active l := cur.congr (fun b => sector_len w6 b) (fun b x y => hout b (by omega)) (fun b x y => hout b (by omega))
      have g2 : Good d1.flush.kept j.from' j.half j.seq j.active l := by
        have : d1.flush.kept = d1.sector := funext hk2
        rw [this]; exact g1
      have hq3 : (slotB (j.seq + 1) half' frames).length / 512 = 1 := by rw [hsl]
      obtain ⟨k3, v1, v2, v3, v4, v5, v6, v7, v8, v9⟩ := wr_spec w6.flush (a := j.from' + (j.seq + 1) % 2) (data := slotB (j.seq + 1) half' frames) (by rw [hh2]; simp [hq3]) (by rw [hf1.1]; omega)
      rw [hq3] at v1 v2 v5
      cases hp3 : d1.flush.wr (j.from' + (j.seq + 1) % 2) (slotB (j.seq + 1) half' frames) with
      | mk d3 ok3 =>
      rw [hp3] at v2 v3 v4 v5 v6 v7 v8 v9
      dsimp only at v2 v3 v4 v5 v6 v7 v8 v9
      cases ok3 with
      | false =>
        rw [puts_3 hp1 ho hp3]
        have hk3 : k3 = 0 := by have := v5 rfl hup2; omega
        subst hk3
        refine ⟨fun h => (by cases h), fun _ => ⟨rfl, v3 rfl, ?_⟩⟩
        refine rec_flat (q := j.seq) (h := j.active) (l := l) v6 (by show _ ≤ d3.safe.length; omega) (by show d3.held = []; rw [v9, hh2]; rfl) ?_ (by simp) (Nat.le_refl _) (fun b hb => ?_)
        · have : d3.kept = d1.flush.kept := funext fun b => (v8 b).1
          show Good d3.kept _ _ _ _ _
          rw [this]; exact g2
        · show d3.kept b = O b
          rw [(v8 b).1, hk2, hout b (by omega)]; exact (J.out b hb).2
      | true =>
        rw [puts_4 hp1 ho hp3]
        have hk3 : k3 = 1 := v2 rfl
        subst hk3
        have hsw := sect_whole hsl
        have hs3 : ∀ b, d3.sector b = if b = j.from' + (j.seq + 1) % 2 then slotB (j.seq + 1) half' frames else d1.sector b := fun b => by
          rw [(v8 b).2]
          by_cases hb : b = j.from' + (j.seq + 1) % 2
          · subst hb; rw [if_pos ⟨Nat.le_refl _, by omega⟩, if_pos rfl, Nat.sub_self, hsw]
          · rw [if_neg (by omega), if_neg hb, (hs1 b).1]
        refine ⟨fun _ => ⟨?_, v6, v4 rfl, by show d3.safe.length = _; omega, ?_, ?_, ?_, fun b hb => ?_⟩, fun h => (by cases h)⟩
        · show { j.flush d1 with seq := j.seq + 1, held := true } = _
          simp [JourM.flush, ho]
        · refine ⟨fun b => sector_len v6 b, by omega, by omega, hh, cur.half1, n1, n2, ?_, ?_, ?_⟩
          · show d3.sector _ = _
            rw [hs3, if_pos rfl, n3]
          · show Stale (d3.sector _) _
            rw [hs3, if_neg (by omega), hout _ (by omega), show (j.seq + 1 + 1) % 2 = j.seq % 2 by omega, cur.slot]
            exact stale_slot (by omega) (by omega)
          · refine hnew _ (fun b x y => ?_) ?_
            · show d3.sector b = _
              rw [hs3, if_neg (by omega), hout b y]
            · have e : bytesAt d3.sector (j.place half' at') (secs text.length) = (frameB (j.seq + 1) text).take (secs text.length * 512) := by
                refine bytesAt_sect 512 rfl fun b x y => ?_
                rw [hs3, if_neg (by omega), (w8 b).2, if_pos ⟨x, y⟩]; rfl
              show bytesAt d3.sector _ _ = _
              rw [e, List.take_of_length_le (by rw [hfl]; exact Nat.le_refl _)]
        · show d3.held = _
          rw [v9, hh2, n3]
          show [(((j.from' + (j.seq + 1) % 2 + 0 : Nat) : Int), sect (slotB (j.seq + 1) half' nl.length) 0)] = _
          rw [Nat.add_zero, sect_whole (slotB_len _ _ _)]
        · have : d3.kept = d1.flush.kept := funext fun b => (v8 b).1
          show Good d3.kept _ _ _ _ _
          rw [this]; exact g2
        · show d3.kept b = O b ∧ d3.sector b = O b
          rw [(v8 b).1, hk2, hs3, if_neg (by omega), hout b (by omega)]
          exact ⟨(J.out b hb).2, (J.out b hb).2⟩
end Go.V
