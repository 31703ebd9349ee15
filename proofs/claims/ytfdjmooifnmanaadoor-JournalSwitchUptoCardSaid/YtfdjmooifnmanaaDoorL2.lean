/- Plain: what a journal is on its device; what a crash leaves of it. -/
import Derived.Test.YtfdjmooifnmanaaDoorL1
namespace Go.V

/-- the bytes of some sectors -/
def bytesAt (C : Nat → Bytes) (a : Nat) : Nat → Bytes
  | 0 => []
  | n + 1 => bytesAt C a n ++ C (a + n)
theorem bytes_eq (m : DevM) (a : Nat) : ∀ n, m.bytes a n = bytesAt m.sector a n
  | 0 => rfl
  | n + 1 => by rw [DevM.bytes, bytesAt, bytes_eq m a n]
theorem bytesAt_congr {C C' : Nat → Bytes} {a : Nat} : ∀ {n : Nat}, (∀ b, a ≤ b → b < a + n → C b = C' b) → bytesAt C a n = bytesAt C' a n
  | 0, _ => rfl
  | n + 1, h => by rw [bytesAt, bytesAt, bytesAt_congr (fun b h1 h2 => h b h1 (by omega)), h (a + n) (by omega) (by omega)]
theorem bytesAt_add (C : Nat → Bytes) (a n : Nat) : ∀ m, bytesAt C a (n + m) = bytesAt C a n ++ bytesAt C (a + n) m
  | 0 => by simp [bytesAt]
  | m + 1 => by rw [← Nat.add_assoc, bytesAt, bytesAt_add C a n m, bytesAt, List.append_assoc, Nat.add_assoc]
theorem bytesAt_len {C : Nat → Bytes} {a : Nat} (h : ∀ b, (C b).length = 512) : ∀ n, (bytesAt C a n).length = n * 512
  | 0 => rfl
  | n + 1 => by rw [bytesAt, List.length_append, bytesAt_len h n, h]; omega
/-- sectors of a text, put together -/
theorem take_sect (data : Bytes) {v u : Nat} (h : v ≤ u) : data.take v ++ (data.take u).drop v = data.take u := by
  have e : (data.take u).take v = data.take v := by rw [List.take_take, Nat.min_eq_left h]
  rw [← e, List.take_append_drop]
theorem bytesAt_sect {C : Nat → Bytes} {a : Nat} {data : Bytes} (n : Nat) (_hn : n = 512) {k : Nat} (h : ∀ b, a ≤ b → b < a + k → C b = (data.take ((b - a + 1) * n)).drop ((b - a) * n)) : bytesAt C a k = data.take (k * n) := by
  induction k with
  | zero => rw [Nat.zero_mul, List.take_zero]; rfl
  | succ k ih =>
    rw [bytesAt, ih (fun b h1 h2 => h b h1 (by omega)), h (a + k) (by omega) (by omega), Nat.add_sub_cancel_left]
    exact take_sect data (Nat.mul_le_mul_right _ (by omega))

theorem secs_pos (n : Nat) : 1 ≤ secs n := by unfold secs; omega
theorem usedOf_ge (l : List Bytes) : l.length ≤ usedOf l := by
  induction l with
  | nil => exact Nat.zero_le _
  | cons t r ih => have := secs_pos t.length; simp only [usedOf, List.map_cons, List.sum_cons, List.length_cons] at *; omega

/-- frames of these texts lie there, one behind the other -/
def Lies (C : Nat → Bytes) (a : Nat) : List Bytes → Prop
  | [] => True
  | t :: r => (∃ n, n < 18446744073709551616 ∧ bytesAt C a (secs t.length) = frameB n t) ∧ t.length ≤ 65536 ∧ Lies C (a + secs t.length) r
theorem usedOf_cons (t : Bytes) (r : List Bytes) : usedOf (t :: r) = secs t.length + usedOf r := by simp [usedOf]
theorem Lies.congr {C C' : Nat → Bytes} : ∀ {l : List Bytes} {a : Nat}, (∀ b, a ≤ b → b < a + usedOf l → C b = C' b) → Lies C a l → Lies C' a l
  | [], _, _, _ => trivial
  | t :: r, a, h, ⟨⟨n, hn, he⟩, ht, hr⟩ => by
    rw [usedOf_cons] at h
    exact ⟨⟨n, hn, by rw [← he]; exact (bytesAt_congr fun b h1 h2 => h b h1 (by omega)).symm⟩, ht, hr.congr fun b h1 h2 => h b (by omega) (by omega)⟩
theorem Lies.snoc {C : Nat → Bytes} {t : Bytes} (ht : t.length ≤ 65536) : ∀ {l : List Bytes} {a : Nat}, Lies C a l → (∃ n, n < 18446744073709551616 ∧ bytesAt C (a + usedOf l) (secs t.length) = frameB n t) → Lies C a (l ++ [t])
  | [], a, _, h => ⟨by simpa [usedOf] using h, ht, trivial⟩
  | x :: r, a, ⟨h1, h2, h3⟩, h => by
    refine ⟨h1, h2, h3.snoc ht ?_⟩
    rw [usedOf_cons, ← Nat.add_assoc] at h
    exact h
theorem Lies.frames {C : Nat → Bytes} (hC : ∀ b, (C b).length = 512) : ∀ {l : List Bytes} {a n : Nat}, Lies C a l → usedOf l ≤ n → framesIn (bytesAt C a n) l
  | [], _, _, _, _ => trivial
  | t :: r, a, n, ⟨⟨m, hm, he⟩, ht, hr⟩, hn => by
    rw [usedOf_cons] at hn
    have e : bytesAt C a n = frameB m t ++ bytesAt C (a + secs t.length) (n - secs t.length) := by
      rw [← he, ← bytesAt_add]; congr 1; omega
    rw [e]
    refine ⟨⟨m, hm, frameAt m t _ hm (by omega)⟩, ht, ?_⟩
    rw [List.drop_append, List.drop_of_length_le (by rw [frameB_len]; omega), List.nil_append, frameB_len, Nat.sub_self, List.drop_zero]
    exact hr.frames hC (by omega)

/-- A JOURNAL OF THESE TEXTS STANDS THERE: its number, its half. -/
structure Good (C : Nat → Bytes) (a half q h : Nat) (l : List Bytes) : Prop where
  len : ∀ b, (C b).length = 512
  q1 : 1 ≤ q
  q2 : q < 1000000000001
  h1 : h ≤ 1
  half1 : half ≤ 8192
  some' : l ≠ []
  used : usedOf l ≤ half
  slot : C (a + q % 2) = slotB q h l.length
  stale : Stale (C (a + (q + 1) % 2)) (q + 1)
  lies : Lies C (a + 4 + h * half) l
theorem Good.pos {C : Nat → Bytes} {a half q h : Nat} {l : List Bytes} (g : Good C a half q h l) : 1 ≤ l.length ∧ l.length ≤ half := by
  refine ⟨?_, Nat.le_trans (usedOf_ge l) g.used⟩
  have := g.some'
  cases l with
  | nil => exact absurd rfl this
  | cons => simp
theorem Good.congr {C C' : Nat → Bytes} {a half q h : Nat} {l : List Bytes} (g : Good C a half q h l) (hl : ∀ b, (C' b).length = 512) (h0 : ∀ b, a ≤ b → b < a + 2 → C' b = C b)
    (h1 : ∀ b, a + 4 + h * half ≤ b → b < a + 4 + h * half + usedOf l → C' b = C b) : Good C' a half q h l :=
  ⟨hl, g.q1, g.q2, g.h1, g.half1, g.some', g.used, by rw [h0 _ (by omega) (by omega)]; exact g.slot, by rw [h0 _ (by omega) (by omega)]; exact g.stale, g.lies.congr fun b x y => (h1 b x y).symm⟩

/-- it is found -/
theorem Good.best {d : DevM} {a half q h : Nat} {l : List Bytes} (g : Good d.sector a half q h l) : d.best a half 2 = (q, h, l.length) := by
  have hp := g.pos
  have hs := slotRead_slot (q := q) (h := h) (k := l.length) (half := half) (by have := g.q2; omega) g.h1 hp.1 hp.2 g.half1
  have hst := g.stale.read (half := half) (by omega)
  have hq1 := g.q1
  have e2 : d.best a half 2 = best1 (best1 (0, 0, 0) 0 (slotRead (d.sector (a + 0)) half)) 1 (slotRead (d.sector (a + 1)) half) := rfl
  have sl := g.slot
  rw [e2]
  rcases Nat.mod_two_eq_zero_or_one q with hm | hm
  · rw [hm] at sl
    rw [show (q + 1) % 2 = 1 by omega] at hst
    rw [sl, hs]
    have b1 : best1 (0, 0, 0) 0 (q, h, l.length) = (q, h, l.length) := best1_yes ⟨by show 0 < q; omega, hm⟩
    rw [b1]
    apply best1_no
    rintro ⟨h1, h2⟩
    have h1 : q < (slotRead (d.sector (a + 1)) half).1 := h1
    omega
  · rw [hm] at sl
    rw [show (q + 1) % 2 = 0 by omega] at hst
    rw [sl, hs]
    apply best1_yes
    refine ⟨?_, hm⟩
    show (best1 (0, 0, 0) 0 (slotRead (d.sector (a + 0)) half)).1 < q
    unfold best1
    split
    · rename_i hc
      have := hc.2
      omega
    · show 0 < q; omega
theorem Good.frames {d : DevM} {a half q h : Nat} {l : List Bytes} (g : Good d.sector a half q h l) : framesIn (d.bytes (a + 4 + h * half) half) l := by
  rw [bytes_eq]; exact g.lies.frames g.len g.used
end Go.V
