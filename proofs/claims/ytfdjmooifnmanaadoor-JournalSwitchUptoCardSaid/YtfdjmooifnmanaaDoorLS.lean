/- Contract of JournalSwitch. -/
import Derived.Test.YtfdjmooifnmanaaDoorLT
namespace Go.V

theorem JI.arm {j : JourM} {d : DevM} {O : Nat → Bytes} {l : List Bytes} {prev : Option (Nat × List Bytes)} (J : JI j d O l prev) (n : Int) : JI j { d with armed := true, left := n } O l prev :=
  ⟨⟨⟨J.good.wf.size, J.good.wf.now, J.good.wf.safe', J.good.wf.now', J.good.wf.held, J.good.wf.many⟩, J.good.seen⟩, J.up, J.room, J.fit, J.cur, J.texts, J.used, J.hold, J.out⟩

def oldB : Bytes := [111, 108, 100]
/-- what JournalSwitch's journal holds -/
structure Sw (O : Nat → Bytes) (l : List Bytes) (i : Nat) (j : JourM) (d : DevM) : Prop where
  ji : ∃ prev, JI j d O (oldB :: (l.take i).drop 1) prev
  calm : d.calm
  seq : j.seq ≤ i
  half : j.half = 97
  at' : j.from' = 2
  used : j.used ≤ 3 * i
theorem secs_1500 {n : Nat} (h : n ≤ 1500) : secs n ≤ 3 := by unfold secs; omega
theorem Sw.step {O : Nat → Bytes} {l : List Bytes} {i : Nat} {j : JourM} {d : DevM} (W : Sw O l i j d) {t : Bytes} (hi : 1 ≤ i) (h8 : i < 8) (ht : l[i]? = some t) (h : t.length ≤ 1500) : (j.append d t).2.2 = 0 ∧ Sw O l (i + 1) (j.append d t).1 (j.append d t).2.1 := by
  obtain ⟨⟨prev, J⟩, hc, hq, hh, hf, hu⟩ := W
  have hs := secs_1500 h
  have hu0 := J.used
  obtain ⟨h1, h2, h3, h4, h5, _, h7⟩ := J.append_calm hc (by omega) (text := t) (by omega) (by rw [hh]; omega)
  have e : (l.take (i + 1)).drop 1 = (l.take i).drop 1 ++ [t] := by
    rw [take_next ht, List.drop_append_of_le_length]
    have := (List.getElem?_eq_some_iff.1 ht).1
    simp; omega
  refine ⟨h1, ⟨⟨_, by rw [e]; exact h2⟩, h7, by omega, by omega, by omega, ?_⟩⟩
  rw [h2.used, usedOf_append, ← hu0]; simp [usedOf]; omega

section
variable {G : Glob}
theorem law_JournalSwitch (hG : Globs G) (l : List Bytes) (n : Int) (keep : List Int) (hl : l.length ≤ 1048576) (hx : ∀ x ∈ l, x.length ≤ 1048576) (hk : keep.length ≤ 1048576) : Fun prog G f_headgatelaw06_JournalSwitch [roStrs l, .int .i64 n, roInts keep] [] (.bool true) [] := by
  refine .of (mk_headgatelaw06_JournalSwitch rfl ⟨?_⟩)
  by_cases hl1 : l.length < 1
  · (refine V0 ?_; repeat (refine VHyp.go (fun _ => ?_); refine V0 ?_))
    refine (law_wakes hG).call [] ?_
    (refine V0 ?_; repeat (refine VHyp.go (fun _ => ?_); refine V0 ?_))
    exact .fin []
  by_cases hl8 : 8 < l.length
  · (refine V0 ?_; repeat (refine VHyp.go (fun _ => ?_); refine V0 ?_))
    refine (law_wakes hG).call [] ?_
    (refine V0 ?_; repeat (refine VHyp.go (fun _ => ?_); refine V0 ?_))
    exact .fin []
  (refine V0 ?_; repeat (refine VHyp.go (fun _ => ?_); refine V0 ?_))
  refine (dev_New 200 (by decide) (by decide)).call [] ?_
  have hg := new_good 200 (by decide)
  have hc := new_calm 200
  have hz := new_size 200
  have hh : (DevM.new 200).held.length ≤ 999000 := Nat.zero_le _
  generalize DevM.new 200 = d0 at *
  (refine V0 ?_; repeat (refine VHyp.go (fun _ => ?_); refine V0 ?_))
  have s0 : secs oldB.length = 1 := rfl
  refine (jour_Format hG d0 hg.wf hc hh 2 198 (by decide) (by omega) oldB (by decide) (by decide)).call [0] ?_
  obtain ⟨J, c1, q1, f1, h1, z1⟩ := JI.make hg hc (O := d0.sector) (a := 2) (half := (198 - 4) / 2) (by decide) (base := oldB) hh (by omega) (by decide) (by decide) (fun b _ => rfl)
  have F : Sw d0.sector l 1 (JourM.make 2 ((198 - 4) / 2) d0 oldB).1 (JourM.make 2 ((198 - 4) / 2) d0 oldB).2 := ⟨⟨_, by
    have : (l.take 1).drop 1 = [] := by simp [List.drop_take]
    rw [this]; exact J⟩, c1, by omega, h1, f1, by rw [J.used]; decide⟩
  generalize JourM.make 2 ((198 - 4) / 2) d0 oldB = p at *
  obtain ⟨j1, d1⟩ := p
  dsimp only at *
  (refine V0 ?_; repeat (refine VHyp.go (fun _ => ?_); refine V0 ?_))
  refine VLoop.on (fun x : Nat × JourM × DevM => 1 ≤ x.1 ∧ x.1 ≤ l.length ∧ Sw d0.sector l x.1 x.2.1 x.2.2) (fun x => [(0, roStrs l), (1, .int .i64 n), (2, roInts keep), (7, .ptr 0 0), (9, .ptr 1 0), (11, .int .i64 x.1)]) (fun x => [devO x.2.2, jourO 0 x.2.1]) (fun x => l.length - x.1) (1, j1, d1) ⟨Nat.le_refl _, by omega, F⟩ (VGo.eq [0, 1]) ?_
  rintro x ⟨hx1, hxl, W⟩
  by_cases hxn : x.1 < l.length
  · have hget : l[x.1]? = some (l.getD (Int.toNat (x.1 : Int)) []) := by simp [hxn]
    have hmem : (l.getD (Int.toNat (x.1 : Int)) []).length ≤ 1048576 := hx _ (List.mem_of_getElem? hget)
    by_cases h15 : 1500 < (l.getD (Int.toNat (x.1 : Int)) []).length
    · (refine V0 ?_; repeat (refine VHyp.go (fun _ => ?_); refine V0 ?_))
      refine (law_wakes hG).call [] ?_
      (refine V0 ?_; repeat (refine VHyp.go (fun _ => ?_); refine V0 ?_))
      exact .fin []
    obtain ⟨t1, W2⟩ := W.step hx1 (by omega) hget (by omega)
    obtain ⟨⟨prev, J⟩, _, hsq, _, _, _⟩ := W
    (refine V0 ?_; repeat (refine VHyp.go (fun _ => ?_); refine V0 ?_))
    refine (jour_Append hG x.2.1 x.2.2 J.good.wf (J.fits (by omega)) (by have := J.held_le; omega) (l.getD (Int.toNat (x.1 : Int)) []) (by omega)).call [1, 0] ?_
    rw [t1]
    (refine V0 ?_; repeat (refine VHyp.go (fun _ => ?_); refine V0 ?_))
    exact ⟨⟨(x.1 + 1, (x.2.1.append x.2.2 (l.getD (Int.toNat (x.1 : Int)) [])).1, (x.2.1.append x.2.2 (l.getD (Int.toNat (x.1 : Int)) [])).2.1), by dsimp only; omega, by dsimp only; omega, W2⟩, by dsimp only; omega, VGo.eq [0, 1]⟩
  have ex : x.1 = l.length := by omega
  have hget : l[0]? = some (l.getD (Int.toNat 0) []) := by simp [show 0 < l.length by omega]
  have hmem : (l.getD (Int.toNat 0) []).length ≤ 1048576 := hx _ (List.mem_of_getElem? hget)
  by_cases h15 : 1500 < (l.getD (Int.toNat 0) []).length
  · (refine V0 ?_; repeat (refine VHyp.go (fun _ => ?_); refine V0 ?_))
    refine (law_wakes hG).call [] ?_
    (refine V0 ?_; repeat (refine VHyp.go (fun _ => ?_); refine V0 ?_))
    exact .fin []
  obtain ⟨⟨prev, J⟩, c, hsq, hhf, hat, _⟩ := W
  rw [ex, List.take_length] at J
  (refine V0 ?_; repeat (refine VHyp.go (fun _ => ?_); refine V0 ?_))
  refine (jour_Sync x.2.1 x.2.2 J.good.wf).call [1, 0] ?_
  rw [J.sync]
  dsimp only
  have J3 := J.flush.1 c.oper
  have hh3 : (x.2.1.flush x.2.2).half = 97 := hhf
  have hf3 : (x.2.1.flush x.2.2).from' = 2 := hat
  have hq3 : (x.2.1.flush x.2.2).seq ≤ l.length := by show x.2.1.seq ≤ _; omega
  rw [c.oper]
  generalize x.2.1.flush x.2.2 = j3 at *
  generalize x.2.2.flush = d3 at *
  (refine V0 ?_; repeat (refine VHyp.go (fun _ => ?_); refine V0 ?_))
  refine (keep_Mod n 20 (by decide) (by decide)).call [] ?_
  have hm := modK_lt n (n := 20) (by decide)
  (refine V0 ?_; repeat (refine VHyp.go (fun _ => ?_); refine V0 ?_))
  refine (dev_Arm d3 (modK n 20)).call [0] ?_
  have J4 := J3.arm (max (modK n 20) 0)
  generalize hd4 : ({ d3 with armed := true, left := max (modK n 20) 0 } : DevM) = d4 at *
  (refine V0 ?_; repeat (refine VHyp.go (fun _ => ?_); refine V0 ?_))
  have hs := secs_1500 (show (l.getD (Int.toNat 0) []).length ≤ 1500 by omega)
  have hC := J4.check (by omega) (text := l.getD (Int.toNat 0) []) (by omega) (by rw [hh3]; omega)
  refine (jour_Checkpoint hG j3 d4 J4.good.wf (J4.fits (by omega)) (by have := J4.held_le; omega) (l.getD (Int.toNat 0) []) (by omega)).call [1, 0] ?_
  rw [hh3, hf3] at hC
  generalize j3.check d4 (l.getD (Int.toNat 0) []) = p at *
  obtain ⟨j5, d5, e5⟩ := p
  dsimp only at hC ⊢
  rcases hC with ⟨r1, J5, _, f5, h5, _⟩ | ⟨r1, _, _, _, _, R⟩
  case' inl =>
    subst r1
    (refine V0 ?_; repeat (refine VHyp.go (fun _ => ?_); refine V0 ?_))
    refine (jour_Sync j5 d5 J5.good.wf).call [1, 0] ?_
    rw [J5.sync]
    dsimp only
    have hf := J5.flush
    cases ho : d5.oper
    case' true =>
      have R := (hf.1 ho).recov
      have h5 : (j5.flush d5).half = 97 := h5
      have f5 : (j5.flush d5).from' = 2 := f5
      rw [h5, f5] at R
      have hS : ∀ x ∈ [l.getD (Int.toNat 0) []] :: prevTexts none, x = [l.getD (Int.toNat 0) []] ∨ (x = oldB :: l.drop 1 ∧ ¬ (0 : Int) = 0) := fun x hx => by simp [prevTexts] at hx; exact .inl hx
      clear hf J5
    case' false =>
      have R := (hf.2 ho).2.2
      rw [h5, f5] at R
      have hS : ∀ x ∈ [l.getD (Int.toNat 0) []] :: prevTexts (some (j3.active, oldB :: List.drop 1 l)), x = [l.getD (Int.toNat 0) []] ∨ (x = oldB :: l.drop 1 ∧ ¬ (41 : Int) = 0) := fun x hx => by
        simp [prevTexts] at hx
        rcases hx with hx | hx
        · exact .inl hx
        · exact .inr ⟨by rw [hx]; simp, by decide⟩
      clear hf J5
  case' inr =>
    subst r1
    have hS : ∀ x ∈ (oldB :: l.drop 1) :: prevTexts none, x = [l.getD (Int.toNat 0) []] ∨ (x = oldB :: l.drop 1 ∧ ¬ (41 : Int) = 0) := fun x hx => by
      simp [prevTexts] at hx; exact .inr ⟨by rw [hx]; simp, by decide⟩
  all_goals
    clear J4 J3 J F
    (refine V0 ?_; repeat (refine VHyp.go (fun _ => ?_); refine V0 ?_))
    refine VApp.ro keep rfl ?_
    (refine V0 ?_; repeat (refine VHyp.go (fun _ => ?_); refine V0 ?_))
    refine .freeze 3 (intC .i64 ty_int) keep rfl ?_
    refine (dev_Crash _ R.good.wf keep (by omega)).call [0] ?_
    obtain ⟨k1, k2, k3, k4, _⟩ := crash_spec R.good keep
    obtain ⟨q, hf, l', hl', _, g⟩ := R.back keep
    have hroom := R.room
    have hS := hS l' hl'
    (refine V0 ?_; repeat (refine VHyp.go (fun _ => ?_); refine V0 ?_))
    refine (jour_Open_good hG k1 k2.up (a := 2) (n := 198) (by decide) (by omega) g).call [0] ?_
    rw [k2.oper]
    have eb : (openedJ 2 ((198 - 4) / 2) (q, hf, l'.length) l').base = l'.headD [] := rfl
    have er : (openedJ 2 ((198 - 4) / 2) (q, hf, l'.length) l').records = l'.tail := rfl
    generalize openedJ 2 ((198 - 4) / 2) (q, hf, l'.length) l' = j9 at *
    (refine V0 ?_; repeat (refine VHyp.go (fun _ => ?_); refine V0 ?_))
    have hjb := fun d => jour_Base (G := G) j9 d
    have hjr := fun d => jour_Records (G := G) j9 d
    refine (hjb _).call [4, 0] ?_
    by_cases hc1 : l' = [l.getD (Int.toNat 0) []]
    · rw [hc1] at eb er
      rw [eb, List.headD_cons]
      have htt : l.getD (Int.toNat 0) [] = l.getD (Int.toNat 0) [] := rfl
      (refine V0 ?_; repeat (refine VHyp.go (fun _ => ?_); refine V0 ?_))
      refine (hjr _ (by rw [er]; exact Nat.zero_le _)).call [4, 0] ?_
      rw [er, List.tail_cons]
      (refine V0 ?_; repeat (refine VHyp.go (fun _ => ?_); refine V0 ?_))
      refine (hjb _).call [4, 0] ?_
      rw [eb, List.headD_cons]
      by_cases hold : l.getD (Int.toNat 0) [] = [111, 108, 100]
      · (refine V0 ?_; repeat (refine VHyp.go (fun _ => ?_); refine V0 ?_))
        refine (hjr _ (by rw [er]; exact Nat.zero_le _)).call [4, 0] ?_
        rw [er, List.tail_cons]
        (refine V0 ?_; repeat (refine VHyp.go (fun _ => ?_); refine V0 ?_))
        refine (keep_Texts [] (l.drop (Int.toNat 1)) (Nat.zero_le _) (by rw [List.length_drop]; omega)).call [] ?_
        (refine V0 ?_; repeat (refine VHyp.go (fun _ => ?_); refine V0 ?_))
        refine (law_wakes hG).call [] ?_
        (refine V0 ?_; repeat (refine VHyp.go (fun _ => ?_); refine V0 ?_))
        exact .fin []
      · (refine V0 ?_; repeat (refine VHyp.go (fun _ => ?_); refine V0 ?_))
        refine (law_wakes hG).call [] ?_
        (refine V0 ?_; repeat (refine VHyp.go (fun _ => ?_); refine V0 ?_))
        exact .fin []
    · obtain ⟨hc2, ht⟩ := hS.resolve_left hc1
      first | exact absurd rfl ht | (
        rw [hc2] at eb er
        rw [eb, List.headD_cons]
        have hoo : oldB = [111, 108, 100] := rfl
        have hrl : (l.drop 1).length ≤ 8 := by rw [List.length_drop]; omega
        have hoT : l.drop 1 = l.drop (Int.toNat 1) := rfl
        by_cases hold : oldB = l.getD (Int.toNat 0) []
        · have hne : ¬ (l.drop 1).length = 0 := fun h => hc1 (by rw [hc2, hold, List.length_eq_zero_iff.1 h])
          (refine V0 ?_; repeat (refine VHyp.go (fun _ => ?_); refine V0 ?_))
          refine (hjr _ (by rw [er, List.tail_cons]; omega)).call [4, 0] ?_
          rw [er, List.tail_cons]
          (refine V0 ?_; repeat (refine VHyp.go (fun _ => ?_); refine V0 ?_))
          refine (hjb _).call [4, 0] ?_
          rw [eb, List.headD_cons]
          (refine V0 ?_; repeat (refine VHyp.go (fun _ => ?_); refine V0 ?_))
          refine (hjr _ (by rw [er, List.tail_cons]; omega)).call [4, 0] ?_
          rw [er, List.tail_cons]
          (refine V0 ?_; repeat (refine VHyp.go (fun _ => ?_); refine V0 ?_))
          refine (keep_Texts (l.drop 1) (l.drop (Int.toNat 1)) (by omega) (by rw [← hoT]; omega)).call [] ?_
          (refine V0 ?_; repeat (refine VHyp.go (fun _ => ?_); refine V0 ?_))
          refine (law_wakes hG).call [] ?_
          (refine V0 ?_; repeat (refine VHyp.go (fun _ => ?_); refine V0 ?_))
          exact .fin []
        · (refine V0 ?_; repeat (refine VHyp.go (fun _ => ?_); refine V0 ?_))
          refine (hjb _).call [4, 0] ?_
          rw [eb, List.headD_cons]
          (refine V0 ?_; repeat (refine VHyp.go (fun _ => ?_); refine V0 ?_))
          refine (hjr _ (by rw [er, List.tail_cons]; omega)).call [4, 0] ?_
          rw [er, List.tail_cons]
          (refine V0 ?_; repeat (refine VHyp.go (fun _ => ?_); refine V0 ?_))
          refine (keep_Texts (l.drop 1) (l.drop (Int.toNat 1)) (by omega) (by rw [← hoT]; omega)).call [] ?_
          (refine V0 ?_; repeat (refine VHyp.go (fun _ => ?_); refine V0 ?_))
          refine (law_wakes hG).call [] ?_
          (refine V0 ?_; repeat (refine VHyp.go (fun _ => ?_); refine V0 ?_))
          exact .fin [])
end
end Go.V
