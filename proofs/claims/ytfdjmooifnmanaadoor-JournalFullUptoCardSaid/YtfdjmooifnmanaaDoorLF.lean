/- Contract of JournalFull. -/
import Derived.Test.YtfdjmooifnmanaaDoorLT
namespace Go.V

/-- a journal of an empty base and i records alike -/
structure Full (O : Nat → Bytes) (half k S i : Nat) (j : JourM) (d : DevM) : Prop where
  ji : ∃ prev, JI j d O ([] :: List.replicate i (zeros k)) prev
  calm : d.calm
  seq : j.seq ≤ S + i
  half : j.half = half
theorem Full.used {O : Nat → Bytes} {half k S i : Nat} {j : JourM} {d : DevM} (F : Full O half k S i j d) : j.used = 1 + i * secs k := by
  obtain ⟨prev, J⟩ := F.ji
  rw [J.used]
  have : ∀ i, usedOf (List.replicate i (zeros k)) = i * secs k := fun i => by
    induction i with
    | zero => simp [usedOf]
    | succ i ih => rw [List.replicate_succ, usedOf_cons, ih, zeros_len, Nat.add_mul]; omega
  rw [usedOf_cons, this]; rfl
theorem Full.records {O : Nat → Bytes} {half k S i : Nat} {j : JourM} {d : DevM} (F : Full O half k S i j d) : j.records.length = i := by
  obtain ⟨prev, J⟩ := F.ji
  have h := J.len
  simp at h; omega
theorem Full.step {O : Nat → Bytes} {half k S i : Nat} {j : JourM} {d : DevM} (F : Full O half k S i j d) (hs : S + i < 1000000000000) (hk : k ≤ 65536) (hr : i * secs k + secs k ≤ half - 1) (h1 : 1 ≤ half) :
    (j.append d (zeros k)).2.2 = 0 ∧ Full O half k S (i + 1) (j.append d (zeros k)).1 (j.append d (zeros k)).2.1 := by
  have hu := F.used
  obtain ⟨⟨prev, J⟩, hc, hq, hh⟩ := F
  obtain ⟨h1, h2, h3, _, h5, _, h7⟩ := J.append_calm hc (by omega) (text := zeros k) (by rw [zeros_len]; exact hk) (by rw [zeros_len, hh, hu]; omega)
  exact ⟨h1, ⟨_, by rw [List.replicate_succ']; exact h2⟩, h7, by omega, by omega⟩
theorem Full.full {O : Nat → Bytes} {half k S i : Nat} {j : JourM} {d : DevM} (F : Full O half k S i j d) (hk : k ≤ 65536) (hr : half - 1 < i * secs k + secs k) : j.append d (zeros k) = (j, d, 60) := by
  have hu := F.used
  have hh := F.half
  have hp := secs_pos k
  obtain ⟨prev, J⟩ := F.ji
  unfold JourM.append
  rw [J.fit, zeros_len, if_neg (by simp), if_neg (by omega), if_pos (by rw [hu, hh]; omega)]
theorem Full.new {O : Nat → Bytes} {half k S i : Nat} {j : JourM} {d : DevM} (F : Full O half k S i j d) (hs : S + i < 1000000000000) (h1 : 1 ≤ half) :
    (j.check d []).2.2 = 0 ∧ Full O half k (S + i + 1) 0 (j.check d []).1 (j.check d []).2.1 := by
  obtain ⟨⟨prev, J⟩, hc, hq, hh⟩ := F
  obtain ⟨h1, h2, h3, _, h5, _, h7⟩ := J.check_calm hc (by omega) (text := []) (by decide) (by rw [hh]; exact h1)
  exact ⟨h1, ⟨⟨_, h2⟩, h7, by omega, by omega⟩⟩

section
variable {G : Glob}
theorem law_JournalFull (hG : Globs G) (sectors size : Int) : Fun prog G f_headgatelaw06_JournalFull [.int .i64 sectors, .int .i64 size] [] (.bool true) [] := by
  refine .of (mk_headgatelaw06_JournalFull rfl ⟨?_⟩)
  (refine V0 ?_; repeat (refine VHyp.go (fun _ => ?_); refine V0 ?_))
  refine (keep_Mod sectors 60 (by decide) (by decide)).call [] ?_
  have hm := modK_lt sectors (n := 60) (by decide)
  (refine V0 ?_; repeat (refine VHyp.go (fun _ => ?_); refine V0 ?_))
  generalize modK sectors 60 = q at *
  refine (keep_Mod size 1200 (by decide) (by decide)).call [] ?_
  have hk := modK_lt size (n := 1200) (by decide)
  (refine V0 ?_; repeat (refine VHyp.go (fun _ => ?_); refine V0 ?_))
  generalize modK size 1200 = k at *
  rw [show (8 : Int) + (q : Int) = ((8 + q : Nat) : Int) by omega]
  refine (dev_New (8 + q) (by omega) (by omega)).call [] ?_
  have hg := new_good (8 + q) (by omega)
  have hc := new_calm (8 + q)
  have hz := new_size (8 + q)
  have hh : (DevM.new (8 + q)).held.length ≤ 999000 := Nat.zero_le _
  have e1 : IntKind.i64.wrap ((((8 + q : Nat) : Int) - 4).tdiv 2) = (((8 + q - 4) / 2 : Nat) : Int) := by
    rw [show ((8 + q : Nat) : Int) - 4 = ((8 + q - 4 : Nat) : Int) by omega]; exact wdiv2 (by omega)
  generalize DevM.new (8 + q) = d0 at *
  (refine V0 ?_; repeat (refine VHyp.go (fun _ => ?_); refine V0 ?_))
  have s0 : secs ([] : Bytes).length = 1 := rfl
  refine (jour_Format hG d0 hg.wf hc hh 0 (8 + q) (by omega) (by omega) [] (by decide) (by omega)).call [0] ?_
  obtain ⟨J, c1, q1, f1, h1, z1⟩ := JI.make hg hc (O := d0.sector) (a := 0) (half := (8 + q - 4) / 2) (by omega) (base := []) hh (by omega) (by decide) (by omega) (fun b _ => rfl)
  have F : Full d0.sector ((8 + q - 4) / 2) k 1 0 (JourM.make 0 ((8 + q - 4) / 2) d0 []).1 (JourM.make 0 ((8 + q - 4) / 2) d0 []).2 := ⟨⟨_, J⟩, c1, by omega, h1⟩
  generalize JourM.make 0 ((8 + q - 4) / 2) d0 [] = p at *
  obtain ⟨j1, d1⟩ := p
  have hhalf : 2 ≤ (8 + q - 4) / 2 ∧ (8 + q - 4) / 2 ≤ 31 := by omega
  generalize (8 + q - 4) / 2 = half at *
  have hn : 8 ≤ 8 + q ∧ 8 + q ≤ 67 := by omega
  generalize 8 + q = n at *
  dsimp only at *
  (refine V0 ?_; repeat (refine VHyp.go (fun _ => ?_); refine V0 ?_))
  refine (keep_Zeros k (by omega)).call [] ?_
  have e2 : IntKind.i64.wrap (((24 : Int) + (k : Int) + 511).tdiv 512) = (secs k : Int) := by
    obtain ⟨m, hm⟩ : ∃ m : Nat, m = k + 24 + 511 := ⟨_, rfl⟩
    rw [show (24 : Int) + (k : Int) + 511 = (m : Int) by omega, wdiv512 (by omega), hm]; rfl
  have hs1 := secs_pos k
  have hs2 : secs k ≤ 4 := by unfold secs; omega
  (refine V0 ?_; repeat (refine VHyp.go (fun _ => ?_); refine V0 ?_))
  refine VLoop.on (fun x : Nat × JourM × DevM => x.1 ≤ 3 ∧ ∃ S, S ≤ 1 + x.1 * 100 ∧ Full d0.sector half k S 0 x.2.1 x.2.2) (fun x => [(5, .int .i64 n), (9, .ptr 1 0), (11, .str (zeros k)), (12, .int .i64 (secs k)), (13, .int .i64 x.1)]) (fun x => [devO x.2.2, jourO 0 x.2.1]) (fun x => 3 - x.1) (0, j1, d1) ⟨by omega, 1, by omega, F⟩ (VGo.eq [0, 1]) ?_
  rintro x ⟨hx, S, hS, F⟩
  by_cases h3 : x.1 < 3
  case neg =>
    (refine V0 ?_; repeat (refine VHyp.go (fun _ => ?_); refine V0 ?_))
    refine (law_wakes hG).call [] ?_
    (refine V0 ?_; repeat (refine VHyp.go (fun _ => ?_); refine V0 ?_))
    exact .fin []
  have e3 : IntKind.i64.wrap (((half : Int) - 1).tdiv (secs k : Int)) = (((half - 1) / secs k : Nat) : Int) := by
    rw [show (half : Int) - 1 = ((half - 1 : Nat) : Int) by omega]; exact wdiv (by omega)
  have hw1 := Nat.div_mul_le_self (half - 1) (secs k)
  have hw2 : half - 1 < (half - 1) / secs k * secs k + secs k := by
    have := Nat.lt_div_mul_add (a := half - 1) (b := secs k) (by omega)
    exact this
  have hw3 := Nat.div_le_self (half - 1) (secs k)
  generalize (half - 1) / secs k = want at *
  (refine V0 ?_; repeat (refine VHyp.go (fun _ => ?_); refine V0 ?_))
  refine VLoop.on (fun y : Nat × JourM × DevM => y.1 ≤ want ∧ Full d0.sector half k S y.1 y.2.1 y.2.2) (fun y => [(5, .int .i64 n), (9, .ptr 1 0), (11, .str (zeros k)), (12, .int .i64 (secs k)), (13, .int .i64 x.1), (14, .int .i64 want), (15, .int .i64 y.1)]) (fun y => [devO y.2.2, jourO 0 y.2.1]) (fun y => want - y.1) (0, x.2.1, x.2.2) ⟨by omega, F⟩ (VGo.eq [0, 1]) ?_
  rintro y ⟨hy, Fy⟩
  obtain ⟨prev, J⟩ := Fy.ji
  have hsq := Fy.seq
  by_cases h4 : y.1 < want
  · have hst : y.1 * secs k + secs k ≤ half - 1 := by
      have := Nat.mul_le_mul_right (secs k) (show y.1 + 1 ≤ want by omega)
      rw [Nat.add_mul, Nat.one_mul] at this; omega
    obtain ⟨t1, F2⟩ := Fy.step (by omega) (by omega) hst (by omega)
    (refine V0 ?_; repeat (refine VHyp.go (fun _ => ?_); refine V0 ?_))
    refine (jour_Append hG y.2.1 y.2.2 J.good.wf (J.fits (by omega)) (by have := J.held_le; omega) (zeros k) (by rw [zeros_len]; omega)).call [1, 0] ?_
    rw [t1]
    (refine V0 ?_; repeat (refine VHyp.go (fun _ => ?_); refine V0 ?_))
    exact ⟨⟨(y.1 + 1, (y.2.1.append y.2.2 (zeros k)).1, (y.2.1.append y.2.2 (zeros k)).2.1), by dsimp only; omega, F2⟩, by dsimp only; omega, VGo.eq [0, 1]⟩
  · have ey : y.1 = want := by omega
    have Fw : Full d0.sector half k S want y.2.1 y.2.2 := by rw [← ey]; exact Fy
    (refine V0 ?_; repeat (refine VHyp.go (fun _ => ?_); refine V0 ?_))
    refine (jour_Append hG y.2.1 y.2.2 J.good.wf (J.fits (by omega)) (by have := J.held_le; omega) (zeros k) (by rw [zeros_len]; omega)).call [1, 0] ?_
    rw [Fw.full (by omega) hw2]
    have hrl := Fw.records
    have hu := Fw.used
    have hh := Fw.half
    (refine V0 ?_; repeat (refine VHyp.go (fun _ => ?_); refine V0 ?_))
    refine (jour_Records y.2.1 y.2.2 (by omega)).call [1, 0] ?_
    (refine V0 ?_; repeat (refine VHyp.go (fun _ => ?_); refine V0 ?_))
    refine (jour_Room y.2.1 y.2.2 (by omega) (by omega)).call [1, 0] ?_
    rw [hu, hh]
    (refine V0 ?_; repeat (refine VHyp.go (fun _ => ?_); refine V0 ?_))
    refine (jour_Checkpoint hG y.2.1 y.2.2 J.good.wf (J.fits (by omega)) (by have := J.held_le; omega) [] (by decide)).call [1, 0] ?_
    obtain ⟨t1, F2⟩ := Fw.new (by omega) (by omega)
    rw [t1]
    have hrl2 := F2.records
    (refine V0 ?_; repeat (refine VHyp.go (fun _ => ?_); refine V0 ?_))
    refine (jour_Records (y.2.1.check y.2.2 []).1 (y.2.1.check y.2.2 []).2.1 (by omega)).call [1, 0] ?_
    (refine V0 ?_; repeat (refine VHyp.go (fun _ => ?_); refine V0 ?_))
    exact ⟨⟨(x.1 + 1, (y.2.1.check y.2.2 []).1, (y.2.1.check y.2.2 []).2.1), by dsimp only; omega, S + want + 1, by dsimp only; omega, F2⟩, by dsimp only; omega, VGo.eq [0, 1]⟩
end
end Go.V
