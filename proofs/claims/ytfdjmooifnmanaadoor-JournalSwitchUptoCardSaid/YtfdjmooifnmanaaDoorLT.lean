/- Contracts of the statements' helpers; a journal that is found again; how the statements are waked. -/
import Derived.Test.YtfdjmooifnmanaaDoorL4
import Derived.Test.YtfdjmooifnmanaaDoorCR
import Derived.Test.YtfdjmooifnmanaaDoorCL
namespace Go.V
section
variable {G : Glob}

/-- a number from 0 to n - 1 -/
def modK (k : Int) (n : Nat) : Nat := (k % (n : Int)).toNat
theorem modK_lt (k : Int) {n : Nat} (h : 0 < n) : modK k n < n := by
  have h1 := Int.emod_nonneg k (show (n : Int) ≠ 0 by omega)
  have h2 := Int.emod_lt_of_pos k (show (0 : Int) < n by omega)
  unfold modK; omega
theorem keep_Mod (k : Int) (n : Nat) (h0 : 0 < n) (hn : n ≤ 1000000000) : Fun prog G f_headgatekeep_Mod [.int .i64 k, .int .i64 n] [] (.int .i64 (modK k n)) [] := by
  refine .of (mk_headgatekeep_Mod rfl ⟨?_⟩)
  have h1 := Int.tmod_lt_of_pos k (show (0 : Int) < n by omega)
  have h2 : -(n : Int) < k.tmod n := Int.lt_tmod_of_pos k (by omega)
  have e : (k.tmod n + n).tmod n = modK k n := by
    rw [Int.tmod_eq_emod_of_nonneg (by omega), Int.add_emod_right, modK, Int.toNat_of_nonneg (Int.emod_nonneg _ (by omega)), Int.tmod_def, Int.sub_mul_emod_self_left]
  (refine V0 ?_; repeat (refine VHyp.go (fun _ => ?_); refine V0 ?_))
  exact .fin [] (by rw [← e]; rfl)
theorem keep_Zeros (n : Nat) (hn : n ≤ 1000000000) : Fun prog G f_headgatekeep_Zeros [.int .i64 n] [] (.str (zeros n)) [] := by
  refine .of (mk_headgatekeep_Zeros rfl ⟨?_⟩)
  (refine V0 ?_; repeat (refine VHyp.go (fun _ => ?_); refine V0 ?_))
  refine VBytes.ref _ _ _ rfl rfl ?_
  (refine V0 ?_; repeat (refine VHyp.go (fun _ => ?_); refine V0 ?_))
  exact .fin [] (by show SV.str (toB (List.replicate (Int.toNat n) 0)) = _; rw [Int.toNat_natCast, toB_zeros]; rfl)
theorem keep_Texts (a b : List Bytes) (ha : a.length ≤ 1000000000) (_hb : b.length ≤ 1000000000) : Fun prog G f_headgatekeep_Texts [roStrs a, roStrs b] [] (.bool (decide (a = b))) [] := by
  refine .of (mk_headgatekeep_Texts rfl ⟨?_⟩)
  by_cases hl : a.length = b.length
  case neg =>
    rw [decide_eq_false (fun e => hl (by rw [e]))]
    (refine V0 ?_; repeat (refine VHyp.go (fun _ => ?_); refine V0 ?_))
    exact .fin []
  (refine V0 ?_; repeat (refine VHyp.go (fun _ => ?_); refine V0 ?_))
  refine VLoop.on (fun i => i ≤ a.length ∧ a.take i = b.take i) (fun i => [(0, roStrs a), (1, roStrs b), (5, .int .i64 i)]) (fun i => []) (fun i => a.length - i) 0 ⟨Nat.zero_le _, rfl⟩ (VGo.eq []) ?_
  rintro i ⟨hi, he⟩
  by_cases h6 : i < a.length
  · have h1 : a[i]? = some (a.getD i []) := by simp [h6]
    have h2 : b[i]? = some (b.getD i []) := by simp [show i < b.length by omega]
    by_cases h7 : a.getD i [] = b.getD i []
    · have e2 : a.take (i + 1) = b.take (i + 1) := by rw [take_next h1, take_next h2, he, h7]
      (refine V0 ?_; repeat (refine VHyp.go (fun _ => ?_); refine V0 ?_))
      exact ⟨⟨i + 1, by omega, e2⟩, by dsimp only; omega, VGo.eq []⟩
    · rw [decide_eq_false (fun e => h7 (by rw [e]))]
      (refine V0 ?_; repeat (refine VHyp.go (fun _ => ?_); refine V0 ?_))
      exact .fin []
  · have e : a = b := by
      rw [List.take_of_length_le (by omega), List.take_of_length_le (by omega)] at he; exact he
    rw [decide_eq_true e]
    (refine V0 ?_; repeat (refine VHyp.go (fun _ => ?_); refine V0 ?_))
    exact .fin []

theorem new_wf (n : Nat) (h : n ≤ 8192) : (DevM.new n).wf :=
  ⟨by simp [DevM.new]; exact h, by simp [DevM.new], fun x hx => .inl (List.eq_of_mem_replicate hx), fun x hx => .inl (List.eq_of_mem_replicate hx), fun x hx => (by cases hx), Nat.zero_le _⟩
theorem new_calm (n : Nat) : (DevM.new n).calm := ⟨rfl, rfl⟩
theorem new_size (n : Nat) : (DevM.new n).safe.length = n := by simp [DevM.new]
theorem new_good (n : Nat) (h : n ≤ 8192) : (DevM.new n).good := ⟨new_wf n h, fun a ha => by
  exfalso; apply ha; unfold DevM.new; simp only [List.getD, List.getElem?_replicate]; split <;> rfl⟩
theorem new_kept (n a : Nat) : (DevM.new n).kept a = zeros 512 := by
  unfold DevM.kept DevM.new
  by_cases h : a < n <;> simp [List.getD, List.getElem?_replicate, h]
theorem new_sector (n a : Nat) : (DevM.new n).sector a = zeros 512 := by
  unfold DevM.sector
  rw [new_kept]
  by_cases h : a < n <;> simp [DevM.new, List.getD, List.getElem?_replicate, h]
theorem append_calm {d : DevM} (hd : d.calm) (j : JourM) (text : Bytes) : (j.append d text).2.1.calm := by
  unfold JourM.append
  have h := puts_calm hd j j.active j.used text (j.records.length + 2)
  split
  · exact hd
  split
  · exact hd
  split
  · exact hd
  · dsimp only
    rw [h.2]; exact h.1
theorem check_calm {d : DevM} (hd : d.calm) (j : JourM) (text : Bytes) : (j.check d text).2.1.calm := by
  have k : ∀ {d : DevM} (j : JourM), d.calm → (j.check1 d text).2.1.calm := fun {d} j hd => by
    unfold JourM.check1
    have h := puts_calm hd j (1 - j.active) 0 text 1
    dsimp only
    rw [h.2]; exact h.1
  unfold JourM.check
  split
  · exact hd
  split
  · exact hd
  split
  · exact hd
  · cases j.held with
    | false => exact k j hd
    | true => rw [hd.oper]; exact k _ hd.flush
theorem JI.sync {j : JourM} {d : DevM} {O : Nat → Bytes} {l : List Bytes} {prev : Option (Nat × List Bytes)} (J : JI j d O l prev) : j.sync d = (j.flush d, d.flush, d.oper) := by
  unfold JourM.sync; rw [J.fit]; rfl
/-- on a device that is up an append is told -/
theorem JI.append_calm {j : JourM} {d : DevM} {O : Nat → Bytes} {l : List Bytes} {prev : Option (Nat × List Bytes)} (J : JI j d O l prev) (hc : d.calm) (hseq : j.seq < 1000000000000) {text : Bytes} (ht : text.length ≤ 65536) (hr : secs text.length ≤ j.half - j.used) :
    (j.append d text).2.2 = 0 ∧ JI (j.append d text).1 (j.append d text).2.1 O (l ++ [text]) (some (j.active, l)) ∧ (j.append d text).1.seq = j.seq + 1 ∧ (j.append d text).1.from' = j.from' ∧ (j.append d text).1.half = j.half ∧ (j.append d text).2.1.safe.length = d.safe.length ∧ (j.append d text).2.1.calm := by
  have hk := Go.V.append_calm hc j text
  rcases J.append hseq ht hr with ⟨h1, h2, h3, h4, h5, h6⟩ | ⟨_, _, _, _, h, _⟩
  · exact ⟨h1, h2, h3, h4, h5, h6, hk⟩
  · rw [hk.up] at h; cases h
theorem JI.check_calm {j : JourM} {d : DevM} {O : Nat → Bytes} {l : List Bytes} {prev : Option (Nat × List Bytes)} (J : JI j d O l prev) (hc : d.calm) (hseq : j.seq < 1000000000000) {text : Bytes} (ht : text.length ≤ 65536) (hr : secs text.length ≤ j.half) :
    (j.check d text).2.2 = 0 ∧ JI (j.check d text).1 (j.check d text).2.1 O [text] (some (j.active, l)) ∧ (j.check d text).1.seq = j.seq + 1 ∧ (j.check d text).1.from' = j.from' ∧ (j.check d text).1.half = j.half ∧ (j.check d text).2.1.safe.length = d.safe.length ∧ (j.check d text).2.1.calm := by
  have hk := Go.V.check_calm hc j text
  rcases J.check hseq ht hr with ⟨h1, h2, h3, h4, h5, h6⟩ | ⟨_, _, _, _, h, _⟩
  · exact ⟨h1, h2, h3, h4, h5, h6, hk⟩
  · rw [hk.up] at h; cases h
/-- a journal that stands there is found -/
theorem jour_Open_good (hG : Globs G) {d : DevM} (hg : d.good) (up : d.down = false) {a n q hf : Nat} {l : List Bytes} (h8 : 8 ≤ n) (h : a + n ≤ d.safe.length) (g : Good d.sector a ((n - 4) / 2) q hf l) :
    Fun prog G f_journal_Open [.ptr 0 0, .int .i64 a, .int .i64 n] [devO d] (bif d.oper then .tup [.ptr 1 0, .int .i64 0] else .tup [.nilp, .int .i64 41]) (bif d.oper then [devO d.flush, jourO 0 (openedJ a ((n - 4) / 2) (q, hf, l.length) l)] else [devO d.flush]) :=
  jour_Open hG d hg.wf a n h8 h up g.best (show 0 < q by have := g.q1; omega) rfl g.frames g.used

theorem law_wakes (hG : Globs G) : Fun prog G f_headgatelaw06_wakes [] [] (.bool true) [] := by
  refine .of (mk_headgatelaw06_wakes rfl ⟨?_⟩)
  (refine V0 ?_; repeat (refine VHyp.go (fun _ => ?_); refine V0 ?_))
  refine (dev_New 40 (by decide) (by decide)).call [] ?_
  have hg := new_good 40 (by decide)
  have hc := new_calm 40
  have hz := new_size 40
  have hh : (DevM.new 40).held.length ≤ 999000 := Nat.zero_le _
  generalize DevM.new 40 = d0 at *
  (refine V0 ?_; repeat (refine VHyp.go (fun _ => ?_); refine V0 ?_))
  have s1 : secs [(97 : UInt8)].length = 1 := rfl
  have s2 : secs [(98 : UInt8)].length = 1 := rfl
  refine (jour_Format hG d0 hg.wf hc hh 3 30 (by decide) (by omega) [97] (by decide) (by decide)).call [0] ?_
  obtain ⟨J, c1, q1, f1, h1, z1⟩ := JI.make hg hc (O := d0.sector) (a := 3) (half := (30 - 4) / 2) (by decide) (base := [97]) hh (by omega) (by decide) (by decide) (fun b _ => rfl)
  generalize JourM.make 3 ((30 - 4) / 2) d0 [97] = p at *
  obtain ⟨j1, d1⟩ := p
  dsimp only at *
  have u1 : j1.used = 1 := by rw [J.used]; rfl
  (refine V0 ?_; repeat (refine VHyp.go (fun _ => ?_); refine V0 ?_))
  refine (jour_Append hG j1 d1 J.good.wf (J.fits (by omega)) (by have := J.held_le; omega) [98] (by decide)).call [1, 0] ?_
  obtain ⟨e, J2, q2, f2, h2, z2, c2⟩ := J.append_calm c1 (by omega) (text := [98]) (by decide) (by rw [h1, u1]; decide)
  rw [e]
  generalize j1.append d1 [98] = p at *
  obtain ⟨j2, d2, e2⟩ := p
  dsimp only at *
  (refine V0 ?_; repeat (refine VHyp.go (fun _ => ?_); refine V0 ?_))
  refine (jour_Sync j2 d2 J2.good.wf).call [1, 0] ?_
  rw [J2.sync]
  dsimp only
  have J3 := J2.flush.1 c2.oper
  have c3 := c2.flush
  have hz3 := (flush_size d2).1
  have hq3 : (j2.flush d2).half = 13 := by show j2.half = 13; omega
  have hf3 : (j2.flush d2).from' = 3 := by show j2.from' = 3; omega
  have hu3 : (j2.flush d2).used = 2 := by rw [J3.used]; rfl
  rw [c2.oper]
  generalize j2.flush d2 = j3 at *
  generalize d2.flush = d3 at *
  (refine V0 ?_; repeat (refine VHyp.go (fun _ => ?_); refine V0 ?_))
  refine (jour_Room j3 d3 (by omega) (by omega)).call [1, 0] ?_
  rw [hq3, hu3]
  (refine V0 ?_; repeat (refine VHyp.go (fun _ => ?_); refine V0 ?_))
  refine Con.weak [.ptr 0 0, roInts []] ⟨.rfl, .nil, trivial⟩ ?_
  refine (dev_Crash d3 J3.good.wf [] (by decide)).call [0] ?_
  obtain ⟨k1, k2, k3, k4, _⟩ := crash_spec J3.good []
  obtain ⟨q, hf, l, hl, _, g⟩ := J3.recov.back []
  rw [hf3, hq3] at g
  have hl : l = [[97], [98]] := by simpa [prevTexts] using hl
  subst hl
  generalize d3.crash [] = d4 at *
  (refine V0 ?_; repeat (refine VHyp.go (fun _ => ?_); refine V0 ?_))
  refine (jour_Open_good hG k1 k2.up (a := 3) (n := 30) (by decide) (by omega) g).call [0] ?_
  rw [k2.oper]
  (refine V0 ?_; repeat (refine VHyp.go (fun _ => ?_); refine V0 ?_))
  have eb : (openedJ 3 ((30 - 4) / 2) (q, hf, 2) [[97], [98]]).base = [97] := rfl
  have er : (openedJ 3 ((30 - 4) / 2) (q, hf, 2) [[97], [98]]).records = [[98]] := rfl
  generalize openedJ 3 ((30 - 4) / 2) (q, hf, 2) [[97], [98]] = j5 at *
  refine (jour_Base j5 d4.flush).call [2, 0] ?_
  rw [eb]
  (refine V0 ?_; repeat (refine VHyp.go (fun _ => ?_); refine V0 ?_))
  refine (jour_Records j5 d4.flush (by rw [er]; decide)).call [2, 0] ?_
  rw [er]
  (refine V0 ?_; repeat (refine VHyp.go (fun _ => ?_); refine V0 ?_))
  refine .freeze 3 (strC ty_string) [[98]] rfl ?_
  refine (keep_Texts [[98]] [[98]] (by decide) (by decide)).call [] ?_
  (refine V0 ?_; repeat (refine VHyp.go (fun _ => ?_); refine V0 ?_))
  exact .fin []
end
end Go.V
