/- Contracts of the statements' helpers, and of JournalNone. -/
import Derived.Test.YtfdjmooifnmanaaDoorLT
namespace Go.V
section
variable {G : Glob}

/-- a number from 0 to n - 1 -/
def modK (k : Int) (n : Nat) : Nat := (k % (n : Int)).toNat
theorem modK_lt (k : Int) {n : Nat} (h : 0 < n) : modK k n < n := by
  have h1 := Int.emod_nonneg k (show (n : Int) ≠ 0 by omega)
  have h2 := Int.emod_lt_of_pos k (show (0 : Int) < n by omega)
  unfold modK; omega
theorem keep_Mod (k : Int) (n : Nat) (h0 : 0 < n) (hn : n ≤ 1000000000) : Fun prog G f_headgatekeep_Mod [.int .i64 k, .int .i64 n] [] (.int .i64 (modK k n)) [] := by
  refine .of (mk_headgatekeep_Mod rfl ⟨?_⟩)
  have h1 := Int.tmod_lt_of_pos k (show (0 : Int) < n by omega)
  have h2 : -(n : Int) < k.tmod n := Int.lt_tmod_of_pos k (by omega)
  have e : (k.tmod n + n).tmod n = modK k n := by
    rw [Int.tmod_eq_emod_of_nonneg (by omega), Int.add_emod_right, modK, Int.toNat_of_nonneg (Int.emod_nonneg _ (by omega)), Int.tmod_def, Int.sub_mul_emod_self_left]
  (refine V0 ?_; repeat (refine VHyp.go (fun _ => ?_); refine V0 ?_))
  exact .fin [] (by rw [← e]; rfl)
theorem keep_Zeros (n : Nat) (hn : n ≤ 1000000000) : Fun prog G f_headgatekeep_Zeros [.int .i64 n] [] (.str (zeros n)) [] := by
  refine .of (mk_headgatekeep_Zeros rfl ⟨?_⟩)
  (refine V0 ?_; repeat (refine VHyp.go (fun _ => ?_); refine V0 ?_))
  refine VBytes.ref _ _ _ rfl rfl ?_
  (refine V0 ?_; repeat (refine VHyp.go (fun _ => ?_); refine V0 ?_))
  exact .fin [] (by show SV.str (toB (List.replicate (Int.toNat n) 0)) = _; rw [Int.toNat_natCast, toB_zeros]; rfl)
theorem slotRead_zero (half : Nat) : slotRead (zeros 512) half = (0, 0, 0) := by
  unfold slotRead; rw [if_neg]; rintro ⟨h, _⟩; exact absurd h (by decide)
theorem law_JournalNone (hG : Globs G) (text : Bytes) (sectors : Int) (ht : text.length ≤ 9223372036854775807) : Fun prog G f_headgatelaw06_JournalNone [.str text, .int .i64 sectors] [] (.bool true) [] := by
  refine .of (mk_headgatelaw06_JournalNone rfl ⟨?_⟩)
  by_cases hl : 70000 < text.length
  · (refine V0 ?_; repeat (refine VHyp.go (fun _ => ?_); refine V0 ?_))
    refine (law_wakes hG).call [] ?_
    (refine V0 ?_; repeat (refine VHyp.go (fun _ => ?_); refine V0 ?_))
    exact .fin []
  (refine V0 ?_; repeat (refine VHyp.go (fun _ => ?_); refine V0 ?_))
  refine (keep_Mod sectors 100 (by decide) (by decide)).call [] ?_
  have hm := modK_lt sectors (n := 100) (by decide)
  (refine V0 ?_; repeat (refine VHyp.go (fun _ => ?_); refine V0 ?_))
  generalize modK sectors 100 = q at *
  refine (dev_New (8 + q) (by omega) (by omega)).call [] ?_
  have hw := new_wf (8 + q) (by omega)
  have hsz : (DevM.new (8 + q)).safe.length = 8 + q := by simp [DevM.new]
  have hb : (DevM.best (DevM.new (8 + q)) 0 ((8 + q - 4) / 2) 2).1 = 0 := by
    simp only [DevM.best, best1, new_sector, slotRead_zero]; simp
  (refine V0 ?_; repeat (refine VHyp.go (fun _ => ?_); refine V0 ?_))
  refine (jour_Open_zero (.new (8 + q)) hw 0 (8 + q) (by omega) (by omega) rfl hb).call [0] ?_
  (refine V0 ?_; repeat (refine VHyp.go (fun _ => ?_); refine V0 ?_))
  refine (jour_Open_nil 0 (8 + q)).call [] ?_
  (refine V0 ?_; repeat (refine VHyp.go (fun _ => ?_); refine V0 ?_))
  refine (jour_Format_nil 0 (8 + q) text ht).call [] ?_
  (refine V0 ?_; repeat (refine VHyp.go (fun _ => ?_); refine V0 ?_))
  refine (jour_Append_nil text ht).call [] ?_
  (refine V0 ?_; repeat (refine VHyp.go (fun _ => ?_); refine V0 ?_))
  refine (jour_Checkpoint_nil text ht).call [] ?_
  (refine V0 ?_; repeat (refine VHyp.go (fun _ => ?_); refine V0 ?_))
  refine (jour_Sync_nil).call [] ?_
  (refine V0 ?_; repeat (refine VHyp.go (fun _ => ?_); refine V0 ?_))
  refine (jour_Base_nil).call [] ?_
  (refine V0 ?_; repeat (refine VHyp.go (fun _ => ?_); refine V0 ?_))
  refine (jour_Records_nil).call [] ?_
  (refine V0 ?_; repeat (refine VHyp.go (fun _ => ?_); refine V0 ?_))
  refine (jour_Room_nil).call [] ?_
  (refine V0 ?_; repeat (refine VHyp.go (fun _ => ?_); refine V0 ?_))
  refine (law_wakes hG).call [] ?_
  (refine V0 ?_; repeat (refine VHyp.go (fun _ => ?_); refine V0 ?_))
  exact .fin []
end
end Go.V
