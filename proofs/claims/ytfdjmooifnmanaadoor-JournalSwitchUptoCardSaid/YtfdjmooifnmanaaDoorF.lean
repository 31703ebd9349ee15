/- Contracts of the packages fields and crc. -/
import Derived.Test.YtfdjmooifnmanaaDoorB
import Derived.Test.YtfdjmooifnmanaaDoorM0
import Derived.Test.YtfdjmooifnmanaaDoorCF
namespace Go.V
section
variable {G : Glob}

abbrev intsC : Codec := intC .i64 ty_int
theorem fields_shifts (n : Nat) (big : Bool) (hn : n ≤ 8) : Fun prog G f_fields_shifts [.int .i64 n, .bool big] [] (.ref 0) [.list intsC (shiftsL n big)] := by
  refine .of (mk_fields_shifts rfl ⟨?_⟩)
  (refine V0 ?_; repeat (refine VHyp.go (fun _ => ?_); refine V0 ?_))
  refine VLoop.on (· ≤ n) (fun i => [(0, .int .i64 n), (1, .bool big), (5, .ref 0), (7, .int .i64 n), (8, .int .i64 i)]) (fun i => [.list intsC ((shiftsL n big).take i)]) (fun i => n - i) 0 (Nat.zero_le _) (.nil 5 intsC rfl (VGo.eq [0])) ?_
  intro i hi
  by_cases h6 : i < n
  · have hl : ((shiftsL n big).take i).length ≤ i := by simp; omega
    cases big with
    | true =>
      have e : (shiftsL n true).take (i + 1) = (shiftsL n true).take i ++ [8 * ((n : Int) - 1 - i)] := by
        rw [take_next (shiftsL_get n true i h6)]; simp only [cond_true]; congr 2; omega
      (refine V0 ?_; repeat (refine VHyp.go (fun _ => ?_); refine V0 ?_))
      exact ⟨⟨i + 1, h6⟩, by dsimp only; omega, VGo.eq [2] rfl (by dsimp only; rw [e]; rfl)⟩
    | false =>
      have e : (shiftsL n false).take (i + 1) = (shiftsL n false).take i ++ [8 * (i : Int)] := by
        rw [take_next (shiftsL_get n false i h6)]; simp only [cond_false]; congr 2
      (refine V0 ?_; repeat (refine VHyp.go (fun _ => ?_); refine V0 ?_))
      exact ⟨⟨i + 1, h6⟩, by dsimp only; omega, VGo.eq [2] rfl (by dsimp only; rw [e]; rfl)⟩
  · obtain rfl : i = n := by omega
    (refine V0 ?_; repeat (refine VHyp.go (fun _ => ?_); refine V0 ?_))
    exact .fin [0] rfl (by rw [List.take_of_length_le (by rw [shiftsL_len]; exact Nat.le_refl _)]; rfl)

/-- the bytes of a number in a text -/
def getB (s : Bytes) (a n : Nat) : Bytes := (s.drop a).take n
theorem getB_len {s : Bytes} {a n : Nat} (h : a + n ≤ s.length) : (getB s a n).length = n := by simp [getB]; omega
theorem fields_get (s : Bytes) (a n : Nat) (h1 : 1 ≤ n) (hn : n ≤ 8) (h : a + n ≤ s.length) (hs : s.length ≤ 9223372036854775807) :
    Fun prog G f_fields_get_uint64_ [.str s, .int .i64 a, .int .i64 n, .bool true] [] (.tup [.int .u64 (beN (getB s a n) : Nat), .bool true]) [] := by
  refine .of (mk_fields_get_uint64_ rfl ⟨?_⟩)
  (refine V0 ?_; repeat (refine VHyp.go (fun _ => ?_); refine V0 ?_))
  refine (fields_shifts n true hn).call [] ?_
  (refine V0 ?_; repeat (refine VHyp.go (fun _ => ?_); refine V0 ?_))
  refine VLoop.on (· ≤ n) (fun i => [(0, .str s), (1, .int .i64 a), (10, .int .u64 (beN ((getB s a n).take i) * 256 ^ (n - i) : Nat)), (33, .ref 0), (34, .int .i64 n), (35, .int .i64 i)]) (fun i => [.list intsC (shiftsL n true)]) (fun i => n - i) 0 (Nat.zero_le _) (VGo.eq [0] (by rw [shiftsL_len, show beN ((getB s a n).take 0) * 256 ^ (n - 0) = 0 by simp [beN]]; rfl)) ?_
  intro i hi
  have hll := shiftsL_len n true
  by_cases h6 : i < n
  · have hb := (s.getD (Int.toNat (a + i)) 0).toNat_lt
    have h7 : (shiftsL n true).getD (Int.toNat i) intsC.dflt = ((8 * (n - 1 - i) : Nat) : Int) := getD_some (shiftsL_get n true i h6)
    (refine V0 ?_; repeat (refine VHyp.go (fun _ => ?_); refine V0 ?_))
    have key : IntKind.u64.wrap ((BitVec.ofInt IntKind.u64.bits ((beN ((getB s a n).take i) * 256 ^ (n - i) : Nat) : Int) ||| BitVec.ofInt IntKind.u64.bits (IntKind.u64.wrap (((s.getD (Int.toNat (a + i)) 0).toNat : Int) * 2 ^ (min (Int.toNat ((shiftsL n true).getD (Int.toNat i) intsC.dflt)) IntKind.u64.bits)))).toNat : Int)
        = ((beN ((getB s a n).take (i + 1)) * 256 ^ (n - (i + 1)) : Nat) : Int) := by
      have h8 : (getB s a n)[i]? = some (s.getD (Int.toNat (a + i)) 0) := by
        have : Int.toNat ((a : Int) + i) = a + i := by omega
        rw [this]
        simp [getB, h6, List.getElem?_drop, List.getD, show a + i < s.length by omega]
      have h9 : beN ((getB s a n).take (i + 1)) < 256 ^ (i + 1) := by
        have hq := beN_lt ((getB s a n).take (i + 1))
        rwa [List.length_take, getB_len h, Nat.min_eq_left (by omega)] at hq
      have h10 : 256 ^ (i + 1) * 256 ^ (n - (i + 1)) ≤ 256 ^ 8 := by
        rw [← Nat.pow_add]; exact Nat.pow_le_pow_right (by omega) (by omega)
      have h11 : beN ((getB s a n).take (i + 1)) * 256 ^ (n - (i + 1)) < 18446744073709551616 :=
        Nat.lt_of_lt_of_le (Nat.mul_lt_mul_of_pos_right h9 (Nat.pow_pos (by omega))) h10
      rw [take_next h8, beN_snoc] at h11 ⊢
      rw [h7, show n - i = (n - 1 - i) + 1 by omega, show n - (i + 1) = n - 1 - i by omega]
      rw [show n - (i + 1) = n - 1 - i by omega] at h11
      exact or_byte _ _ _ hb h11 (by omega)
    exact ⟨⟨i + 1, h6⟩, by dsimp only; omega, VGo.eq [0] (by dsimp only; rw [← key]; rfl)⟩
  · obtain rfl : i = n := by omega
    (refine V0 ?_; repeat (refine VHyp.go (fun _ => ?_); refine V0 ?_))
    exact .fin [] (by rw [List.take_of_length_le (by rw [getB_len h]; exact Nat.le_refl _), Nat.sub_self, Nat.pow_zero, Nat.mul_one]; rfl)
theorem fields_get_bad (s : Bytes) (a n : Int) (b : Bool) (h : n < 1 ∨ 8 < n ∨ a < 0 ∨ s.length - n < a) (hs : s.length ≤ 9223372036854775807) : Fun prog G f_fields_get_uint64_ [.str s, .int .i64 a, .int .i64 n, .bool b] [] (.tup [.int .u64 0, .bool false]) [] := by
  refine .of (mk_fields_get_uint64_ rfl ⟨?_⟩)
  by_cases h1 : n < 1
  · (refine V0 ?_; repeat (refine VHyp.go (fun _ => ?_); refine V0 ?_))
    exact .fin []
  by_cases h2 : 8 < n
  · (refine V0 ?_; repeat (refine VHyp.go (fun _ => ?_); refine V0 ?_))
    exact .fin []
  by_cases h3 : a < 0
  · (refine V0 ?_; repeat (refine VHyp.go (fun _ => ?_); refine V0 ?_))
    exact .fin []
  (refine V0 ?_; repeat (refine VHyp.go (fun _ => ?_); refine V0 ?_))
  exact .fin []
theorem fields_Big (s : Bytes) (a n : Nat) (h1 : 1 ≤ n) (hn : n ≤ 8) (h : a + n ≤ s.length) (hs : s.length ≤ 9223372036854775807) :
    Fun prog G f_fields_Big [.str s, .int .i64 a, .int .i64 n] [] (.tup [.int .u64 (beN (getB s a n) : Nat), .bool true]) [] := by
  refine .of (mk_fields_Big rfl ⟨?_⟩)
  (refine V0 ?_; repeat (refine VHyp.go (fun _ => ?_); refine V0 ?_))
  refine (fields_get s a n h1 hn h hs).call [] ?_
  (refine V0 ?_; repeat (refine VHyp.go (fun _ => ?_); refine V0 ?_))
  exact .fin []
theorem fields_Big_bad (s : Bytes) (a n : Int) (h : n < 1 ∨ 8 < n ∨ a < 0 ∨ s.length - n < a) (hs : s.length ≤ 9223372036854775807) : Fun prog G f_fields_Big [.str s, .int .i64 a, .int .i64 n] [] (.tup [.int .u64 0, .bool false]) [] := by
  refine .of (mk_fields_Big rfl ⟨?_⟩)
  (refine V0 ?_; repeat (refine VHyp.go (fun _ => ?_); refine V0 ?_))
  refine (fields_get_bad s a n true h hs).call [] ?_
  (refine V0 ?_; repeat (refine VHyp.go (fun _ => ?_); refine V0 ?_))
  exact .fin []

abbrev bytesC : Codec := byteC ty_uint8
theorem fields_put (v : Nat) (n : Nat) (big : Bool) (h1 : 1 ≤ n) (hn : n ≤ 8) : Fun prog G f_fields_put_uint64_ [.int .u64 v, .int .i64 n, .bool big] [] (.str (putB n big v)) [] := by
  refine .of (mk_fields_put_uint64_ rfl ⟨?_⟩)
  (refine V0 ?_; repeat (refine VHyp.go (fun _ => ?_); refine V0 ?_))
  refine (fields_shifts n big hn).call [] ?_
  (refine V0 ?_; repeat (refine VHyp.go (fun _ => ?_); refine V0 ?_))
  refine VLoop.on (· ≤ n) (fun i => [(0, .int .u64 v), (7, .ref 1), (18, .ref 0), (19, .int .i64 n), (20, .int .i64 i)]) (fun i => [.list intsC (shiftsL n big), .list bytesC ((ofB (putB n big v)).take i)]) (fun i => n - i) 0 (Nat.zero_le _) (.nil 7 bytesC rfl (VGo.eq [0, 1] (by rw [shiftsL_len]; rfl))) ?_
  intro i hi
  have hll := shiftsL_len n big
  by_cases h6 : i < n
  · have h7 : (shiftsL n big).getD (Int.toNat i) intsC.dflt = ((8 * (bif big then n - 1 - i else i) : Nat) : Int) := getD_some (shiftsL_get' n big i h6)
    have h8 : (bif big then n - 1 - i else i) < n := by cases big <;> simp only [cond_true, cond_false] <;> omega
    have h9 : (ofB (putB n big v)).take (i + 1) = (ofB (putB n big v)).take i ++ [IntKind.u8.wrap ((v : Int).fdiv (2 ^ (min (Int.toNat ((shiftsL n big).getD (Int.toNat i) intsC.dflt)) IntKind.u64.bits)))] := by
      rw [h7, shr_byte _ _ (by omega)]
      exact take_next (by rw [ofB_get, putB_get n big v i h6]; rfl)
    have h10 : ((ofB (putB n big v)).take i).length ≤ 8 := by simp; omega
    generalize (bif big then n - 1 - i else i) = q at *
    (refine V0 ?_; repeat (refine VHyp.go (fun _ => ?_); refine V0 ?_))
    refine VWrap.mk _ rfl ?_
    (refine V0 ?_; repeat (refine VHyp.go (fun _ => ?_); refine V0 ?_))
    exact ⟨⟨i + 1, h6⟩, by dsimp only; omega, VGo.eq [0, 3] rfl (by dsimp only; rw [h9]; rfl)⟩
  · obtain rfl : i = n := by omega
    (refine V0 ?_; repeat (refine VHyp.go (fun _ => ?_); refine V0 ?_))
    refine VBytes.ref _ _ _ rfl rfl ?_
    (refine V0 ?_; repeat (refine VHyp.go (fun _ => ?_); refine V0 ?_))
    exact .fin [] (by rw [List.take_of_length_le (by rw [ofB_len, putB_len]; exact Nat.le_refl _), toB_ofB]; rfl)
theorem fields_PutBig (v : Nat) (n : Nat) (h1 : 1 ≤ n) (hn : n ≤ 8) : Fun prog G f_fields_PutBig [.int .u64 v, .int .i64 n] [] (.str (putBE n v)) [] := by
  refine .of (mk_fields_PutBig rfl ⟨?_⟩)
  (refine V0 ?_; repeat (refine VHyp.go (fun _ => ?_); refine V0 ?_))
  refine (fields_put v n true h1 hn).call [] ?_
  (refine V0 ?_; repeat (refine VHyp.go (fun _ => ?_); refine V0 ?_))
  exact .fin []
theorem fields_PutLittle (v : Nat) (n : Nat) (h1 : 1 ≤ n) (hn : n ≤ 8) : Fun prog G f_fields_PutLittle [.int .u64 v, .int .i64 n] [] (.str (putLE n v)) [] := by
  refine .of (mk_fields_PutLittle rfl ⟨?_⟩)
  (refine V0 ?_; repeat (refine VHyp.go (fun _ => ?_); refine V0 ?_))
  refine (fields_put v n false h1 hn).call [] ?_
  (refine V0 ?_; repeat (refine VHyp.go (fun _ => ?_); refine V0 ?_))
  exact .fin []
/-- filled up with bytes 0 to a whole number of sectors -/
def padB (s : Bytes) : Bytes := s ++ zeros ((512 - s.length % 512) % 512)
theorem fields_Pad (s : Bytes) (hs : s.length ≤ 140737488350000) : Fun prog G f_fields_Pad [.str s, .int .i64 512] [] (.str (padB s)) [] := by
  refine .of (mk_fields_Pad rfl ⟨?_⟩)
  by_cases h : s.length % 512 = 0
  · have h' := tmod_zero h
    (refine V0 ?_; repeat (refine VHyp.go (fun _ => ?_); refine V0 ?_))
    exact .fin [] (by rw [padB, h, show (512 - 0) % 512 = 0 from rfl]; simp [zeros]; rfl)
  · have h' := tmod_pos h
    have e : (s.length : Int).tmod 512 = ((s.length % 512 : Nat) : Int) := by rw [Int.ofNat_tmod]; rfl
    (refine V0 ?_; repeat (refine VHyp.go (fun _ => ?_); refine V0 ?_))
    refine VBytes.ref _ _ _ rfl rfl ?_
    have e2 : toB (List.replicate (512 - (s.length : Int).tmod 512).toNat 0) = zeros ((512 - s.length % 512) % 512) := by
      rw [toB_zeros, e]; congr 1; omega
    (refine V0 ?_; repeat (refine VHyp.go (fun _ => ?_); refine V0 ?_))
    refine VSide.mk ?_ ?_
    · show s.length + (toB (List.replicate (512 - (s.length : Int).tmod 512).toNat 0)).length ≤ _
      rw [e2, zeros_len]; omega
    (refine V0 ?_; repeat (refine VHyp.go (fun _ => ?_); refine V0 ?_))
    refine .fin [] ?_
    show SV.str (s ++ toB (List.replicate (512 - (s.length : Int).tmod 512).toNat 0)) = _
    rw [e2]; rfl

/-! ### sums -/
def crcSteps : List Int := [0, 274646895, 549293790, 820201905, 1098587580, 1361435347, 1640403810, 1905808397, 2197175160, 2460548119, 2722870694, 2987750089, 3280807620, 3553878443, 3811616794, 4084100981]
/-- the variables of the packages -/
structure Globs (G : Glob) : Prop where
  steps : GTab G g_crc_steps (intC .u32 ty_uint32) crcSteps
def crcStep (w : Int) : Int := IntKind.u32.wrap (BitVec.ofInt IntKind.u32.bits (w.fdiv (2 ^ (min (Int.toNat 4) IntKind.u32.bits))) ^^^ BitVec.ofInt IntKind.u32.bits (crcSteps.getD (IntKind.u32.wrap (BitVec.ofInt IntKind.u32.bits w &&& BitVec.ofInt IntKind.u32.bits 15).toNat).toNat 0)).toNat
def crcByte (w : Int) (b : UInt8) : Int := crcStep (crcStep (IntKind.u32.wrap (BitVec.ofInt IntKind.u32.bits w ^^^ BitVec.ofInt IntKind.u32.bits (b.toNat : Int)).toNat))
def crcNot (w : Int) : Int := IntKind.u32.wrap (BitVec.ofInt IntKind.u32.bits (if IntKind.u32.signed then -1 else IntKind.u32.max) ^^^ BitVec.ofInt IntKind.u32.bits w).toNat
def crcMore (w : Int) (s : Bytes) : Int := crcNot (s.foldl crcByte (crcNot w))

theorem crc_More (hG : Globs G) (w : Int) (s : Bytes) (hs : s.length ≤ 9223372036854775807) : Fun prog G f_crc_More [.int .u32 w, .str s] [] (.int .u32 (crcMore w s)) [] := by
  refine .of (mk_crc_More rfl ⟨?_⟩)
  (refine V0 ?_; repeat (refine VHyp.go (fun _ => ?_); refine V0 ?_))
  refine VLoop.on (· ≤ s.length) (fun i => [(0, .int .u32 ((s.take i).foldl crcByte (crcNot w))), (1, .str s), (9, .int .i64 s.length), (10, .int .i64 i)]) (fun i => []) (fun i => s.length - i) 0 (Nat.zero_le _) (VGo.eq []) ?_
  intro i hi
  by_cases h6 : i < s.length
  · have hb := (s.getD (Int.toNat i) 0).toNat_lt
    have hn : (s.take (i + 1)).foldl crcByte (crcNot w) = crcByte ((s.take i).foldl crcByte (crcNot w)) (s.getD (Int.toNat i) 0) := by
      rw [take_next (x := s.getD (Int.toNat i) 0) (by simp [h6]), List.foldl_append]; rfl
    have h15 := and15
    generalize (s.take i).foldl crcByte (crcNot w) = w' at *
    (refine V0 ?_; repeat (refine VHyp.go (fun _ => ?_); refine V0 ?_))
    refine VGtab.mk _ _ hG.steps ?_
    refine VSide.mk ⟨rfl, by decide, (h15 _).1, (h15 _).2⟩ ?_
    (refine V0 ?_; repeat (refine VHyp.go (fun _ => ?_); refine V0 ?_))
    refine VSide.mk ?_ ?_
    · have := h15 (IntKind.u32.wrap (BitVec.ofInt IntKind.u32.bits w' ^^^ BitVec.ofInt IntKind.u32.bits ((s.getD (Int.toNat i) 0).toNat : Int)).toNat)
      show Int.toNat _ < 16
      omega
    (refine V0 ?_; repeat (refine VHyp.go (fun _ => ?_); refine V0 ?_))
    refine VGtab.mk _ _ hG.steps ?_
    refine VSide.mk ⟨rfl, by decide, (h15 _).1, (h15 _).2⟩ ?_
    (refine V0 ?_; repeat (refine VHyp.go (fun _ => ?_); refine V0 ?_))
    refine VSide.mk ?_ ?_
    · have := h15 (crcStep (IntKind.u32.wrap (BitVec.ofInt IntKind.u32.bits w' ^^^ BitVec.ofInt IntKind.u32.bits ((s.getD (Int.toNat i) 0).toNat : Int)).toNat))
      show Int.toNat _ < 16
      exact (Int.toNat_lt this.1).2 this.2
    (refine V0 ?_; repeat (refine VHyp.go (fun _ => ?_); refine V0 ?_))
    exact ⟨⟨i + 1, h6⟩, by dsimp only; omega, VGo.eq [] (by dsimp only; rw [hn]; rfl)⟩
  · obtain rfl : i = s.length := by omega
    (refine V0 ?_; repeat (refine VHyp.go (fun _ => ?_); refine V0 ?_))
    exact .fin [] (by rw [List.take_length]; rfl)
def crcSum (s : Bytes) : Int := crcMore 0 s
theorem crcNot_nat (w : Int) : 0 ≤ crcNot w ∧ crcNot w < 4294967296 := by
  unfold crcNot
  have h := (BitVec.ofInt IntKind.u32.bits (if IntKind.u32.signed then -1 else IntKind.u32.max) ^^^ BitVec.ofInt IntKind.u32.bits w).isLt
  have : 2 ^ IntKind.u32.bits = 4294967296 := rfl
  rw [wu32 (by omega)]
  omega
/-- a sum's bytes -/
def digest (s : Bytes) : Bytes := putLE 4 (crcSum s).toNat
theorem digest_len (s : Bytes) : (digest s).length = 4 := putLE_len _ _
theorem crc_Sum (hG : Globs G) (s : Bytes) (hs : s.length ≤ 9223372036854775807) : Fun prog G f_crc_Sum [.str s] [] (.int .u32 (crcSum s)) [] := by
  refine .of (mk_crc_Sum rfl ⟨?_⟩)
  (refine V0 ?_; repeat (refine VHyp.go (fun _ => ?_); refine V0 ?_))
  refine (crc_More hG 0 s hs).call [] ?_
  (refine V0 ?_; repeat (refine VHyp.go (fun _ => ?_); refine V0 ?_))
  exact .fin []
theorem crc_Digest (hG : Globs G) (s : Bytes) (hs : s.length ≤ 9223372036854775807) : Fun prog G f_crc_Digest [.str s] [] (.str (digest s)) [] := by
  refine .of (mk_crc_Digest rfl ⟨?_⟩)
  (refine V0 ?_; repeat (refine VHyp.go (fun _ => ?_); refine V0 ?_))
  refine (crc_Sum hG s hs).call [] ?_
  have h := crcNot_nat (s.foldl crcByte (crcNot 0))
  have e : crcSum s = ((crcSum s).toNat : Int) := (Int.toNat_of_nonneg h.1).symm
  rw [e]
  have h : ((crcSum s).toNat : Int) < 4294967296 := by rw [← e]; exact h.2
  (refine V0 ?_; repeat (refine VHyp.go (fun _ => ?_); refine V0 ?_))
  refine (fields_PutLittle (crcSum s).toNat 4 (by decide) (by decide)).call [] ?_
  (refine V0 ?_; repeat (refine VHyp.go (fun _ => ?_); refine V0 ?_))
  exact .fin []
theorem crc_Right (hG : Globs G) (s d : Bytes) (hs : s.length ≤ 9223372036854775807) : Fun prog G f_crc_Right [.str s, .str d] [] (.bool (decide (d = digest s))) [] := by
  refine .of (mk_crc_Right rfl ⟨?_⟩)
  (refine V0 ?_; repeat (refine VHyp.go (fun _ => ?_); refine V0 ?_))
  refine (crc_Digest hG s hs).call [] ?_
  (refine V0 ?_; repeat (refine VHyp.go (fun _ => ?_); refine V0 ?_))
  exact .fin []
end
end Go.V
