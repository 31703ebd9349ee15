/- Plain: numbers in bytes, and a few words on lists. -/
import Derived.Test.YtfdjmooifnmanaaDoorVE
namespace Go.V

def zeros (n : Nat) : Bytes := List.replicate n 0
theorem zeros_len (n : Nat) : (zeros n).length = n := List.length_replicate
theorem toB_zeros (n : Nat) : toB (List.replicate n 0) = zeros n := by simp [toB, zeros]

theorem snoc_ind {α : Type} {P : List α → Prop} (h0 : P []) (hs : ∀ l x, P l → P (l ++ [x])) (l : List α) : P l := by
  rw [← List.reverse_reverse l]
  induction l.reverse with
  | nil => exact h0
  | cons x r ih => rw [List.reverse_cons]; exact hs _ _ ih

/-- the number of bytes, the highest first -/
def beN (l : Bytes) : Nat := l.foldl (fun v b => v * 256 + b.toNat) 0
theorem beN_snoc (l : Bytes) (b : UInt8) : beN (l ++ [b]) = beN l * 256 + b.toNat := by simp [beN]
theorem beN_lt (l : Bytes) : beN l < 256 ^ l.length := by
  induction l using snoc_ind with
  | h0 => simp [beN]
  | hs l b ih => rw [beN_snoc]; have := b.toNat_lt; simp only [List.length_append, List.length_cons, List.length_nil, Nat.pow_succ]; simp; omega

/-- a number's n bytes, the highest first -/
def putBE : Nat → Nat → Bytes
  | 0, _ => []
  | n + 1, v => putBE n (v / 256) ++ [UInt8.ofNat v]
theorem putBE_len : ∀ n v, (putBE n v).length = n
  | 0, _ => rfl
  | n + 1, v => by simp [putBE, putBE_len n]
theorem beN_putBE : ∀ n v, beN (putBE n v) = v % 256 ^ n
  | 0, v => by simp [putBE, beN, Nat.mod_one]
  | n + 1, v => by
    rw [putBE, beN_snoc, beN_putBE n, Nat.pow_succ, Nat.mul_comm (256 ^ n) 256, Nat.mod_mul, UInt8.toNat_ofNat']
    omega
theorem putBE_beN (l : Bytes) : putBE l.length (beN l) = l := by
  induction l using snoc_ind with
  | h0 => rfl
  | hs l b ih =>
    have h1 : (beN l * 256 + b.toNat) / 256 = beN l := by have := b.toNat_lt; omega
    have h2 : UInt8.ofNat (beN l * 256 + b.toNat) = b := by
      apply UInt8.toNat_inj.1
      rw [UInt8.toNat_ofNat']; have := b.toNat_lt; omega
    rw [beN_snoc, List.length_append, List.length_cons, List.length_nil, putBE, h1, ih, h2]
theorem putBE_get : ∀ (n v i : Nat), i < n → (putBE n v)[i]? = some (UInt8.ofNat (v / 256 ^ (n - 1 - i)))
  | 0, _, _, h => by omega
  | n + 1, v, i, h => by
    rw [putBE]
    by_cases hi : i < n
    · rw [List.getElem?_append_left (by rw [putBE_len]; exact hi), putBE_get n _ i hi, Nat.div_div_eq_div_mul, show n + 1 - 1 - i = (n - 1 - i) + 1 by omega, Nat.pow_succ, Nat.mul_comm]
    · have : i = n := by omega
      subst this
      rw [List.getElem?_append_right (by rw [putBE_len]; exact Nat.le_refl _), putBE_len]
      simp
/-- the same, the lowest first -/
def putLE : Nat → Nat → Bytes
  | 0, _ => []
  | n + 1, v => UInt8.ofNat v :: putLE n (v / 256)
theorem putLE_len : ∀ n v, (putLE n v).length = n
  | 0, _ => rfl
  | n + 1, v => by simp [putLE, putLE_len n]
theorem putLE_get : ∀ (n v i : Nat), i < n → (putLE n v)[i]? = some (UInt8.ofNat (v / 256 ^ i))
  | 0, _, _, h => by omega
  | n + 1, v, 0, _ => by simp [putLE]
  | n + 1, v, i + 1, h => by
    rw [putLE, List.getElem?_cons_succ, putLE_get n _ i (by omega), Nat.div_div_eq_div_mul, Nat.pow_succ, Nat.mul_comm]

theorem ofB_len (s : Bytes) : (ofB s).length = s.length := by simp [ofB]
theorem ofB_get (s : Bytes) (i : Nat) : (ofB s)[i]? = (s[i]?).map fun b => (b.toNat : Int) := by simp [ofB]
theorem ofB_append (s t : Bytes) : ofB (s ++ t) = ofB s ++ ofB t := by simp [ofB]
theorem take_next {α : Type} {l : List α} {i : Nat} {x : α} (h : l[i]? = some x) : l.take (i + 1) = l.take i ++ [x] := by
  obtain ⟨hi, rfl⟩ := List.getElem?_eq_some_iff.1 h
  rw [List.take_succ_eq_append_getElem hi]
theorem getD_some {α : Type} {l : List α} {i : Nat} {d x : α} (h : l[i]? = some x) : l.getD i d = x := by simp [List.getD, h]

/-- the shifts of a number's bytes -/
def shiftsL (n : Nat) (big : Bool) : List Int := (List.range n).map fun i => ((bif big then 8 * (n - 1 - i) else 8 * i : Nat) : Int)
theorem shiftsL_len (n : Nat) (big : Bool) : (shiftsL n big).length = n := by simp [shiftsL]
theorem shiftsL_get (n : Nat) (big : Bool) (i : Nat) (h : i < n) : (shiftsL n big)[i]? = some ((bif big then 8 * (n - 1 - i) else 8 * i : Nat) : Int) := by simp [shiftsL, h]

theorem pow8 (k : Nat) : 2 ^ (8 * k) = 256 ^ k := by rw [Nat.pow_mul]
theorem or_add (a m b : Nat) (h : b < 2 ^ m) : a * 2 ^ m ||| b = a * 2 ^ m + b := by rw [Nat.mul_comm, Nat.two_pow_add_eq_or_of_lt h]
theorem u64_nat (n : Nat) (h : n < 18446744073709551616) : IntKind.u64.wrap (n : Int) = n := wu64 (by omega)
theorem or64 (a b : Nat) (ha : a < 18446744073709551616) (hb : b < 18446744073709551616) : (BitVec.ofInt IntKind.u64.bits (a : Int) ||| BitVec.ofInt IntKind.u64.bits (b : Int)).toNat = a ||| b := by
  show (BitVec.ofInt 64 (a : Int) ||| BitVec.ofInt 64 (b : Int)).toNat = _
  rw [BitVec.ofInt_natCast, BitVec.ofInt_natCast, BitVec.toNat_or, BitVec.toNat_ofNat, BitVec.toNat_ofNat, Nat.mod_eq_of_lt ha, Nat.mod_eq_of_lt hb]
/-- a byte more of a number -/
theorem or_byte (a k b : Nat) (hb : b < 256) (h : (a * 256 + b) * 256 ^ k < 18446744073709551616) (hk : 8 * k < 64) :
    IntKind.u64.wrap ((BitVec.ofInt IntKind.u64.bits ((a * 256 ^ (k + 1) : Nat) : Int) ||| BitVec.ofInt IntKind.u64.bits (IntKind.u64.wrap ((b : Int) * 2 ^ (min (Int.toNat ((8 * k : Nat) : Int)) IntKind.u64.bits)))).toNat : Int) = (((a * 256 + b) * 256 ^ k : Nat) : Int) := by
  have e1 : a * 256 ^ (k + 1) = (a * 256) * 256 ^ k := by rw [Nat.pow_succ, Nat.mul_assoc, Nat.mul_comm 256]
  have e2 : (a * 256 + b) * 256 ^ k = (a * 256) * 256 ^ k + b * 256 ^ k := Nat.add_mul ..
  have e3 : min (Int.toNat ((8 * k : Nat) : Int)) IntKind.u64.bits = 8 * k := by show min _ 64 = _; simp; omega
  have hb2 : b * 256 ^ k < 18446744073709551616 := by omega
  have ha2 : a * 256 ^ (k + 1) < 18446744073709551616 := by omega
  have e4 : ((b : Int) * 2 ^ (8 * k)) = ((b * 256 ^ k : Nat) : Int) := by rw [← pow8]; simp
  rw [e3, e4, u64_nat _ hb2, or64 _ _ ha2 hb2]
  have e5 : a * 256 ^ (k + 1) ||| b * 256 ^ k = (a * 256 + b) * 256 ^ k := by
    have h1 : a * 256 ^ (k + 1) = a * 2 ^ (8 * k + 8) := by rw [show 8 * k + 8 = 8 * (k + 1) by omega, pow8]
    have h2 : b * 256 ^ k < 2 ^ (8 * k + 8) := by
      rw [show 8 * k + 8 = 8 * (k + 1) by omega, pow8, Nat.pow_succ, Nat.mul_comm]
      exact Nat.mul_lt_mul_of_pos_left hb (Nat.pow_pos (by omega))
    rw [h1, or_add _ _ _ h2, ← h1, e1, e2]
  rw [e5]
  exact u64_nat _ h
/-- one byte of a number -/
theorem shr_byte (v k : Nat) (hk : 8 * k < 64) : IntKind.u8.wrap ((v : Int).fdiv (2 ^ (min (Int.toNat ((8 * k : Nat) : Int)) IntKind.u64.bits))) = ((UInt8.ofNat (v / 256 ^ k)).toNat : Int) := by
  have e3 : min (Int.toNat ((8 * k : Nat) : Int)) IntKind.u64.bits = 8 * k := by show min _ 64 = _; simp; omega
  have e4 : (2 : Int) ^ (8 * k) = ((256 ^ k : Nat) : Int) := by rw [← pow8]; simp
  rw [e3, e4, ← Int.ofNat_fdiv, UInt8.toNat_ofNat']
  show IntKind.u8.wrap (((v / 256 ^ k : Nat)) : Int) = _
  rw [IntKind.wrap_u8]
  omega
theorem and15 (w : Int) : 0 ≤ IntKind.u32.wrap (BitVec.ofInt IntKind.u32.bits w &&& BitVec.ofInt IntKind.u32.bits 15).toNat ∧ IntKind.u32.wrap (BitVec.ofInt IntKind.u32.bits w &&& BitVec.ofInt IntKind.u32.bits 15).toNat < 16 := by
  have h : (BitVec.ofInt IntKind.u32.bits w &&& BitVec.ofInt IntKind.u32.bits 15).toNat ≤ 15 := by
    show (BitVec.ofInt 32 w &&& BitVec.ofInt 32 15).toNat ≤ 15
    rw [BitVec.toNat_and]
    exact Nat.and_le_right
  rw [wu32 (by omega)]
  omega
/-- a number's bytes -/
def putB (n : Nat) (big : Bool) (v : Nat) : Bytes := bif big then putBE n v else putLE n v
theorem putB_len (n : Nat) (big : Bool) (v : Nat) : (putB n big v).length = n := by cases big <;> simp [putB, putBE_len, putLE_len]
theorem putB_get (n : Nat) (big : Bool) (v i : Nat) (h : i < n) : (putB n big v)[i]? = some (UInt8.ofNat (v / 256 ^ (bif big then n - 1 - i else i))) := by
  cases big
  · exact putLE_get n v i h
  · exact putBE_get n v i h
theorem shiftsL_get' (n : Nat) (big : Bool) (i : Nat) (h : i < n) : (shiftsL n big)[i]? = some ((8 * (bif big then n - 1 - i else i) : Nat) : Int) := by rw [shiftsL_get n big i h]; cases big <;> rfl
end Go.V
