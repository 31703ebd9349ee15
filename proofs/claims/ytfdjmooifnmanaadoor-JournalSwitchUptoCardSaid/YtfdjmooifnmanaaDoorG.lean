/- Contracts of the package frame. -/
import Derived.Test.YtfdjmooifnmanaaDoorC
import Derived.Test.YtfdjmooifnmanaaDoorM1
namespace Go.V
section
variable {G : Glob}

theorem secs_wrap {n : Nat} (h : n ≤ 65536) : IntKind.i64.wrap (((n : Int) + 24 + 512 - 1).tdiv 512) = (secs n : Int) := by
  obtain ⟨m, hm⟩ : ∃ m : Nat, m = n + 24 + 511 := ⟨_, rfl⟩
  rw [show (n : Int) + 24 + 512 - 1 = (m : Int) by omega, wdiv512 (by omega), hm]; rfl
theorem frame_Sectors (n : Nat) (h : n ≤ 65536) : Fun prog G f_frame_Sectors [.int .i64 n] [] (.int .i64 (secs n)) [] := by
  refine .of (mk_frame_Sectors rfl ⟨?_⟩)
  (conv => whnf)
  refine VIf.df (by omega) ?_
  (conv => whnf)
  refine VIf.df (by omega) ?_
  (conv => whnf)
  refine VWrap.mk _ (w64 (by omega)) ?_
  (conv => whnf)
  refine VWrap.mk _ (w64 (by omega)) ?_
  (conv => whnf)
  refine VWrap.mk _ (w64 (by omega)) ?_
  (conv => whnf)
  refine VSide.mk (by decide) ?_
  (conv => whnf)
  refine VWrap.mk _ (secs_wrap h) ?_
  (refine V0 ?_; repeat (refine VHyp.go (fun _ => ?_); refine V0 ?_))
  exact .fin []
theorem frame_Sectors_big (n : Nat) (h : 65536 < n) : Fun prog G f_frame_Sectors [.int .i64 n] [] (.int .i64 0) [] := by
  refine .of (mk_frame_Sectors rfl ⟨?_⟩)
  (refine V0 ?_; repeat (refine VHyp.go (fun _ => ?_); refine V0 ?_))
  exact .fin []
theorem frame_Put (hG : Globs G) (n : Nat) (text : Bytes) (h : text.length ≤ 65536) : Fun prog G f_frame_Put [.int .u64 n, .str text] [] (.tup [.str (frameB n text), .int .i64 0]) [] := by
  refine .of (mk_frame_Put rfl ⟨?_⟩)
  (refine V0 ?_; repeat (refine VHyp.go (fun _ => ?_); refine V0 ?_))
  refine (fields_PutBig n 8 (by decide) (by decide)).call [] ?_
  have h8 := putBE_len 8 n
  have h4 := putBE_len 4 text.length
  (refine V0 ?_; repeat (refine VHyp.go (fun _ => ?_); refine V0 ?_))
  refine (fields_PutBig text.length 4 (by decide) (by decide)).call [] ?_
  (refine V0 ?_; repeat (refine VHyp.go (fun _ => ?_); refine V0 ?_))
  have hh := headF_len n text
  have hd := digest_len (headF n text)
  have hd2 := digest_len text
  refine (crc_Digest hG (headF n text) (by omega)).call [] ?_
  (refine V0 ?_; repeat (refine VHyp.go (fun _ => ?_); refine V0 ?_))
  refine (crc_Digest hG text (by omega)).call [] ?_
  (refine V0 ?_; repeat (refine VHyp.go (fun _ => ?_); refine V0 ?_))
  refine (fields_Pad (headF n text ++ digest (headF n text) ++ text ++ digest text) (by simp only [List.length_append]; omega)).call [] ?_
  (refine V0 ?_; repeat (refine VHyp.go (fun _ => ?_); refine V0 ?_))
  exact .fin []
theorem frame_Put_long (n : Nat) (text : Bytes) (h : 65536 < text.length) : Fun prog G f_frame_Put [.int .u64 n, .str text] [] (.tup [.str [], .int .i64 2]) [] := by
  refine .of (mk_frame_Put rfl ⟨?_⟩)
  (refine V0 ?_; repeat (refine VHyp.go (fun _ => ?_); refine V0 ?_))
  exact .fin []
theorem frame_want (e : Int) : Fun prog G f_frame_want [.bool true, .int .i64 e] [] (.tup []) [] := by
  refine .of (mk_frame_want rfl ⟨?_⟩)
  (refine V0 ?_; repeat (refine VHyp.go (fun _ => ?_); refine V0 ?_))
  exact .fin []
theorem frame_want' (b : Bool) (hb : b = true) (e : Int) : Fun prog G f_frame_want [.bool b, .int .i64 e] [] (.tup []) [] := by
  subst hb; exact frame_want e
theorem trim_zeros (n : Nat) : Lib.trimB (zeros n) 0 = [] := by
  have h : ∀ n, (List.replicate n (0 : UInt8)).dropWhile (· == 0) = [] := fun n => by induction n with
    | zero => rfl
    | succ n ih => simp [List.replicate_succ]
  simp [Lib.trimB, Lib.trimRightB, Lib.trimLeftB, zeros, List.reverse_replicate]
theorem frame_got (hG : Globs G) {s : Bytes} {n : Nat} {text : Bytes} (hf : FrameAt s n text) (ht : text.length ≤ 65536) (hs : s.length ≤ 140737488350000) (_hn : n < 18446744073709551616) :
    Fun prog G f_frame_got [.str s] [] (.tup [.int .u64 n, .str text, .int .i64 (secs text.length * 512 : Nat)]) [] := by
  refine .of (mk_frame_got rfl ⟨?_⟩)
  have hl := hf.len
  have hsec : secs text.length * 512 ≥ 20 + text.length + 4 := by unfold secs; omega
  (refine V0 ?_; repeat (refine VHyp.go (fun _ => ?_); refine V0 ?_))
  refine (str_HasPrefix (s := s) (t := markF)).call [] ?_
  rw [hf.mark]
  (refine V0 ?_; repeat (refine VHyp.go (fun _ => ?_); refine V0 ?_))
  refine (frame_want 50).call [] ?_
  (refine V0 ?_; repeat (refine VHyp.go (fun _ => ?_); refine V0 ?_))
  refine (crc_Right hG (s.take 16) ((s.take 20).drop 16) (by rw [List.length_take]; omega)).call [] ?_
  rw [hf.sum, decide_eq_true rfl]
  (refine V0 ?_; repeat (refine VHyp.go (fun _ => ?_); refine V0 ?_))
  refine (frame_want 51).call [] ?_
  (refine V0 ?_; repeat (refine VHyp.go (fun _ => ?_); refine V0 ?_))
  refine (fields_Big s 4 8 (by decide) (by decide) (by omega) (by omega)).call [] ?_
  rw [hf.num]
  (refine V0 ?_; repeat (refine VHyp.go (fun _ => ?_); refine V0 ?_))
  refine (fields_Big s 12 4 (by decide) (by decide) (by omega) (by omega)).call [] ?_
  rw [hf.long]
  (refine V0 ?_; repeat (refine VHyp.go (fun _ => ?_); refine V0 ?_))
  refine (frame_want' (decide ((text.length : Int) ≤ 65536)) (decide_eq_true (by omega)) 50).call [] ?_
  (refine V0 ?_; repeat (refine VHyp.go (fun _ => ?_); refine V0 ?_))
  refine (frame_Sectors text.length ht).call [] ?_
  (refine V0 ?_; repeat (refine VHyp.go (fun _ => ?_); refine V0 ?_))
  refine (frame_want' (decide ((secs text.length : Int) * 512 ≤ s.length)) (decide_eq_true (by omega)) 50).call [] ?_
  (refine V0 ?_; repeat (refine VHyp.go (fun _ => ?_); refine V0 ?_))
  have e1 : (s.take (20 + (text.length : Int)).toNat).drop (Int.toNat 20) = text := by
    rw [show (20 + (text.length : Int)).toNat = 20 + text.length by omega]; exact hf.body
  have e2 : (s.take (20 + (text.length : Int) + 4).toNat).drop (20 + (text.length : Int)).toNat = digest text := by
    rw [show (20 + (text.length : Int)).toNat = 20 + text.length by omega, show (20 + (text.length : Int) + 4).toNat = 20 + text.length + 4 by omega]; exact hf.sum2
  have e3 : (s.take ((secs text.length : Int) * 512).toNat).drop (20 + (text.length : Int) + 4).toNat = zeros (secs text.length * 512 - (20 + text.length + 4)) := by
    rw [show ((secs text.length : Int) * 512).toNat = secs text.length * 512 by omega, show (20 + (text.length : Int) + 4).toNat = 20 + text.length + 4 by omega]; exact hf.rest
  rw [e1]
  refine (crc_Right hG text (digest text) (by omega)).call [] ?_ (by rw [← e2]; rfl)
  rw [decide_eq_true rfl]
  (refine V0 ?_; repeat (refine VHyp.go (fun _ => ?_); refine V0 ?_))
  refine (frame_want 51).call [] ?_
  (refine V0 ?_; repeat (refine VHyp.go (fun _ => ?_); refine V0 ?_))
  refine (str_Trim (s := zeros (secs text.length * 512 - (20 + text.length + 4))) (c := 0) (by decide) (by rw [zeros_len]; omega)).call [] ?_ (by rw [← e3]; rfl)
  rw [trim_zeros]
  (refine V0 ?_; repeat (refine VHyp.go (fun _ => ?_); refine V0 ?_))
  refine (frame_want 50).call [] ?_
  (refine V0 ?_; repeat (refine VHyp.go (fun _ => ?_); refine V0 ?_))
  exact .fin []
theorem frame_Get (hG : Globs G) {s : Bytes} {n : Nat} {text : Bytes} (hf : FrameAt s n text) (ht : text.length ≤ 65536) (hs : s.length ≤ 140737488350000) (hn : n < 18446744073709551616) :
    Fun prog G f_frame_Get [.str s] [] (.tup [.int .u64 n, .str text, .int .i64 (secs text.length * 512 : Nat), .int .i64 0]) [] := by
  refine .of (con_defer (g := f_frame_Get_1) (caps := [2, 3, 4, 5]) (s := 6) (sc := s_frame_Get) (rs := r_frame_Get) rfl func_frame_Get (by kernel_rfl) (by kernel_rfl) (by kernel_rfl) (by rw [ntmps_frame_Get]; show 6 < max 16 1; decide) (fun vs w h => idle_Get vs w h) ⟨?_⟩)
  (refine V0 ?_; repeat (refine VHyp.go (fun _ => ?_); refine V0 ?_))
  refine (frame_got hG hf ht hs hn).call [] ?_
  (refine V0 ?_; repeat (refine VHyp.go (fun _ => ?_); refine V0 ?_))
  exact .fin []
end
end Go.V
