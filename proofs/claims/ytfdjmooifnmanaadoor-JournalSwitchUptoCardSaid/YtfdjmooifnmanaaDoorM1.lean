/- Plain: frames. -/
import Derived.Test.YtfdjmooifnmanaaDoorF
namespace Go.V

def markF : Bytes := [72, 71, 70, 82]
/-- how many sectors a frame of a text of so many bytes has -/
def secs (n : Nat) : Nat := (n + 24 + 511) / 512
def headF (n : Nat) (text : Bytes) : Bytes := markF ++ putBE 8 n ++ putBE 4 text.length
/-- a frame -/
def frameB (n : Nat) (text : Bytes) : Bytes := padB (headF n text ++ digest (headF n text) ++ text ++ digest text)

theorem headF_len (n : Nat) (text : Bytes) : (headF n text).length = 16 := by simp [headF, markF, putBE_len]
theorem padB_len (s : Bytes) : (padB s).length = (s.length + 511) / 512 * 512 := by
  simp only [padB, List.length_append, zeros_len]; omega
theorem frameB_len (n : Nat) (text : Bytes) : (frameB n text).length = secs text.length * 512 := by
  rw [frameB, padB_len]; simp [headF_len, digest_len, secs]; omega

/-- a frame lies at the beginning -/
structure FrameAt (s : Bytes) (n : Nat) (text : Bytes) : Prop where
  len : secs text.length * 512 ≤ s.length
  mark : markF.isPrefixOf s = true
  sum : (s.take 20).drop 16 = digest (s.take 16)
  num : beN (getB s 4 8) = n
  long : beN (getB s 12 4) = text.length
  body : (s.take (20 + text.length)).drop 20 = text
  sum2 : (s.take (20 + text.length + 4)).drop (20 + text.length) = digest text
  rest : (s.take (secs text.length * 512)).drop (20 + text.length + 4) = zeros (secs text.length * 512 - (20 + text.length + 4))

theorem take_drop_mid {α : Type} (a b c : List α) {n m : Nat} (hn : n = a.length) (hm : m = a.length + b.length) : ((a ++ b ++ c).take m).drop n = b := by
  subst hn hm
  rw [List.append_assoc, List.take_length_add_append, List.drop_left]
  simp
theorem getB_mid {a b c : Bytes} {n m : Nat} (hn : n = a.length) (hm : m = b.length) : getB (a ++ b ++ c) n m = b := by
  subst hn hm
  simp [getB, List.append_assoc]

theorem frameAt (n : Nat) (text t : Bytes) (hn : n < 256 ^ 8) (ht : text.length < 256 ^ 4) : FrameAt (frameB n text ++ t) n text := by
  have hh := headF_len n text
  have hd := digest_len (headF n text)
  have hd2 := digest_len text
  have hb : (putBE 8 n).length = 8 := putBE_len _ _
  have hb2 : (putBE 4 text.length).length = 4 := putBE_len _ _
  have hm : markF.length = 4 := rfl
  have hs : secs text.length * 512 = 20 + text.length + 4 + (512 - (20 + text.length + 4) % 512) % 512 := by unfold secs; omega
  have hz := zeros_len ((512 - (headF n text ++ digest (headF n text) ++ text ++ digest text).length % 512) % 512)
  refine ⟨by simp [frameB_len], ?_, ?_, ?_, ?_, ?_, ?_, ?_⟩
  · simp [frameB, padB, headF, markF, List.append_assoc]
  · have e : frameB n text ++ t = headF n text ++ digest (headF n text) ++ (text ++ digest text ++ zeros ((512 - (headF n text ++ digest (headF n text) ++ text ++ digest text).length % 512) % 512) ++ t) := by simp [frameB, padB, List.append_assoc]
    rw [e, take_drop_mid _ _ _ (by omega) (by omega), List.append_assoc, List.take_append_of_le_length (by omega), List.take_of_length_le (by omega)]
  · have e : frameB n text ++ t = markF ++ putBE 8 n ++ (putBE 4 text.length ++ digest (headF n text) ++ text ++ digest text ++ zeros ((512 - (headF n text ++ digest (headF n text) ++ text ++ digest text).length % 512) % 512) ++ t) := by simp [frameB, padB, headF, List.append_assoc]
    rw [e, getB_mid (by omega) (by omega), beN_putBE, Nat.mod_eq_of_lt hn]
  · have e : frameB n text ++ t = (markF ++ putBE 8 n) ++ putBE 4 text.length ++ (digest (headF n text) ++ text ++ digest text ++ zeros ((512 - (headF n text ++ digest (headF n text) ++ text ++ digest text).length % 512) % 512) ++ t) := by simp [frameB, padB, headF, List.append_assoc]
    rw [e, getB_mid (by simp; omega) (by omega), beN_putBE, Nat.mod_eq_of_lt ht]
  · have e : frameB n text ++ t = (headF n text ++ digest (headF n text)) ++ text ++ (digest text ++ zeros ((512 - (headF n text ++ digest (headF n text) ++ text ++ digest text).length % 512) % 512) ++ t) := by simp [frameB, padB, List.append_assoc]
    rw [e, take_drop_mid _ _ _ (by simp; omega) (by simp; omega)]
  · have e : frameB n text ++ t = (headF n text ++ digest (headF n text) ++ text) ++ digest text ++ (zeros ((512 - (headF n text ++ digest (headF n text) ++ text ++ digest text).length % 512) % 512) ++ t) := by simp [frameB, padB, List.append_assoc]
    rw [e, take_drop_mid _ _ _ (by simp; omega) (by simp; omega)]
  · have e : frameB n text ++ t = (headF n text ++ digest (headF n text) ++ text ++ digest text) ++ zeros ((512 - (headF n text ++ digest (headF n text) ++ text ++ digest text).length % 512) % 512) ++ t := by simp [frameB, padB, List.append_assoc]
    have hl : (headF n text ++ digest (headF n text) ++ text ++ digest text).length = 20 + text.length + 4 := by
      clear hs hz e; simp only [List.length_append, hh, hd, hd2]
    rw [hl] at hz e
    rw [e, take_drop_mid _ _ _ (by rw [hl]) (by rw [hz, hl]; exact hs)]
    congr 1
    omega
end Go.V
