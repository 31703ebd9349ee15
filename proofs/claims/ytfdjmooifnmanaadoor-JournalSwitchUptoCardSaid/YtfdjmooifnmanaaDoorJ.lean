/- Contracts of the package journal. -/
import Derived.Test.YtfdjmooifnmanaaDoorD
import Derived.Test.YtfdjmooifnmanaaDoorG
import Derived.Test.YtfdjmooifnmanaaDoorCJ
namespace Go.V

structure JourM where
  from' : Nat
  half : Nat
  active : Nat
  seq : Nat
  base : Bytes
  records : List Bytes
  used : Nat
  held : Bool
  unfit : Bool

def jourL (j : JourM) : List SO :=
  [.cells [.ptr 2 0, .int .i64 j.from', .int .i64 j.half, .int .i64 j.active, .int .i64 j.seq, .str j.base, .ref 1, .int .i64 j.used, .bool j.held, .bool j.unfit], .list (strC ty_string) j.records]
/-- a journal; its device has the name k -/
def jourO (k : Nat) (j : JourM) : SO := pack [k] (jourL j)
/-- the same, opened: the journal, its device, the journal's records -/
def jourH (j : JourM) (d : DevM) : List SO :=
  [.cells [.ptr 1 0, .int .i64 j.from', .int .i64 j.half, .int .i64 j.active, .int .i64 j.seq, .str j.base, .ref 2, .int .i64 j.used, .bool j.held, .bool j.unfit], devO d, .list (strC ty_string) j.records]
theorem jour_open (j : JourM) (d : DevM) : HEnt [jourO 1 j, devO d] (jourH j d) := HEnt.unpack (H := [jourO 1 j, devO d]) (n := 0) (ns := [1]) rfl (by simp [jourL])

section
variable {G : Glob}
/-- what is done with the parts is done with the journal -/
theorem Fun.jour {f : FuncId} {args : List SV} {j j' : JourM} {d d' : DevM} {v : SV} (h : Fun prog G f args (jourH j d) v (jourH j' d')) (hv : v = renS (sgn [0, 1] 0) v := by rfl) (nv : (nlS 2 v) = true := by rfl) : Fun prog G f args [jourO 1 j, devO d] v [jourO 1 j', devO d'] :=
  Fun.via (jourH j d) (jour_open j d) h [jourO 1 j', devO d', .gone] (HEnt.close 0 [2] [1] (jourL j') ⟨rfl, rfl, trivial⟩ rfl .rfl rfl) [0, 1] hv rfl (by rw [show lenO [jourO 1 j', devO d'] = 2 from rfl, nv]; rfl)
theorem Fun.jour' {f : FuncId} {args : List SV} {j j' : JourM} {d d' : DevM} {v : SV} (h : Con prog G f args (jourH j d) (fun v1 H1 => VRet 2 v1 H1 (fun v2 H2 => v2 = v ∧ H2 = [jourO 1 j', devO d'])) (fun _ _ => False)) : Fun prog G f args [jourO 1 j, devO d] v [jourO 1 j', devO d'] :=
  .of (Con.open' (jourH j d) (jour_open j d) (h.mono (fun _ _ h => h) (fun _ _ h => h.elim)))

theorem jour_place (j : JourM) (d : DevM) (half at' : Nat) (h : j.from' + 4 + half * j.half + at' ≤ 1000000000) (_hh : half ≤ 1) : Fun prog G f_journal_Journal_place [.ptr 0 0, .int .i64 half, .int .i64 at'] (jourH j d) (.int .i64 (j.from' + 4 + half * j.half + at' : Nat)) (jourH j d) := by
  refine .of (mk_journal_Journal_place rfl ⟨?_⟩)
  have h1 : half * j.half ≤ 1000000000 := by omega
  generalize hq : half * j.half = q at *
  have hq' : (half : Int) * (j.half : Int) = q := by rw [← hq]; simp
  (refine V0 ?_; repeat (refine VHyp.go (fun _ => ?_); refine V0 ?_))
  exact .fin [0, 1, 2] (by show SV.int .i64 _ = SV.int .i64 _; congr 1; omega)
theorem jour_failed (j : JourM) (d : DevM) (ok : Bool) : Fun prog G f_journal_Journal_failed [.ptr 0 0, .int .i64 (bif ok then 0 else 41)] (jourH j d) (.int .i64 (bif ok then 0 else 41)) (jourH { j with unfit := j.unfit || !ok } d) := by
  refine .of (mk_journal_Journal_failed rfl ⟨?_⟩)
  obtain ⟨a1, a2, a3, a4, a5, a6, a7, a8, unfit⟩ := j
  cases ok <;> cases unfit <;> (refine V0 ?_; repeat (refine VHyp.go (fun _ => ?_); refine V0 ?_)) <;> exact .fin [0, 1, 2]
def JourM.flush (j : JourM) (d : DevM) : JourM := { j with unfit := j.unfit || !d.oper, held := j.held && !d.oper }
theorem jour_flush (j : JourM) (d : DevM) (hd : d.wf) : Fun prog G f_journal_Journal_flush [.ptr 0 0] (jourH j d) (.int .i64 (bif d.oper then 0 else 41)) (jourH (j.flush d) d.flush) := by
  refine .of (mk_journal_Journal_flush rfl ⟨?_⟩)
  (refine V0 ?_; repeat (refine VHyp.go (fun _ => ?_); refine V0 ?_))
  refine (dev_Flush d hd).call [1] ?_
  (refine V0 ?_; repeat (refine VHyp.go (fun _ => ?_); refine V0 ?_))
  refine (jour_failed j d.flush d.oper).call [0, 1, 2] ?_
  unfold JourM.flush
  cases d.oper with
  | true =>
    (refine V0 ?_; repeat (refine VHyp.go (fun _ => ?_); refine V0 ?_))
    exact .fin [0, 1, 2] rfl (by simp; rfl)
  | false =>
    (refine V0 ?_; repeat (refine VHyp.go (fun _ => ?_); refine V0 ?_))
    exact .fin [0, 1, 2] rfl (by simp; rfl)

def markJ : Bytes := [72, 71, 74, 67]
/-- a slot -/
def slotB (seq half frames : Nat) : Bytes := markJ ++ putBE 8 seq ++ putBE 4 half ++ putBE 4 frames ++ (zeros 484 ++ putBE 8 seq)
theorem slotB_len (seq half frames : Nat) : (slotB seq half frames).length = 512 := by simp [slotB, markJ, putBE_len, zeros_len]
def JourM.place (j : JourM) (half at' : Nat) : Nat := j.from' + 4 + half * j.half + at'
def JourM.puts (j : JourM) (d : DevM) (half at' : Nat) (text : Bytes) (frames : Nat) : JourM × DevM × Bool :=
  let w1 := d.wr (j.place half at') (frameB (j.seq + 1) text)
  bif w1.2 then
    bif w1.1.oper then
      let w3 := w1.1.flush.wr (j.from' + (j.seq + 1) % 2) (slotB (j.seq + 1) half frames)
      bif w3.2 then ({ j.flush w1.1 with seq := j.seq + 1, held := true }, w3.1, true) else ({ j.flush w1.1 with unfit := true }, w3.1, false)
    else (j.flush w1.1, w1.1.flush, false)
  else ({ j with unfit := true }, w1.1, false)

theorem puts_1 {j : JourM} {d d1 : DevM} {half at' : Nat} {text : Bytes} {frames : Nat} (h : d.wr (j.place half at') (frameB (j.seq + 1) text) = (d1, false)) : j.puts d half at' text frames = ({ j with unfit := true }, d1, false) := by
  simp only [JourM.puts, h, cond_false]
theorem puts_2 {j : JourM} {d d1 : DevM} {half at' : Nat} {text : Bytes} {frames : Nat} (h : d.wr (j.place half at') (frameB (j.seq + 1) text) = (d1, true)) (ho : d1.oper = false) : j.puts d half at' text frames = (j.flush d1, d1.flush, false) := by
  simp only [JourM.puts, h, ho, cond_false, cond_true]
theorem puts_3 {j : JourM} {d d1 d3 : DevM} {half at' : Nat} {text : Bytes} {frames : Nat} (h : d.wr (j.place half at') (frameB (j.seq + 1) text) = (d1, true)) (ho : d1.oper = true)
    (h3 : d1.flush.wr (j.from' + (j.seq + 1) % 2) (slotB (j.seq + 1) half frames) = (d3, false)) : j.puts d half at' text frames = ({ j.flush d1 with unfit := true }, d3, false) := by
  simp only [JourM.puts, h, ho, h3, cond_false, cond_true]
theorem puts_4 {j : JourM} {d d1 d3 : DevM} {half at' : Nat} {text : Bytes} {frames : Nat} (h : d.wr (j.place half at') (frameB (j.seq + 1) text) = (d1, true)) (ho : d1.oper = true)
    (h3 : d1.flush.wr (j.from' + (j.seq + 1) % 2) (slotB (j.seq + 1) half frames) = (d3, true)) : j.puts d half at' text frames = ({ j.flush d1 with seq := j.seq + 1, held := true }, d3, true) := by
  simp only [JourM.puts, h, ho, h3, cond_true]

/-- where a journal lies there is room for it -/
structure JourM.fits (j : JourM) (d : DevM) : Prop where
  room : j.from' + 4 + 2 * j.half ≤ d.safe.length
  seq : j.seq < 1000000000000
  active : j.active ≤ 1
  used : j.used ≤ j.half
  recs : j.records.length ≤ 1000000

theorem rep_one (n : Nat) : (List.replicate n [(0 : UInt8)]).flatten = zeros n := by
  induction n with
  | zero => rfl
  | succ n ih => rw [List.replicate_succ, List.flatten_cons, ih]; simp [zeros, List.replicate_succ]

theorem jour_puts (hG : Globs G) (j : JourM) (d : DevM) (hd : d.wf) (hj : j.fits d) (hh : d.held.length ≤ 1000000) (half at' : Nat) (text : Bytes) (frames : Nat) (h1 : half ≤ 1) (h2 : at' + secs text.length ≤ j.half) (h3 : text.length ≤ 65536) (h4 : frames ≤ 1000010) :
    Fun prog G f_journal_Journal_puts [.ptr 0 0, .int .i64 half, .int .i64 at', .str text, .int .i64 frames] (jourH j d) (.int .i64 (bif (j.puts d half at' text frames).2.2 then 0 else 41)) (jourH (j.puts d half at' text frames).1 (j.puts d half at' text frames).2.1) := by
  refine .of (mk_journal_Journal_puts rfl ⟨?_⟩)
  have hr := hj.room
  have hs := hj.seq
  have hz := hd.size
  have hfl := frameB_len (j.seq + 1) text
  have hsl := slotB_len (j.seq + 1) half frames
  have hhalf : half * j.half ≤ j.half := by
    have := Nat.mul_le_mul_right j.half h1; omega
  (refine V0 ?_; repeat (refine VHyp.go (fun _ => ?_); refine V0 ?_))
  refine con_load rfl rfl ?_
  (refine V0 ?_; repeat (refine VHyp.go (fun _ => ?_); refine V0 ?_))
  refine (frame_Put hG (j.seq + 1) text h3).call [] ?_
  (refine V0 ?_; repeat (refine VHyp.go (fun _ => ?_); refine V0 ?_))
  refine (jour_place j d half at' (by omega) h1).call [0, 1, 2] ?_
  (refine V0 ?_; repeat (refine VHyp.go (fun _ => ?_); refine V0 ?_))
  refine (dev_Write_any d hd (j.place half at') (frameB (j.seq + 1) text) (by omega) (by rw [hfl, Nat.mul_div_cancel _ (by decide)]; unfold JourM.place; omega)).call [1] ?_
  (refine V0 ?_; repeat (refine VHyp.go (fun _ => ?_); refine V0 ?_))
  have hw := hd.wr (a := j.place half at') (data := frameB (j.seq + 1) text) (by rw [hfl, Nat.mul_div_cancel _ (by decide)]; unfold secs; omega) (by rw [hfl, Nat.mul_div_cancel _ (by decide)]; unfold JourM.place; omega)
  have hws := wr_size d (j.place half at') (frameB (j.seq + 1) text)
  generalize hw1 : d.wr (j.place half at') (frameB (j.seq + 1) text) = w1 at *
  obtain ⟨d1, ok1⟩ := w1
  refine (jour_failed j d1 ok1).call [0, 1, 2] ?_
  cases ok1 with
  | false =>
    have e := puts_1 (frames := frames) hw1
    (refine V0 ?_; repeat (refine VHyp.go (fun _ => ?_); refine V0 ?_))
    exact .fin [0, 1, 2] (by rw [e]; rfl) (by rw [e]; simp; rfl)
  | true =>
    rw [show ({ j with unfit := j.unfit || !true } : JourM) = j by simp]
    (refine V0 ?_; repeat (refine VHyp.go (fun _ => ?_); refine V0 ?_))
    refine (jour_flush _ d1 hw).call [0, 1, 2] ?_
    have hf := flush_size d1
    have hfw := hw.flush
    cases ho : d1.oper with
    | false =>
      have e := puts_2 (frames := frames) hw1 ho
      (refine V0 ?_; repeat (refine VHyp.go (fun _ => ?_); refine V0 ?_))
      exact .fin [0, 1, 2] (by rw [e]; rfl) (by rw [e]; rfl)
    | true =>
      have e8 := putBE_len 8 (j.seq + 1)
      have e4 := putBE_len 4 half
      have e44 := putBE_len 4 frames
      (refine V0 ?_; repeat (refine VHyp.go (fun _ => ?_); refine V0 ?_))
      refine (fields_PutBig (j.seq + 1) 8 (by decide) (by decide)).call [] ?_
      (refine V0 ?_; repeat (refine VHyp.go (fun _ => ?_); refine V0 ?_))
      refine (fields_PutBig half 4 (by decide) (by decide)).call [] ?_
      (refine V0 ?_; repeat (refine VHyp.go (fun _ => ?_); refine V0 ?_))
      refine (fields_PutBig frames 4 (by decide) (by decide)).call [] ?_
      (refine V0 ?_; repeat (refine VHyp.go (fun _ => ?_); refine V0 ?_))
      refine (str_Repeat (s := [0]) (n := 484) (by decide) (by decide)).call [] ?_ (by
        have e : (512 : Int) - ((markJ ++ putBE 8 (j.seq + 1) ++ putBE 4 half ++ putBE 4 frames).length : Int) - ((putBE 8 (j.seq + 1)).length : Int) = ((484 : Nat) : Int) := by
          simp only [List.length_append, e8, e4, e44]; rfl
        rw [← e]; rfl)
      rw [rep_one]
      have e484 := zeros_len 484
      have em : ((j.seq : Int) + 1).tmod 2 = ((j.seq + 1) % 2 : Nat) := by
        rw [show (j.seq : Int) + 1 = ((j.seq + 1 : Nat) : Int) by omega]; exact (Int.ofNat_tmod (j.seq + 1) 2).symm
      have em2 : ((j.from' + (j.seq + 1) % 2 : Nat) : Int) = (j.from' : Int) + ((j.seq : Int) + 1).tmod 2 := by rw [em]; simp
      have ef : (j.flush d1).from' = j.from' := rfl
      have h2m : (j.seq + 1) % 2 ≤ 1 := by omega
      (refine V0 ?_; repeat (refine VHyp.go (fun _ => ?_); refine V0 ?_))
      refine (dev_Write_any d1.flush hfw (j.from' + (j.seq + 1) % 2) (slotB (j.seq + 1) half frames) (by rw [hsl]) (by rw [hsl, hf.1, hws.1]; omega)).call [1] ?_ (by rw [em2]; rfl)
      (refine V0 ?_; repeat (refine VHyp.go (fun _ => ?_); refine V0 ?_))
      generalize hw3 : d1.flush.wr (j.from' + (j.seq + 1) % 2) (slotB (j.seq + 1) half frames) = w3 at *
      obtain ⟨d3, ok3⟩ := w3
      refine (jour_failed (j.flush d1) d3 ok3).call [0, 1, 2] ?_
      cases ok3 with
      | false =>
        have e := puts_3 hw1 ho hw3
        (refine V0 ?_; repeat (refine VHyp.go (fun _ => ?_); refine V0 ?_))
        exact .fin [0, 1, 2] (by rw [e]; rfl) (by rw [e]; simp; rfl)
      | true =>
        have e := puts_4 hw1 ho hw3
        rw [show ({ j.flush d1 with unfit := (j.flush d1).unfit || !true } : JourM) = j.flush d1 by simp]
        (refine V0 ?_; repeat (refine VHyp.go (fun _ => ?_); refine V0 ?_))
        refine con_store rfl rfl ?_
        (refine V0 ?_; repeat (refine VHyp.go (fun _ => ?_); refine V0 ?_))
        exact .fin [0, 1, 2] (by rw [e]; rfl) (by rw [e]; rfl)

/-! ### a journal at a place -/
def JourM.new (from' half : Nat) : JourM := { from', half, active := 0, seq := 0, base := [], records := [], used := 0, held := false, unfit := false }
/-- a journal, opened, behind its device -/
def jourD (j : JourM) (d : DevM) : List SO :=
  [devO d, .cells [.ptr 0 0, .int .i64 j.from', .int .i64 j.half, .int .i64 j.active, .int .i64 j.seq, .str j.base, .ref 2, .int .i64 j.used, .bool j.held, .bool j.unfit], .list (strC ty_string) j.records]
theorem jour_placed_nil (a n : Int) : Fun prog G f_journal_placed [.nilp, .int .i64 a, .int .i64 n] [] .nilp [] := by
  refine .of (mk_journal_placed rfl ⟨?_⟩)
  (refine V0 ?_; repeat (refine VHyp.go (fun _ => ?_); refine V0 ?_))
  exact .fin []
theorem jour_placed_bad (d : DevM) (hd : d.wf) (a n : Int) (h : a < 0 ∨ n < 8 ∨ d.safe.length < n ∨ d.safe.length - n < a) : Fun prog G f_journal_placed [.ptr 0 0, .int .i64 a, .int .i64 n] [devO d] .nilp [devO d] := by
  refine .of (mk_journal_placed rfl ⟨?_⟩)
  have hz := hd.size
  by_cases h1 : a < 0
  · (refine V0 ?_; repeat (refine VHyp.go (fun _ => ?_); refine V0 ?_))
    exact .fin [0]
  by_cases h2 : n < 8
  · (refine V0 ?_; repeat (refine VHyp.go (fun _ => ?_); refine V0 ?_))
    exact .fin [0]
  (refine V0 ?_; repeat (refine VHyp.go (fun _ => ?_); refine V0 ?_))
  refine (dev_Size d).call [0] ?_
  by_cases h3 : d.safe.length < n
  · (refine V0 ?_; repeat (refine VHyp.go (fun _ => ?_); refine V0 ?_))
    exact .fin [0]
  (refine V0 ?_; repeat (refine VHyp.go (fun _ => ?_); refine V0 ?_))
  refine (dev_Size d).call [0] ?_
  (refine V0 ?_; repeat (refine VHyp.go (fun _ => ?_); refine V0 ?_))
  exact .fin [0]
theorem jour_placed (d : DevM) (hd : d.wf) (a n : Nat) (h8 : 8 ≤ n) (h : a + n ≤ d.safe.length) : Fun prog G f_journal_placed [.ptr 0 0, .int .i64 a, .int .i64 n] [devO d] (.ptr 1 0) (jourD (.new a ((n - 4) / 2)) d) := by
  refine .of (mk_journal_placed rfl ⟨?_⟩)
  have hz := hd.size
  (refine V0 ?_; repeat (refine VHyp.go (fun _ => ?_); refine V0 ?_))
  refine (dev_Size d).call [0] ?_
  (refine V0 ?_; repeat (refine VHyp.go (fun _ => ?_); refine V0 ?_))
  refine (dev_Size d).call [0] ?_
  have e : IntKind.i64.wrap (((n : Int) - 4).tdiv 2) = (((n - 4) / 2 : Nat) : Int) := by
    rw [show (n : Int) - 4 = ((n - 4 : Nat) : Int) by omega]; exact wdiv2 (by omega)
  (refine V0 ?_; repeat (refine VHyp.go (fun _ => ?_); refine V0 ?_))
  exact .nilc 1 6 (strC ty_string) rfl rfl (.fin [0, 1, 2])

/-! ### small ones -/
theorem jour_Base_nil : Fun prog G f_journal_Journal_Base [.nilp] [] (.str []) [] := by
  refine .of (mk_journal_Journal_Base rfl ⟨?_⟩)
  (refine V0 ?_; repeat (refine VHyp.go (fun _ => ?_); refine V0 ?_))
  exact .fin []
theorem jour_Base (j : JourM) (d : DevM) : Fun prog G f_journal_Journal_Base [.ptr 0 0] [jourO 1 j, devO d] (.str j.base) [jourO 1 j, devO d] := by
  refine Fun.jour (.of (mk_journal_Journal_Base rfl ⟨?_⟩))
  (refine V0 ?_; repeat (refine VHyp.go (fun _ => ?_); refine V0 ?_))
  exact .fin [0, 1, 2]
theorem jour_Room_nil : Fun prog G f_journal_Journal_Room [.nilp] [] (.int .i64 0) [] := by
  refine .of (mk_journal_Journal_Room rfl ⟨?_⟩)
  (refine V0 ?_; repeat (refine VHyp.go (fun _ => ?_); refine V0 ?_))
  exact .fin []
theorem jour_room (j : JourM) (d : DevM) (h : j.used ≤ j.half) (hh : j.half ≤ 1000000000) : Fun prog G f_journal_Journal_Room [.ptr 0 0] (jourH j d) (.int .i64 (j.half - j.used : Nat)) (jourH j d) := by
  refine .of (mk_journal_Journal_Room rfl ⟨?_⟩)
  (refine V0 ?_; repeat (refine VHyp.go (fun _ => ?_); refine V0 ?_))
  exact .fin [0, 1, 2] (by rw [Int.ofNat_sub h]; rfl)
theorem jour_Room (j : JourM) (d : DevM) (h : j.used ≤ j.half) (hh : j.half ≤ 1000000000) : Fun prog G f_journal_Journal_Room [.ptr 0 0] [jourO 1 j, devO d] (.int .i64 (j.half - j.used : Nat)) [jourO 1 j, devO d] := Fun.jour (jour_room j d h hh)
theorem jour_Sync_nil : Fun prog G f_journal_Journal_Sync [.nilp] [] (.int .i64 1) [] := by
  refine .of (mk_journal_Journal_Sync rfl ⟨?_⟩)
  (refine V0 ?_; repeat (refine VHyp.go (fun _ => ?_); refine V0 ?_))
  exact .fin []
def JourM.sync (j : JourM) (d : DevM) : JourM × DevM × Bool := bif j.unfit then (j, d, false) else (j.flush d, d.flush, d.oper)
theorem jour_Sync (j : JourM) (d : DevM) (hd : d.wf) : Fun prog G f_journal_Journal_Sync [.ptr 0 0] [jourO 1 j, devO d] (.int .i64 (bif (j.sync d).2.2 then 0 else 41)) [jourO 1 (j.sync d).1, devO (j.sync d).2.1] := by
  refine Fun.jour (.of (mk_journal_Journal_Sync rfl ⟨?_⟩))
  cases hu : j.unfit with
  | true =>
    (refine V0 ?_; repeat (refine VHyp.go (fun _ => ?_); refine V0 ?_))
    exact .fin [0, 1, 2] (by simp [JourM.sync, hu]; rfl) (by simp [JourM.sync, hu]; rfl)
  | false =>
    (refine V0 ?_; repeat (refine VHyp.go (fun _ => ?_); refine V0 ?_))
    refine (jour_flush j d hd).call [0, 1, 2] ?_
    (refine V0 ?_; repeat (refine VHyp.go (fun _ => ?_); refine V0 ?_))
    exact .fin [0, 1, 2] (by simp [JourM.sync, hu]; rfl) (by simp [JourM.sync, hu]; rfl)
theorem jour_Records_nil : Fun prog G f_journal_Journal_Records [.nilp] [] .nils [] := by
  refine .of (mk_journal_Journal_Records rfl ⟨?_⟩)
  (refine V0 ?_; repeat (refine VHyp.go (fun _ => ?_); refine V0 ?_))
  exact .fin []
theorem jour_Records (j : JourM) (d : DevM) (h : j.records.length ≤ 1000000000) : Fun prog G f_journal_Journal_Records [.ptr 0 0] [jourO 1 j, devO d] (roStrs j.records) [jourO 1 j, devO d] := by
  refine Fun.jour (.of (mk_journal_Journal_Records rfl ⟨?_⟩))
  (refine V0 ?_; repeat (refine VHyp.go (fun _ => ?_); refine V0 ?_))
  refine VAppN.mk (strC ty_string) rfl rfl (VApp.ref 2 _ rfl rfl ?_)
  (refine V0 ?_; repeat (refine VHyp.go (fun _ => ?_); refine V0 ?_))
  refine .freeze 3 (strC ty_string) j.records rfl ?_
  exact .fin [0, 1, 2]

/-! ### appending -/
theorem jour_Append_nil (text : Bytes) (h : text.length ≤ 9223372036854775807) : Fun prog G f_journal_Journal_Append [.nilp, .str text] [] (.int .i64 1) [] := by
  refine .of (mk_journal_Journal_Append rfl ⟨?_⟩)
  (refine V0 ?_; repeat (refine VHyp.go (fun _ => ?_); refine V0 ?_))
  by_cases hl : text.length ≤ 65536
  · refine (frame_Sectors text.length hl).call [] ?_
    (refine V0 ?_; repeat (refine VHyp.go (fun _ => ?_); refine V0 ?_))
    exact .fin []
  · refine (frame_Sectors_big text.length (by omega)).call [] ?_
    (refine V0 ?_; repeat (refine VHyp.go (fun _ => ?_); refine V0 ?_))
    exact .fin []
/-- what an append comes to: the error's number -/
def JourM.append (j : JourM) (d : DevM) (text : Bytes) : JourM × DevM × Int :=
  if j.unfit then (j, d, 41) else if 65536 < text.length then (j, d, 2) else if j.half - j.used < secs text.length then (j, d, 60) else
    let p := j.puts d j.active j.used text (j.records.length + 2)
    bif p.2.2 then ({ p.1 with records := p.1.records ++ [text], used := p.1.used + secs text.length }, p.2.1, 0) else (p.1, p.2.1, 41)
theorem puts_same (j : JourM) (d : DevM) (half at' : Nat) (text : Bytes) (frames : Nat) : (j.puts d half at' text frames).1.from' = j.from' ∧ (j.puts d half at' text frames).1.half = j.half ∧ (j.puts d half at' text frames).1.active = j.active ∧ (j.puts d half at' text frames).1.base = j.base ∧ (j.puts d half at' text frames).1.records = j.records ∧ (j.puts d half at' text frames).1.used = j.used := by
  simp only [JourM.puts]
  cases (d.wr (j.place half at') (frameB (j.seq + 1) text)).2 with
  | false => exact ⟨rfl, rfl, rfl, rfl, rfl, rfl⟩
  | true =>
    cases (d.wr (j.place half at') (frameB (j.seq + 1) text)).1.oper with
    | false => exact ⟨rfl, rfl, rfl, rfl, rfl, rfl⟩
    | true => cases ((d.wr (j.place half at') (frameB (j.seq + 1) text)).1.flush.wr (j.from' + (j.seq + 1) % 2) (slotB (j.seq + 1) half frames)).2 <;> exact ⟨rfl, rfl, rfl, rfl, rfl, rfl⟩
theorem jour_Append (hG : Globs G) (j : JourM) (d : DevM) (hd : d.wf) (hj : j.fits d) (hh : d.held.length ≤ 1000000) (text : Bytes) (ht : text.length ≤ 9223372036854775807) :
    Fun prog G f_journal_Journal_Append [.ptr 0 0, .str text] [jourO 1 j, devO d] (.int .i64 (j.append d text).2.2) [jourO 1 (j.append d text).1, devO (j.append d text).2.1] := by
  refine Fun.jour' (mk_journal_Journal_Append rfl ⟨?_⟩)
  have hr := hj.room
  have hz := hd.size
  have hu := hj.used
  (refine V0 ?_; repeat (refine VHyp.go (fun _ => ?_); refine V0 ?_))
  by_cases hl : text.length ≤ 65536
  case neg =>
    refine (frame_Sectors_big text.length (by omega)).call [] ?_
    cases hf : j.unfit with
    | true =>
      have e : j.append d text = (j, d, 41) := by simp [JourM.append, hf]
      rw [e]
      (refine V0 ?_; repeat (refine VHyp.go (fun _ => ?_); refine V0 ?_))
      exact .now (.shut 0 [2] [1] (jourL j) (.fin [0, 1]))
    | false =>
      have e : j.append d text = (j, d, 2) := by simp [JourM.append, hf]; omega
      rw [e]
      (refine V0 ?_; repeat (refine VHyp.go (fun _ => ?_); refine V0 ?_))
      exact .now (.shut 0 [2] [1] (jourL j) (.fin [0, 1]))
  case pos =>
  refine (frame_Sectors text.length hl).call [] ?_
  cases hf : j.unfit with
  | true =>
    have e : j.append d text = (j, d, 41) := by simp [JourM.append, hf]
    rw [e]
    (refine V0 ?_; repeat (refine VHyp.go (fun _ => ?_); refine V0 ?_))
    exact .now (.shut 0 [2] [1] (jourL j) (.fin [0, 1]))
  | false =>
    (refine V0 ?_; repeat (refine VHyp.go (fun _ => ?_); refine V0 ?_))
    refine (jour_room j d hu (by omega)).call [0, 1, 2] ?_
    by_cases hs : j.half - j.used < secs text.length
    · have e : j.append d text = (j, d, 60) := by simp only [JourM.append, hf, hs]; simp; omega
      rw [e]
      (refine V0 ?_; repeat (refine VHyp.go (fun _ => ?_); refine V0 ?_))
      exact .now (.shut 0 [2] [1] (jourL j) (.fin [0, 1]))
    · have e : j.append d text = (bif (j.puts d j.active j.used text (j.records.length + 2)).2.2 then ({ (j.puts d j.active j.used text (j.records.length + 2)).1 with records := (j.puts d j.active j.used text (j.records.length + 2)).1.records ++ [text], used := (j.puts d j.active j.used text (j.records.length + 2)).1.used + secs text.length }, (j.puts d j.active j.used text (j.records.length + 2)).2.1, 0) else ((j.puts d j.active j.used text (j.records.length + 2)).1, (j.puts d j.active j.used text (j.records.length + 2)).2.1, 41)) := by
        simp only [JourM.append, hf, hs]
        rw [if_neg (by simp), if_neg (by omega), if_neg (by simp)]
      rw [e]
      have hrec := hj.recs
      have hp := jour_puts hG j d hd hj hh j.active j.used text (j.records.length + 2) hj.active (by omega) hl (by omega)
      have hsame := puts_same j d j.active j.used text (j.records.length + 2)
      generalize j.puts d j.active j.used text (j.records.length + 2) = q at *
      obtain ⟨j2, d2, ok⟩ := q
      obtain ⟨s1, s2, s3, s4, s5, s6⟩ := hsame
      (refine V0 ?_; repeat (refine VHyp.go (fun _ => ?_); refine V0 ?_))
      refine hp.call [0, 1, 2] ?_
      cases ok with
      | false =>
        (refine V0 ?_; repeat (refine VHyp.go (fun _ => ?_); refine V0 ?_))
        exact .now (.shut 0 [2] [1] (jourL j2) (.fin [0, 1]))
      | true =>
        have s5' : j2.records.length ≤ 1000000 := by have : j2.records = j.records := s5; rw [this]; exact hrec
        have s6' : j2.used ≤ 8192 := by have : j2.used = j.used := s6; omega
        (refine V0 ?_; repeat (refine VHyp.go (fun _ => ?_); refine V0 ?_))
        exact .now (.shut 0 [4] [1] (jourL { j2 with records := j2.records ++ [text], used := j2.used + secs text.length }) (.fin [0, 1]))

/-! ### checkpoints -/
theorem jour_Checkpoint_nil (text : Bytes) (h : text.length ≤ 9223372036854775807) : Fun prog G f_journal_Journal_Checkpoint [.nilp, .str text] [] (.int .i64 1) [] := by
  refine .of (mk_journal_Journal_Checkpoint rfl ⟨?_⟩)
  (refine V0 ?_; repeat (refine VHyp.go (fun _ => ?_); refine V0 ?_))
  by_cases hl : text.length ≤ 65536
  · refine (frame_Sectors text.length hl).call [] ?_
    (refine V0 ?_; repeat (refine VHyp.go (fun _ => ?_); refine V0 ?_))
    exact .fin []
  · refine (frame_Sectors_big text.length (by omega)).call [] ?_
    (refine V0 ?_; repeat (refine VHyp.go (fun _ => ?_); refine V0 ?_))
    exact .fin []
def JourM.check1 (j : JourM) (d : DevM) (text : Bytes) : JourM × DevM × Int :=
  let p := j.puts d (1 - j.active) 0 text 1
  bif p.2.2 then ({ p.1 with active := 1 - j.active, base := text, records := [], used := secs text.length }, p.2.1, 0) else (p.1, p.2.1, 41)
def JourM.check (j : JourM) (d : DevM) (text : Bytes) : JourM × DevM × Int :=
  if j.unfit then (j, d, 41) else if 65536 < text.length then (j, d, 2) else if j.half < secs text.length then (j, d, 60) else
    bif j.held then (bif d.oper then (j.flush d).check1 d.flush text else (j.flush d, d.flush, 41)) else j.check1 d text
theorem JourM.fits.flush {j : JourM} {d : DevM} (h : j.fits d) : (j.flush d).fits d.flush :=
  ⟨by rw [(flush_size d).1]; exact h.room, h.seq, h.active, h.used, h.recs⟩
/-- a journal that holds no list of records -/
def jourN (j : JourM) (d : DevM) : List SO :=
  [.cells [.ptr 1 0, .int .i64 j.from', .int .i64 j.half, .int .i64 j.active, .int .i64 j.seq, .str j.base, .nils, .int .i64 j.used, .bool j.held, .bool j.unfit], devO d, .gone]
theorem jour_Checkpoint (hG : Globs G) (j : JourM) (d : DevM) (hd : d.wf) (hj : j.fits d) (hh : d.held.length ≤ 1000000) (text : Bytes) (ht : text.length ≤ 9223372036854775807) :
    Fun prog G f_journal_Journal_Checkpoint [.ptr 0 0, .str text] [jourO 1 j, devO d] (.int .i64 (j.check d text).2.2) [jourO 1 (j.check d text).1, devO (j.check d text).2.1] := by
  refine Fun.jour' (mk_journal_Journal_Checkpoint rfl ⟨?_⟩)
  have hr := hj.room
  have hz := hd.size
  have hu := hj.used
  (refine V0 ?_; repeat (refine VHyp.go (fun _ => ?_); refine V0 ?_))
  by_cases hl : text.length ≤ 65536
  case neg =>
    refine (frame_Sectors_big text.length (by omega)).call [] ?_
    cases hf : j.unfit with
    | true =>
      have e : j.check d text = (j, d, 41) := by simp [JourM.check, hf]
      rw [e]
      (refine V0 ?_; repeat (refine VHyp.go (fun _ => ?_); refine V0 ?_))
      exact .now (.shut 0 [2] [1] (jourL j) (.fin [0, 1]))
    | false =>
      have e : j.check d text = (j, d, 2) := by simp [JourM.check, hf]; omega
      rw [e]
      (refine V0 ?_; repeat (refine VHyp.go (fun _ => ?_); refine V0 ?_))
      exact .now (.shut 0 [2] [1] (jourL j) (.fin [0, 1]))
  case pos =>
  refine (frame_Sectors text.length hl).call [] ?_
  cases hf : j.unfit with
  | true =>
    have e : j.check d text = (j, d, 41) := by simp [JourM.check, hf]
    rw [e]
    (refine V0 ?_; repeat (refine VHyp.go (fun _ => ?_); refine V0 ?_))
    exact .now (.shut 0 [2] [1] (jourL j) (.fin [0, 1]))
  | false =>
    by_cases hs : j.half < secs text.length
    · have e : j.check d text = (j, d, 60) := by simp only [JourM.check, hf, hs]; simp; omega
      rw [e]
      (refine V0 ?_; repeat (refine VHyp.go (fun _ => ?_); refine V0 ?_))
      exact .now (.shut 0 [2] [1] (jourL j) (.fin [0, 1]))
    · have e : j.check d text = bif j.held then (bif d.oper then (j.flush d).check1 d.flush text else (j.flush d, d.flush, 41)) else j.check1 d text := by
        simp only [JourM.check, hf, hs]
        rw [if_neg (by simp), if_neg (by omega), if_neg (by simp)]
      have key : ∀ (j1 : JourM) (d1 : DevM), d1.wf → j1.fits d1 → d1.held.length ≤ 1000000 → j1.half = j.half → j1.active = j.active → Fun prog G f_journal_Journal_puts [.ptr 0 0, .int .i64 (1 - j1.active : Nat), .int .i64 (0 : Nat), .str text, .int .i64 (1 : Nat)] (jourH j1 d1) (.int .i64 (bif (j1.puts d1 (1 - j1.active) 0 text 1).2.2 then 0 else 41)) (jourH (j1.puts d1 (1 - j1.active) 0 text 1).1 (j1.puts d1 (1 - j1.active) 0 text 1).2.1) :=
        fun j1 d1 h1 h2 h3 h4 h5 => jour_puts hG j1 d1 h1 h2 h3 (1 - j1.active) 0 text 1 (by omega) (by omega) hl (by decide)
      have hact := hj.active
      have ea : (1 : Int) - j.active = ((1 - j.active : Nat) : Int) := by omega
      cases hb : j.held with
      | false =>
        rw [e, hb, cond_false, JourM.check1]
        (refine V0 ?_; repeat (refine VHyp.go (fun _ => ?_); refine V0 ?_))
        refine (key j d hd hj hh rfl rfl).call [0, 1, 2] ?_ (by rw [← ea]; rfl)
        have hsame := puts_same j d (1 - j.active) 0 text 1
        generalize j.puts d (1 - j.active) 0 text 1 = q at *
        obtain ⟨j2, d2, ok⟩ := q
        obtain ⟨s1, s2, s3, s4, s5, s6⟩ := hsame
        have s3' : j2.active = j.active := s3
        cases ok with
        | false =>
          (refine V0 ?_; repeat (refine VHyp.go (fun _ => ?_); refine V0 ?_))
          exact .now (.shut 0 [2] [1] (jourL j2) (.fin [0, 1]))
        | true =>
          (refine V0 ?_; repeat (refine VHyp.go (fun _ => ?_); refine V0 ?_))
          have e9 : ((1 - j.active : Nat) : Int) = 1 - (j2.active : Int) := by omega
          exact .now (.nilc 0 6 (strC ty_string) rfl rfl (.shut 0 [3] [1] (jourL { j2 with active := 1 - j.active, base := text, records := [], used := secs text.length }) (.fin [0, 1]) (by simp only [jourL, e9]; rfl)))
      | true =>
        (refine V0 ?_; repeat (refine VHyp.go (fun _ => ?_); refine V0 ?_))
        refine (jour_flush j d hd).call [0, 1, 2] ?_
        have hf := flush_size d
        cases ho : d.oper with
        | false =>
          rw [e, hb, ho, cond_true, cond_false]
          (refine V0 ?_; repeat (refine VHyp.go (fun _ => ?_); refine V0 ?_))
          exact .now (.shut 0 [2] [1] (jourL (j.flush d)) (.fin [0, 1]))
        | true =>
          rw [e, hb, ho, cond_true, cond_true, JourM.check1]
          have ha2 : (j.flush d).active ≤ 1 := hact
          (refine V0 ?_; repeat (refine VHyp.go (fun _ => ?_); refine V0 ?_))
          refine (key (j.flush d) d.flush hd.flush hj.flush (by omega) rfl rfl).call [0, 1, 2] ?_ (by rw [show (j.flush d).active = j.active from rfl, ← ea]; rfl)
          have hsame := puts_same (j.flush d) d.flush (1 - (j.flush d).active) 0 text 1
          generalize (j.flush d).puts d.flush (1 - (j.flush d).active) 0 text 1 = q at *
          obtain ⟨j2, d2, ok⟩ := q
          obtain ⟨s1, s2, s3, s4, s5, s6⟩ := hsame
          have s3' : j2.active = j.active := s3
          cases ok with
          | false =>
            (refine V0 ?_; repeat (refine VHyp.go (fun _ => ?_); refine V0 ?_))
            exact .now (.shut 0 [2] [1] (jourL j2) (.fin [0, 1]))
          | true =>
            (refine V0 ?_; repeat (refine VHyp.go (fun _ => ?_); refine V0 ?_))
            have e9 : ((1 - (j.flush d).active : Nat) : Int) = 1 - (j2.active : Int) := by rw [show (j.flush d).active = j.active from rfl]; omega
            exact .now (.nilc 0 6 (strC ty_string) rfl rfl (.shut 0 [3] [1] (jourL { j2 with active := 1 - (j.flush d).active, base := text, records := [], used := secs text.length }) (.fin [0, 1]) (by simp only [jourL, e9]; rfl)))

/-! ### slots -/
/-- what a slot tells: its number (0: there is none), its half, its frames -/
def slotRead (s : Bytes) (half : Nat) : Nat × Nat × Nat :=
  if markJ.isPrefixOf s = true ∧ beN (getB s 4 8) = beN (getB s 504 8) ∧ beN (getB s 4 8) < 4611686018427387904 ∧ beN (getB s 12 4) ≤ 1 ∧ 1 ≤ beN (getB s 16 4) ∧ beN (getB s 16 4) ≤ half then (beN (getB s 4 8), beN (getB s 12 4), beN (getB s 16 4)) else (0, 0, 0)
theorem jour_slot_down (j : JourM) (d : DevM) (hd : d.wf) (n : Nat) (hn : n ≤ 1) (hr : j.from' + 4 ≤ d.safe.length) (ho : d.down = true) : Fun prog G f_journal_Journal_slot [.ptr 0 0, .int .i64 n] (jourH j d) (.tup [.int .i64 0, .int .i64 0, .int .i64 0, .int .i64 41]) (jourH j d) := by
  refine .of (mk_journal_Journal_slot rfl ⟨?_⟩)
  have hz := hd.size
  (refine V0 ?_; repeat (refine VHyp.go (fun _ => ?_); refine V0 ?_))
  refine (dev_Read_down d hd (j.from' + n) 1 (by omega) ho).call [1] ?_
  (refine V0 ?_; repeat (refine VHyp.go (fun _ => ?_); refine V0 ?_))
  exact .fin [0, 1, 2]
theorem beN_64 (s : Bytes) (a n : Nat) (hn : n ≤ 8) : beN (getB s a n) < 18446744073709551616 := by
  refine Nat.lt_of_lt_of_le (beN_lt _) ?_
  have : (getB s a n).length ≤ 8 := by simp [getB]; omega
  exact Nat.le_trans (Nat.pow_le_pow_right (by omega) this) (by decide)
theorem jour_slot (j : JourM) (d : DevM) (hd : d.wf) (n : Nat) (hn : n ≤ 1) (hr : j.from' + 4 ≤ d.safe.length) (hh : j.half ≤ 8192) (ho : d.down = false) :
    Fun prog G f_journal_Journal_slot [.ptr 0 0, .int .i64 n] (jourH j d) (.tup [.int .i64 (slotRead (d.sector (j.from' + n)) j.half).1, .int .i64 (slotRead (d.sector (j.from' + n)) j.half).2.1, .int .i64 (slotRead (d.sector (j.from' + n)) j.half).2.2, .int .i64 0]) (jourH j d) := by
  refine .of (mk_journal_Journal_slot rfl ⟨?_⟩)
  have hz := hd.size
  have hl := hd.sector (j.from' + n)
  (refine V0 ?_; repeat (refine VHyp.go (fun _ => ?_); refine V0 ?_))
  refine (dev_Read d hd (j.from' + n) 1 (by omega) ho).call [1] ?_
  rw [show d.bytes (j.from' + n) 1 = d.sector (j.from' + n) by simp [DevM.bytes]]
  generalize d.sector (j.from' + n) = s at *
  (refine V0 ?_; repeat (refine VHyp.go (fun _ => ?_); refine V0 ?_))
  refine (fields_Big s 4 8 (by decide) (by decide) (by omega) (by omega)).call [] ?_
  (refine V0 ?_; repeat (refine VHyp.go (fun _ => ?_); refine V0 ?_))
  refine (fields_Big s 504 8 (by decide) (by decide) (by omega) (by omega)).call [] ?_
  (refine V0 ?_; repeat (refine VHyp.go (fun _ => ?_); refine V0 ?_))
  refine (fields_Big s 12 4 (by decide) (by decide) (by omega) (by omega)).call [] ?_
  (refine V0 ?_; repeat (refine VHyp.go (fun _ => ?_); refine V0 ?_))
  refine (fields_Big s 16 4 (by decide) (by decide) (by omega) (by omega)).call [] ?_
  have a1 := beN_64 s 4 8 (by decide)
  have a2 := beN_64 s 504 8 (by decide)
  have a3 := beN_64 s 12 4 (by decide)
  have a4 := beN_64 s 16 4 (by decide)
  unfold slotRead
  generalize beN (getB s 4 8) = a at *
  generalize beN (getB s 504 8) = b at *
  generalize beN (getB s 12 4) = h at *
  generalize beN (getB s 16 4) = k at *
  (refine V0 ?_; repeat (refine VHyp.go (fun _ => ?_); refine V0 ?_))
  refine (str_HasPrefix (s := s) (t := markJ)).call [] ?_
  cases hm : markJ.isPrefixOf s with
  | false =>
    rw [if_neg (by simp)]
    (refine V0 ?_; repeat (refine VHyp.go (fun _ => ?_); refine V0 ?_))
    exact .fin [0, 1, 2]
  | true =>
    by_cases h1 : a = b
    case neg =>
      rw [if_neg (by rintro ⟨_, h, _⟩; exact h1 h)]
      (refine V0 ?_; repeat (refine VHyp.go (fun _ => ?_); refine V0 ?_))
      exact .fin [0, 1, 2]
    case pos =>
    by_cases h2 : a < 4611686018427387904
    case neg =>
      rw [if_neg (by rintro ⟨_, _, h, _⟩; exact h2 h)]
      (refine V0 ?_; repeat (refine VHyp.go (fun _ => ?_); refine V0 ?_))
      exact .fin [0, 1, 2]
    case pos =>
    by_cases h3 : h ≤ 1
    case neg =>
      rw [if_neg (by rintro ⟨_, _, _, h, _⟩; exact h3 h)]
      (refine V0 ?_; repeat (refine VHyp.go (fun _ => ?_); refine V0 ?_))
      exact .fin [0, 1, 2]
    case pos =>
    by_cases h4 : 1 ≤ k
    case neg =>
      rw [if_neg (by rintro ⟨_, _, _, _, h, _⟩; exact h4 h)]
      (refine V0 ?_; repeat (refine VHyp.go (fun _ => ?_); refine V0 ?_))
      exact .fin [0, 1, 2]
    case pos =>
    by_cases h5 : k ≤ j.half
    case neg =>
      rw [if_neg (by rintro ⟨_, _, _, _, _, h⟩; exact h5 h)]
      (refine V0 ?_; repeat (refine VHyp.go (fun _ => ?_); refine V0 ?_))
      exact .fin [0, 1, 2]
    case pos =>
    rw [if_pos ⟨rfl, h1, h2, h3, h4, h5⟩]
    (refine V0 ?_; repeat (refine VHyp.go (fun _ => ?_); refine V0 ?_))
    exact .fin [0, 1, 2]

/-! ### opening -/
/-- the better of what was found, and a slot: its number, its half, its frames -/
def best1 (b : Nat × Nat × Nat) (n : Nat) (r : Nat × Nat × Nat) : Nat × Nat × Nat := if b.1 < r.1 ∧ r.1 % 2 = n then r else b
def DevM.best (d : DevM) (from' half : Nat) : Nat → Nat × Nat × Nat
  | 0 => (0, 0, 0)
  | i + 1 => best1 (d.best from' half i) i (slotRead (d.sector (from' + i)) half)
theorem slotRead_lt (s : Bytes) (half : Nat) : (slotRead s half).1 < 4611686018427387904 ∧ (slotRead s half).2.1 ≤ 1 ∧ (slotRead s half).2.2 ≤ half := by
  unfold slotRead
  split
  · rename_i h; exact ⟨h.2.2.1, h.2.2.2.1, h.2.2.2.2.2⟩
  · exact ⟨by decide, by decide, Nat.zero_le _⟩
theorem best_lt (d : DevM) (from' half : Nat) : ∀ i, (d.best from' half i).1 < 4611686018427387904 ∧ (d.best from' half i).2.1 ≤ 1 ∧ (d.best from' half i).2.2 ≤ half
  | 0 => ⟨by simp [DevM.best], by simp [DevM.best], Nat.zero_le _⟩
  | i + 1 => by
    unfold DevM.best best1
    split
    · exact slotRead_lt _ _
    · exact best_lt d from' half i
/-- the texts of the frames with which a text begins -/
def usedOf (l : List Bytes) : Nat := (l.map fun t => secs t.length).sum
def framesIn (s : Bytes) : List Bytes → Prop
  | [] => True
  | t :: r => (∃ n, n < 18446744073709551616 ∧ FrameAt s n t) ∧ t.length ≤ 65536 ∧ framesIn (s.drop (secs t.length * 512)) r
theorem usedOf_next {l : List Bytes} {i : Nat} {t : Bytes} (h : l[i]? = some t) : usedOf (l.take (i + 1)) = usedOf (l.take i) + secs t.length := by
  rw [take_next h]; simp [usedOf]
theorem usedOf_append (a b : List Bytes) : usedOf (a ++ b) = usedOf a + usedOf b := by simp [usedOf]
theorem framesIn_next {s : Bytes} {l : List Bytes} {i : Nat} {t : Bytes} (hf : framesIn (s.drop (usedOf (l.take i) * 512)) (l.drop i)) (h : l[i]? = some t) :
    (∃ n, n < 18446744073709551616 ∧ FrameAt (s.drop (usedOf (l.take i) * 512)) n t) ∧ t.length ≤ 65536 ∧ framesIn (s.drop (usedOf (l.take (i + 1)) * 512)) (l.drop (i + 1)) := by
  obtain ⟨hi, rfl⟩ := List.getElem?_eq_some_iff.1 h
  rw [List.drop_eq_getElem_cons hi] at hf
  rw [usedOf_next h]
  obtain ⟨h1, h2, h3⟩ := hf
  refine ⟨h1, h2, ?_⟩
  rw [List.drop_drop] at h3
  rwa [Nat.add_mul]

theorem jour_Open_nil (a n : Int) : Fun prog G f_journal_Open [.nilp, .int .i64 a, .int .i64 n] [] (.tup [.nilp, .int .i64 1]) [] := by
  refine .of (mk_journal_Open rfl ⟨?_⟩)
  (refine V0 ?_; repeat (refine VHyp.go (fun _ => ?_); refine V0 ?_))
  refine (jour_placed_nil a n).call [] ?_
  (refine V0 ?_; repeat (refine VHyp.go (fun _ => ?_); refine V0 ?_))
  exact .fin []
theorem jour_Open_down (d : DevM) (hd : d.wf) (a n : Nat) (h8 : 8 ≤ n) (h : a + n ≤ d.safe.length) (hdn : d.down = true) : Fun prog G f_journal_Open [.ptr 0 0, .int .i64 a, .int .i64 n] [devO d] (.tup [.nilp, .int .i64 41]) [devO d] := by
  refine .of (mk_journal_Open rfl ⟨?_⟩)
  (refine V0 ?_; repeat (refine VHyp.go (fun _ => ?_); refine V0 ?_))
  refine (jour_placed d hd a n h8 h).call [0] ?_
  (refine V0 ?_; repeat (refine VHyp.go (fun _ => ?_); refine V0 ?_))
  refine VLoop.on (· = 0) (fun _ => [(0, .ptr 0 0), (8, .ptr 1 0), (9, .int .i64 0), (10, .int .i64 0), (30, .int .i64 0)]) (fun _ => jourD (.new a ((n - 4) / 2)) d) (fun _ => 0) 0 rfl (VGo.eq [0, 1, 2]) ?_
  rintro _ rfl
  (refine V0 ?_; repeat (refine VHyp.go (fun _ => ?_); refine V0 ?_))
  refine (jour_slot_down (.new a ((n - 4) / 2)) d hd 0 (by decide) (by show a + 4 ≤ _; omega) hdn).call [1, 0, 2] ?_
  (refine V0 ?_; repeat (refine VHyp.go (fun _ => ?_); refine V0 ?_))
  exact .fin [0]
/-- a journal's loop over its slots -/
def newA (a half act : Nat) : JourM := { JourM.new a half with active := act }
theorem jour_slot' (a half act : Nat) (d : DevM) (hd : d.wf) (n : Nat) (hn : n ≤ 1) (hr : a + 4 ≤ d.safe.length) (hh : half ≤ 8192) (ho : d.down = false) :
    Fun prog G f_journal_Journal_slot [.ptr 0 0, .int .i64 n] (jourH (newA a half act) d) (.tup [.int .i64 (slotRead (d.sector (a + n)) half).1, .int .i64 (slotRead (d.sector (a + n)) half).2.1, .int .i64 (slotRead (d.sector (a + n)) half).2.2, .int .i64 0]) (jourH (newA a half act) d) := jour_slot (newA a half act) d hd n hn hr hh ho
theorem best1_no {b r : Nat × Nat × Nat} {n : Nat} (h : ¬ (b.1 < r.1 ∧ r.1 % 2 = n)) : best1 b n r = b := if_neg h
theorem best1_yes {b r : Nat × Nat × Nat} {n : Nat} (h : b.1 < r.1 ∧ r.1 % 2 = n) : best1 b n r = r := if_pos h
theorem tmod2 (n : Nat) : (n : Int).tmod 2 = ((n % 2 : Nat) : Int) := (Int.ofNat_tmod n 2).symm
theorem jour_Open_zero (d : DevM) (hd : d.wf) (a n : Nat) (h8 : 8 ≤ n) (h : a + n ≤ d.safe.length) (hdn : d.down = false) (hb : (d.best a ((n - 4) / 2) 2).1 = 0) : Fun prog G f_journal_Open [.ptr 0 0, .int .i64 a, .int .i64 n] [devO d] (.tup [.nilp, .int .i64 61]) [devO d] := by
  refine .of (mk_journal_Open rfl ⟨?_⟩)
  have hz := hd.size
  have hhalf : (n - 4) / 2 ≤ 8192 := by omega
  (refine V0 ?_; repeat (refine VHyp.go (fun _ => ?_); refine V0 ?_))
  refine (jour_placed d hd a n h8 h).call [0] ?_
  generalize (n - 4) / 2 = half at *
  (refine V0 ?_; repeat (refine VHyp.go (fun _ => ?_); refine V0 ?_))
  refine VLoop.on (· ≤ 2) (fun i => [(0, .ptr 0 0), (8, .ptr 1 0), (9, .int .i64 (d.best a half i).1), (10, .int .i64 (d.best a half i).2.2), (30, .int .i64 i)]) (fun i => jourD (newA a half (d.best a half i).2.1) d) (fun i => 2 - i) 0 (by decide) (VGo.eq [0, 1, 2]) ?_
  intro i hi
  by_cases h6 : i < 2
  · (refine V0 ?_; repeat (refine VHyp.go (fun _ => ?_); refine V0 ?_))
    refine (jour_slot' a half (d.best a half i).2.1 d hd i (by omega) (by omega) hhalf hdn).call [1, 0, 2] ?_
    have eb : d.best a half (i + 1) = best1 (d.best a half i) i (slotRead (d.sector (a + i)) half) := rfl
    have hlt := slotRead_lt (d.sector (a + i)) half
    generalize slotRead (d.sector (a + i)) half = r at *
    generalize d.best a half i = b at *
    have hm := tmod2 r.1
    by_cases h7 : b.1 < r.1
    · by_cases h8 : r.1 % 2 = i
      · rw [best1_yes ⟨h7, h8⟩] at eb
        (refine V0 ?_; repeat (refine VHyp.go (fun _ => ?_); refine V0 ?_))
        exact ⟨⟨i + 1, by omega⟩, by dsimp only; omega, VGo.eq [0, 1, 2] (by dsimp only; rw [eb]; rfl) (by dsimp only; rw [eb]; rfl)⟩
      · rw [best1_no (fun h => h8 h.2)] at eb
        (refine V0 ?_; repeat (refine VHyp.go (fun _ => ?_); refine V0 ?_))
        exact ⟨⟨i + 1, by omega⟩, by dsimp only; omega, VGo.eq [0, 1, 2] (by dsimp only; rw [eb]; rfl) (by dsimp only; rw [eb]; rfl)⟩
    · rw [best1_no (fun h => h7 h.1)] at eb
      (refine V0 ?_; repeat (refine VHyp.go (fun _ => ?_); refine V0 ?_))
      exact ⟨⟨i + 1, by omega⟩, by dsimp only; omega, VGo.eq [0, 1, 2] (by dsimp only; rw [eb]; rfl) (by dsimp only; rw [eb]; rfl)⟩
  · obtain rfl : i = 2 := by omega
    (refine V0 ?_; repeat (refine VHyp.go (fun _ => ?_); refine V0 ?_))
    exact .fin [0]

/-- what an opened journal is -/
def openedJ (a half : Nat) (b : Nat × Nat × Nat) (l : List Bytes) : JourM := { from' := a, half, active := b.2.1, seq := b.1, base := l.headD [], records := l.tail, used := usedOf l, held := false, unfit := false }
def openN (a half : Nat) (b : Nat × Nat × Nat) (l : List Bytes) (i : Nat) : JourM := openedJ a half b (l.take i)
theorem openN_first {a half : Nat} {b : Nat × Nat × Nat} {l : List Bytes} {t : Bytes} (h : l[0]? = some t) : openN a half b l 1 = { openN a half b l 0 with base := t, used := (openN a half b l 0).used + secs t.length } := by
  cases l with
  | nil => simp at h
  | cons x l => simp at h; subst h; simp [openN, openedJ, usedOf]
theorem openN_next {a half : Nat} {b : Nat × Nat × Nat} {l : List Bytes} {t : Bytes} {i : Nat} (hi : 0 < i) (h : l[i]? = some t) : openN a half b l (i + 1) = { openN a half b l i with records := (openN a half b l i).records ++ [t], used := (openN a half b l i).used + secs t.length } := by
  cases l with
  | nil => simp at h
  | cons x l =>
    obtain ⟨k, rfl⟩ : ∃ k, i = k + 1 := ⟨i - 1, by omega⟩
    have hu := usedOf_next h
    have h' : l[k]? = some t := by simpa using h
    simp only [openN, openedJ, List.take_succ_cons, List.headD_cons, List.tail_cons, take_next h']
    simp [usedOf]; omega
theorem jour_Open (hG : Globs G) (d : DevM) (hd : d.wf) (a n : Nat) (h8 : 8 ≤ n) (h : a + n ≤ d.safe.length) (hdn : d.down = false) {b : Nat × Nat × Nat} (hb : d.best a ((n - 4) / 2) 2 = b) (hb0 : 0 < b.1) {l : List Bytes} (hl : l.length = b.2.2)
    (hf : framesIn (d.bytes (a + 4 + b.2.1 * ((n - 4) / 2)) ((n - 4) / 2)) l) (hu : usedOf l ≤ (n - 4) / 2) :
    Fun prog G f_journal_Open [.ptr 0 0, .int .i64 a, .int .i64 n] [devO d] (bif d.oper then .tup [.ptr 1 0, .int .i64 0] else .tup [.nilp, .int .i64 41]) (bif d.oper then [devO d.flush, jourO 0 (openedJ a ((n - 4) / 2) b l)] else [devO d.flush]) := by
  refine .of (mk_journal_Open rfl ⟨?_⟩)
  have hz := hd.size
  have hhalf : (n - 4) / 2 ≤ 8192 := by omega
  have hroom : a + 4 + 2 * ((n - 4) / 2) ≤ d.safe.length := by omega
  have hbl := best_lt d a ((n - 4) / 2) 2
  rw [hb] at hbl
  (refine V0 ?_; repeat (refine VHyp.go (fun _ => ?_); refine V0 ?_))
  refine (jour_placed d hd a n h8 h).call [0] ?_
  generalize (n - 4) / 2 = half at *
  (refine V0 ?_; repeat (refine VHyp.go (fun _ => ?_); refine V0 ?_))
  refine VLoop.on (· ≤ 2) (fun i => [(0, .ptr 0 0), (8, .ptr 1 0), (9, .int .i64 (d.best a half i).1), (10, .int .i64 (d.best a half i).2.2), (30, .int .i64 i)]) (fun i => jourD (newA a half (d.best a half i).2.1) d) (fun i => 2 - i) 0 (by decide) (VGo.eq [0, 1, 2]) ?_
  intro i hi
  by_cases h6 : i < 2
  · (refine V0 ?_; repeat (refine VHyp.go (fun _ => ?_); refine V0 ?_))
    refine (jour_slot' a half (d.best a half i).2.1 d hd i (by omega) (by omega) hhalf hdn).call [1, 0, 2] ?_
    have eb : d.best a half (i + 1) = best1 (d.best a half i) i (slotRead (d.sector (a + i)) half) := rfl
    have hlt := slotRead_lt (d.sector (a + i)) half
    generalize slotRead (d.sector (a + i)) half = r at *
    generalize d.best a half i = b at *
    have hm := tmod2 r.1
    by_cases h7 : b.1 < r.1
    · by_cases h8 : r.1 % 2 = i
      · rw [best1_yes ⟨h7, h8⟩] at eb
        (refine V0 ?_; repeat (refine VHyp.go (fun _ => ?_); refine V0 ?_))
        exact ⟨⟨i + 1, by omega⟩, by dsimp only; omega, VGo.eq [0, 1, 2] (by dsimp only; rw [eb]; rfl) (by dsimp only; rw [eb]; rfl)⟩
      · rw [best1_no (fun h => h8 h.2)] at eb
        (refine V0 ?_; repeat (refine VHyp.go (fun _ => ?_); refine V0 ?_))
        exact ⟨⟨i + 1, by omega⟩, by dsimp only; omega, VGo.eq [0, 1, 2] (by dsimp only; rw [eb]; rfl) (by dsimp only; rw [eb]; rfl)⟩
    · rw [best1_no (fun h => h7 h.1)] at eb
      (refine V0 ?_; repeat (refine VHyp.go (fun _ => ?_); refine V0 ?_))
      exact ⟨⟨i + 1, by omega⟩, by dsimp only; omega, VGo.eq [0, 1, 2] (by dsimp only; rw [eb]; rfl) (by dsimp only; rw [eb]; rfl)⟩
  · obtain rfl : i = 2 := by omega
    rw [hb]
    obtain ⟨q1, q2, q3⟩ := hbl
    have hmul : b.2.1 * half ≤ half := by have := Nat.mul_le_mul_right half q2; omega
    (refine V0 ?_; repeat (refine VHyp.go (fun _ => ?_); refine V0 ?_))
    refine con_store rfl rfl ?_
    (refine V0 ?_; repeat (refine VHyp.go (fun _ => ?_); refine V0 ?_))
    refine (jour_place { newA a half b.2.1 with seq := b.1 } d b.2.1 0 (by show a + 4 + b.2.1 * half + 0 ≤ _; omega) q2).call [1, 0, 2] ?_
    (refine V0 ?_; repeat (refine VHyp.go (fun _ => ?_); refine V0 ?_))
    refine (dev_Read d hd (a + 4 + b.2.1 * half) half (by omega) hdn).call [0] ?_
    have hlen := hd.bytes (a + 4 + b.2.1 * half) half
    generalize d.bytes (a + 4 + b.2.1 * half) half = s at *
    (refine V0 ?_; repeat (refine VHyp.go (fun _ => ?_); refine V0 ?_))
    refine VLoop.on (fun i => i ≤ b.2.2 ∧ framesIn (s.drop (usedOf (l.take i) * 512)) (l.drop i)) (fun i => [(8, .ptr 1 0), (16, .str (s.drop (usedOf (l.take i) * 512))), (85, .int .i64 b.2.2), (86, .int .i64 i)]) (fun i => jourD (openN a half b l i) d) (fun i => b.2.2 - i) 0 ⟨Nat.zero_le _, by rw [show usedOf (l.take 0) = 0 from rfl, Nat.zero_mul]; exact hf⟩ (VGo.eq [0, 1, 2] (by rw [show usedOf (l.take 0) = 0 from rfl, Nat.zero_mul]; rfl)) ?_
    rintro i ⟨hi2, hfi⟩
    by_cases h7 : i < b.2.2
    · have hget : l[i]? = some (l.getD i []) := by simp [show i < l.length by omega]
      obtain ⟨⟨m, hm, hat⟩, ht, hnx⟩ := framesIn_next hfi hget
      generalize l.getD i [] = t at *
      have hle := hat.len
      (refine V0 ?_; repeat (refine VHyp.go (fun _ => ?_); refine V0 ?_))
      refine (frame_Get hG hat ht (by rw [List.length_drop]; omega) hm).call [] ?_
      have edrop : (s.drop (usedOf (l.take i) * 512)).drop (Int.toNat ((secs t.length * 512 : Nat) : Int)) = s.drop (usedOf (l.take (i + 1)) * 512) := by
        rw [Int.toNat_natCast, List.drop_drop, usedOf_next hget, Nat.add_mul]
      have hul : usedOf (l.take (i + 1)) ≤ half := by
        have := usedOf_append (l.take (i + 1)) (l.drop (i + 1))
        rw [List.take_append_drop] at this; omega
      rw [usedOf_next hget] at hul
      have e5 : IntKind.i64.wrap (((secs t.length * 512 : Nat) : Int).tdiv 512) = (secs t.length : Int) := by rw [wdiv512 (by omega), Nat.mul_div_cancel _ (by decide)]
      have hrl : (openN a half b l i).records.length ≤ l.length := by simp [openN, openedJ]; omega
      have hus : (openN a half b l i).used = usedOf (l.take i) := rfl
      have hle2 := hat.len
      rw [List.length_drop] at hle2
      by_cases hi0 : i = 0
      · subst hi0
        have eo := openN_first (a := a) (half := half) (b := b) hget
        (refine V0 ?_; repeat (refine VHyp.go (fun _ => ?_); refine V0 ?_))
        exact ⟨⟨1, by omega, hnx⟩, by dsimp only; omega, VGo.eq [0, 1, 2] (by dsimp only; rw [← edrop]; rfl) (by dsimp only; rw [eo]; rfl)⟩
      · have eo := openN_next (a := a) (half := half) (b := b) (show 0 < i by omega) hget
        (refine V0 ?_; repeat (refine VHyp.go (fun _ => ?_); refine V0 ?_))
        exact ⟨⟨i + 1, by omega, hnx⟩, by dsimp only; omega, VGo.eq [0, 1, 4] (by dsimp only; rw [← edrop]; rfl) (by dsimp only; rw [eo]; rfl)⟩
    · have e : i = b.2.2 := by omega
      have e6 : openN a half b l i = openedJ a half b l := by rw [openN, List.take_of_length_le (by omega)]
      rw [e6]
      (refine V0 ?_; repeat (refine VHyp.go (fun _ => ?_); refine V0 ?_))
      refine (jour_flush (openedJ a half b l) d hd).call [1, 0, 2] ?_
      cases ho : d.oper with
      | true =>
        (refine V0 ?_; repeat (refine VHyp.go (fun _ => ?_); refine V0 ?_))
        have e7 : (openedJ a half b l).flush d = openedJ a half b l := by simp [JourM.flush, openedJ, ho]
        rw [e7]
        exact .shut 1 [2] [0] (jourL (openedJ a half b l)) (.fin [0, 1])
      | false =>
        (refine V0 ?_; repeat (refine VHyp.go (fun _ => ?_); refine V0 ?_))
        exact .fin [0]

/-! ### making -/
theorem puts_calm {d : DevM} (hd : d.calm) (j : JourM) (half at' : Nat) (text : Bytes) (frames : Nat) : (j.puts d half at' text frames).2.1.calm ∧ (j.puts d half at' text frames).2.2 = true := by
  have h1 := hd.wr (j.place half at') (frameB (j.seq + 1) text)
  simp only [JourM.puts, h1.2, h1.1.oper, cond_true]
  have h3 := h1.1.flush.wr (j.from' + (j.seq + 1) % 2) (slotB (j.seq + 1) half frames)
  rw [h3.2]
  exact ⟨h3.1, rfl⟩
theorem puts_wf {d : DevM} (hd : d.wf) {j : JourM} (hj : j.fits d) (hh : d.held.length ≤ 1000000) {half at' : Nat} {text : Bytes} (frames : Nat) (h1 : half ≤ 1) (h2 : at' + secs text.length ≤ j.half) :
    (j.puts d half at' text frames).2.1.wf ∧ (j.puts d half at' text frames).2.1.safe.length = d.safe.length ∧ (j.puts d half at' text frames).2.1.held.length ≤ d.held.length + secs text.length + 1 := by
  have hr := hj.room
  have hz := hd.size
  have hfl := frameB_len (j.seq + 1) text
  have hsl := slotB_len (j.seq + 1) half frames
  have hhalf : half * j.half ≤ j.half := by have := Nat.mul_le_mul_right j.half h1; omega
  have hq : (frameB (j.seq + 1) text).length / 512 = secs text.length := by rw [hfl, Nat.mul_div_cancel _ (by decide)]
  have hw := hd.wr (a := j.place half at') (data := frameB (j.seq + 1) text) (by rw [hq]; omega) (by rw [hq]; unfold JourM.place; omega)
  have hws := wr_size d (j.place half at') (frameB (j.seq + 1) text)
  rw [hq] at hws
  simp only [JourM.puts]
  generalize d.wr (j.place half at') (frameB (j.seq + 1) text) = w1 at *
  have hf := flush_size w1.1
  cases w1.2 with
  | false => exact ⟨hw, by rw [cond_false]; rw [hws.1], by simp only [cond_false]; omega⟩
  | true =>
    cases w1.1.oper with
    | false => exact ⟨hw.flush, by simp only [cond_true, cond_false]; rw [hf.1, hws.1], by simp only [cond_true, cond_false]; omega⟩
    | true =>
      have hw3 := hw.flush.wr (a := j.from' + (j.seq + 1) % 2) (data := slotB (j.seq + 1) half frames) (by rw [hsl]; omega) (by rw [hsl, hf.1, hws.1]; omega)
      have hws3 := wr_size w1.1.flush (j.from' + (j.seq + 1) % 2) (slotB (j.seq + 1) half frames)
      rw [hsl] at hws3
      generalize w1.1.flush.wr (j.from' + (j.seq + 1) % 2) (slotB (j.seq + 1) half frames) = w3 at *
      cases w3.2 with
      | false => exact ⟨hw3, by simp only [cond_true, cond_false]; rw [hws3.1, hf.1, hws.1], by simp only [cond_true, cond_false]; omega⟩
      | true => exact ⟨hw3, by simp only [cond_true]; rw [hws3.1, hf.1, hws.1], by simp only [cond_true]; omega⟩
/-- what a making comes to -/
def JourM.make (a half : Nat) (d : DevM) (base : Bytes) : JourM × DevM :=
  let d1 := (d.wr a (zeros 1024)).1
  let p := ((JourM.new a half).flush d1).puts d1.flush 0 0 base 1
  ({ p.1.flush p.2.1 with base := base, used := secs base.length }, p.2.1.flush)
theorem jour_Format_nil (a n : Int) (base : Bytes) (_h : base.length ≤ 9223372036854775807) : Fun prog G f_journal_Format [.nilp, .int .i64 a, .int .i64 n, .str base] [] (.tup [.nilp, .int .i64 1]) [] := by
  refine .of (mk_journal_Format rfl ⟨?_⟩)
  (refine V0 ?_; repeat (refine VHyp.go (fun _ => ?_); refine V0 ?_))
  refine (jour_placed_nil a n).call [] ?_
  (refine V0 ?_; repeat (refine VHyp.go (fun _ => ?_); refine V0 ?_))
  exact .fin []
theorem jour_Format_bad (d : DevM) (hd : d.wf) (a n : Int) (base : Bytes) (h : a < 0 ∨ n < 8 ∨ d.safe.length < n ∨ d.safe.length - n < a) : Fun prog G f_journal_Format [.ptr 0 0, .int .i64 a, .int .i64 n, .str base] [devO d] (.tup [.nilp, .int .i64 1]) [devO d] := by
  refine .of (mk_journal_Format rfl ⟨?_⟩)
  (refine V0 ?_; repeat (refine VHyp.go (fun _ => ?_); refine V0 ?_))
  refine (jour_placed_bad d hd a n h).call [0] ?_
  (refine V0 ?_; repeat (refine VHyp.go (fun _ => ?_); refine V0 ?_))
  exact .fin [0]
theorem jour_Format_long (d : DevM) (hd : d.wf) (a n : Nat) (h8 : 8 ≤ n) (h : a + n ≤ d.safe.length) (base : Bytes) (hb : 65536 < base.length) : Fun prog G f_journal_Format [.ptr 0 0, .int .i64 a, .int .i64 n, .str base] [devO d] (.tup [.nilp, .int .i64 2]) [devO d] := by
  refine .of (mk_journal_Format rfl ⟨?_⟩)
  (refine V0 ?_; repeat (refine VHyp.go (fun _ => ?_); refine V0 ?_))
  refine (jour_placed d hd a n h8 h).call [0] ?_
  (refine V0 ?_; repeat (refine VHyp.go (fun _ => ?_); refine V0 ?_))
  exact .fin [0]
theorem jour_Format_full (d : DevM) (hd : d.wf) (a n : Nat) (h8 : 8 ≤ n) (h : a + n ≤ d.safe.length) (base : Bytes) (hb : base.length ≤ 65536) (hs : (n - 4) / 2 < secs base.length) : Fun prog G f_journal_Format [.ptr 0 0, .int .i64 a, .int .i64 n, .str base] [devO d] (.tup [.nilp, .int .i64 60]) [devO d] := by
  refine .of (mk_journal_Format rfl ⟨?_⟩)
  (refine V0 ?_; repeat (refine VHyp.go (fun _ => ?_); refine V0 ?_))
  refine (jour_placed d hd a n h8 h).call [0] ?_
  generalize (n - 4) / 2 = half at *
  (refine V0 ?_; repeat (refine VHyp.go (fun _ => ?_); refine V0 ?_))
  refine (frame_Sectors base.length hb).call [] ?_
  have hh : (JourM.new a half).half = half := rfl
  (refine V0 ?_; repeat (refine VHyp.go (fun _ => ?_); refine V0 ?_))
  exact .fin [0]
theorem jour_Format (hG : Globs G) (d : DevM) (hd : d.wf) (hc : d.calm) (hm : d.held.length ≤ 999000) (a n : Nat) (h8 : 8 ≤ n) (h : a + n ≤ d.safe.length) (base : Bytes) (hb : base.length ≤ 65536) (hs : secs base.length ≤ (n - 4) / 2) :
    Fun prog G f_journal_Format [.ptr 0 0, .int .i64 a, .int .i64 n, .str base] [devO d] (.tup [.ptr 1 0, .int .i64 0]) [devO (JourM.make a ((n - 4) / 2) d base).2, jourO 0 (JourM.make a ((n - 4) / 2) d base).1] := by
  refine .of (mk_journal_Format rfl ⟨?_⟩)
  have hroom : a + 4 + 2 * ((n - 4) / 2) ≤ d.safe.length := by omega
  (refine V0 ?_; repeat (refine VHyp.go (fun _ => ?_); refine V0 ?_))
  refine (jour_placed d hd a n h8 h).call [0] ?_
  generalize (n - 4) / 2 = half at *
  (refine V0 ?_; repeat (refine VHyp.go (fun _ => ?_); refine V0 ?_))
  refine (frame_Sectors base.length hb).call [] ?_
  have hh : (JourM.new a half).half = half := rfl
  (refine V0 ?_; repeat (refine VHyp.go (fun _ => ?_); refine V0 ?_))
  refine (str_Repeat (s := [0]) (n := 1024) (by decide) (by decide)).call [] ?_
  rw [rep_one]
  (refine V0 ?_; repeat (refine VHyp.go (fun _ => ?_); refine V0 ?_))
  have hl : (zeros 1024).length = 1024 := zeros_len _
  have hfit : a + (zeros 1024).length / 512 ≤ d.safe.length := by rw [hl]; omega
  refine (dev_Write_any d hd a (zeros 1024) (by rw [hl]) hfit).call [0] ?_
  have hw := hc.wr a (zeros 1024)
  have hwf := hd.wr (a := a) (data := zeros 1024) (by rw [hl]; omega) hfit
  have hws := wr_size d a (zeros 1024)
  rw [hl] at hws
  rw [hw.2]
  have emake : JourM.make a half d base = ({ (((JourM.new a half).flush (d.wr a (zeros 1024)).1).puts (d.wr a (zeros 1024)).1.flush 0 0 base 1).1.flush (((JourM.new a half).flush (d.wr a (zeros 1024)).1).puts (d.wr a (zeros 1024)).1.flush 0 0 base 1).2.1 with base := base, used := secs base.length }, (((JourM.new a half).flush (d.wr a (zeros 1024)).1).puts (d.wr a (zeros 1024)).1.flush 0 0 base 1).2.1.flush) := rfl
  rw [emake]
  generalize (d.wr a (zeros 1024)).1 = d1 at *
  (refine V0 ?_; repeat (refine VHyp.go (fun _ => ?_); refine V0 ?_))
  refine (jour_flush (.new a half) d1 hwf).call [1, 0, 2] ?_
  rw [hw.1.oper]
  have hf1 := flush_size d1
  have hfit : ((JourM.new a half).flush d1).fits d1.flush := ⟨by rw [hf1.1, hws.1]; exact hroom, by show 0 < _; decide, Nat.zero_le _, Nat.zero_le _, Nat.zero_le _⟩
  have hp := jour_puts hG ((JourM.new a half).flush d1) d1.flush hwf.flush hfit (by omega) 0 0 base 1 (by decide) (by show 0 + _ ≤ half; omega) hb (by decide)
  have hpc := puts_calm hw.1.flush ((JourM.new a half).flush d1) 0 0 base 1
  have hpw := puts_wf hwf.flush hfit (by omega) (half := 0) (at' := 0) (text := base) 1 (by decide) (by show 0 + _ ≤ half; omega)
  generalize hq : ((JourM.new a half).flush d1).puts d1.flush 0 0 base 1 = q at *
  (refine V0 ?_; repeat (refine VHyp.go (fun _ => ?_); refine V0 ?_))
  refine hp.call [1, 0, 2] ?_
  rw [hpc.2]
  (refine V0 ?_; repeat (refine VHyp.go (fun _ => ?_); refine V0 ?_))
  refine (jour_flush q.1 q.2.1 hpw.1).call [1, 0, 2] ?_
  rw [hpc.1.oper]
  (refine V0 ?_; repeat (refine VHyp.go (fun _ => ?_); refine V0 ?_))
  refine (frame_Sectors base.length hb).call [] ?_
  (refine V0 ?_; repeat (refine VHyp.go (fun _ => ?_); refine V0 ?_))
  exact .shut 1 [2] [0] (jourL { q.1.flush q.2.1 with base := base, used := secs base.length }) (.fin [0, 1])
end
end Go.V
