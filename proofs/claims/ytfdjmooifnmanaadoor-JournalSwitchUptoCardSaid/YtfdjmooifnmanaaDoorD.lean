/- Contracts of the package dev. -/
import Derived.Test.YtfdjmooifnmanaaDoorB
import Derived.Test.YtfdjmooifnmanaaDoorM0
import Derived.Test.YtfdjmooifnmanaaDoorCD
namespace Go.V

structure DevM where
  safe : List Bytes
  now : List Bytes
  held : List (Int × Bytes)
  ops : Int
  armed : Bool
  left : Int
  down : Bool

def devL (m : DevM) : List SO :=
  [.cells [.ref 1, .ref 2, .ref 3, .int .i64 m.ops, .bool m.armed, .int .i64 m.left, .bool m.down], .list (strC ty_string) m.safe, .list (strC ty_string) m.now, .list heldC m.held]
/-- a device -/
def devO (m : DevM) : SO := pack [] (devL m)

theorem dev_open (m : DevM) : HEnt [devO m] (devL m) := HEnt.unpack (H := [devO m]) (n := 0) (ns := []) rfl (by simp [devL])

def DevM.kept (m : DevM) (a : Nat) : Bytes := let s := m.safe.getD a []; if s = [] then zeros 512 else s
def DevM.sector (m : DevM) (a : Nat) : Bytes := let s := m.now.getD a []; if s = [] then m.kept a else s
def DevM.oper (m : DevM) : Bool := !(m.down || (m.armed && decide (m.left = 0)))
def DevM.count (m : DevM) : DevM := if m.oper then { m with left := IntKind.i64.wrap (m.left - 1), ops := IntKind.i64.wrap (m.ops + 1) } else { m with down := true }

section
variable {G : Glob}

theorem dev_operation (m : DevM) : Fun prog G f_dev_Dev_operation [.ptr 0 0] (devL m) (.bool m.oper) (devL m.count) := by
  refine .of (mk_dev_Dev_operation rfl ⟨?_⟩)
  obtain ⟨safe, now, held, ops, armed, left, down⟩ := m
  cases down
  · cases armed
    · (refine V0 ?_; repeat (refine VHyp.go (fun _ => ?_); refine V0 ?_))
      refine VWrap.mk _ rfl ?_
      (refine V0 ?_; repeat (refine VHyp.go (fun _ => ?_); refine V0 ?_))
      refine con_add rfl rfl rfl ?_
      (refine V0 ?_; repeat (refine VHyp.go (fun _ => ?_); refine V0 ?_))
      exact VRet.fin [0, 1, 2, 3]
    · by_cases h : left = 0
      · subst h
        (refine V0 ?_; repeat (refine VHyp.go (fun _ => ?_); refine V0 ?_))
        exact VRet.fin [0, 1, 2, 3]
      · have e : DevM.oper ⟨safe, now, held, ops, true, left, false⟩ = true := by simp [DevM.oper, h]
        (refine V0 ?_; repeat (refine VHyp.go (fun _ => ?_); refine V0 ?_))
        refine VWrap.mk _ rfl ?_
        (refine V0 ?_; repeat (refine VHyp.go (fun _ => ?_); refine V0 ?_))
        refine con_add rfl rfl rfl ?_
        (refine V0 ?_; repeat (refine VHyp.go (fun _ => ?_); refine V0 ?_))
        exact VRet.fin [0, 1, 2, 3] (by rw [e]; rfl) (by simp only [DevM.count, e]; rfl)
  · (refine V0 ?_; repeat (refine VHyp.go (fun _ => ?_); refine V0 ?_))
    exact VRet.fin [0, 1, 2, 3]

/-- what is done with the parts is done with the device -/
theorem Fun.dev {f : FuncId} {args : List SV} {m m' : DevM} {v : SV} (h : Fun prog G f args (devL m) v (devL m')) (hv : v = renS (sgn [0] 0) v := by rfl) (nv : (nlS 1 v) = true := by rfl) : Fun prog G f args [devO m] v [devO m'] :=
  Fun.via (devL m) (dev_open m) h [devO m', .gone, .gone, .gone] (HEnt.close 0 [1, 2, 3] [] (devL m') ⟨rfl, rfl, rfl, rfl, trivial⟩ rfl .rfl rfl) [0] hv rfl (by rw [show lenO [devO m'] = 1 from rfl, nv]; rfl)

/-- the same, where the parts may go over to new names -/
theorem Fun.dev' {f : FuncId} {args : List SV} {m m' : DevM} {v : SV} (h : Con prog G f args (devL m) (fun v1 H1 => VRet 1 v1 H1 (fun v2 H2 => v2 = v ∧ H2 = [devO m'])) (fun _ _ => False)) : Fun prog G f args [devO m] v [devO m'] :=
  .of (Con.open' (devL m) (dev_open m) (h.mono (fun _ _ h => h) (fun _ _ h => h.elim)))
/-- a device whose list of what is held back lies elsewhere -/
def devW (m : DevM) : List SO :=
  [.cells [.ref 1, .ref 2, .ref 4, .int .i64 m.ops, .bool m.armed, .int .i64 m.left, .bool m.down], .list (strC ty_string) m.safe, .list (strC ty_string) m.now, .gone, .list heldC m.held]
/-- a device that holds no such list -/
def devN (m : DevM) : List SO :=
  [.cells [.ref 1, .ref 2, .nils, .int .i64 m.ops, .bool m.armed, .int .i64 m.left, .bool m.down], .list (strC ty_string) m.safe, .list (strC ty_string) m.now, .gone]

def DevM.new (n : Nat) : DevM := { safe := List.replicate n [], now := List.replicate n [], held := [], ops := 0, armed := false, left := 0, down := false }

theorem dev_New_bad (n : Int) (h : n < 1 ∨ 8192 < n) : Fun prog G f_dev_New [.int .i64 n] [] (.tup [.nilp, .int .i64 1]) [] := by
  refine .of (mk_dev_New rfl ⟨?_⟩)
  rcases h with h | h
  · (refine V0 ?_; repeat (refine VHyp.go (fun _ => ?_); refine V0 ?_))
    exact VRet.fin []
  · by_cases h1 : n < 1 <;> (refine V0 ?_; repeat (refine VHyp.go (fun _ => ?_); refine V0 ?_))
    all_goals exact VRet.fin []
theorem dev_New (n : Nat) (h1 : 1 ≤ n) (h2 : n ≤ 8192) : Fun prog G f_dev_New [.int .i64 n] [] (.tup [.ptr 0 0, .int .i64 0]) [devO (.new n)] := by
  refine .of (mk_dev_New rfl ⟨?_⟩)
  (refine V0 ?_; repeat (refine VHyp.go (fun _ => ?_); refine V0 ?_))
  refine ⟨?_, ?_⟩
  all_goals (refine V0 ?_; repeat (refine VHyp.go (fun _ => ?_); refine V0 ?_))
  · refine VRet.nilc 2 2 heldC rfl rfl ?_
    refine VRet.shut 2 [0, 1, 3] [] (devL (.new n)) ?_
    exact VRet.fin [2]
  · refine VRet.nilc 2 2 heldC rfl rfl ?_
    refine VRet.shut 2 [1, 0, 3] [] (devL (.new n)) ?_
    exact VRet.fin [2]
theorem dev_Size_nil : Fun prog G f_dev_Dev_Size [.nilp] [] (.int .i64 0) [] := by
  refine .of (mk_dev_Dev_Size rfl ⟨?_⟩)
  (refine V0 ?_; repeat (refine VHyp.go (fun _ => ?_); refine V0 ?_))
  exact VRet.fin []
theorem dev_Size (m : DevM) : Fun prog G f_dev_Dev_Size [.ptr 0 0] [devO m] (.int .i64 m.safe.length) [devO m] := by
  refine Fun.dev (.of (mk_dev_Dev_Size rfl ⟨?_⟩))
  (refine V0 ?_; repeat (refine VHyp.go (fun _ => ?_); refine V0 ?_))
  exact VRet.fin [0, 1, 2, 3]
theorem dev_Arm (m : DevM) (n : Int) : Fun prog G f_dev_Dev_Arm [.ptr 0 0, .int .i64 n] [devO m] (.tup []) [devO { m with armed := true, left := max n 0 }] := by
  refine Fun.dev (.of (mk_dev_Dev_Arm rfl ⟨?_⟩))
  (refine V0 ?_; repeat (refine VHyp.go (fun _ => ?_); refine V0 ?_))
  exact VRet.fin [0, 1, 2, 3]
theorem getD_mem {l : List Bytes} (h : ∀ x ∈ l, x = [] ∨ x.length = 512) (a : Nat) : l.getD a [] = [] ∨ (l.getD a []).length = 512 := by
  by_cases ha : a < l.length
  · have : l.getD a [] = l[a] := by simp [ha]
    rw [this]; exact h _ (List.getElem_mem ha)
  · left; simp [List.getElem?_eq_none (Nat.le_of_not_lt ha)]

theorem kept_empty {m : DevM} {a : Nat} (h : m.safe.getD a [] = []) : m.kept a = toB (List.replicate 512 0) := by rw [toB_zeros]; exact if_pos h
theorem kept_full {m : DevM} {a : Nat} (h : ¬ m.safe.getD a [] = []) : m.kept a = m.safe.getD a [] := if_neg h
theorem sector_empty {m : DevM} {a : Nat} (h : m.now.getD a [] = []) : m.sector a = m.kept a := if_pos h
theorem sector_full {m : DevM} {a : Nat} (h : ¬ m.now.getD a [] = []) : m.sector a = m.now.getD a [] := if_neg h
theorem dev_kept (m : DevM) (a : Nat) (ha : a < m.safe.length) : Fun prog G f_dev_Dev_kept [.ptr 0 0, .int .i64 a] (devL m) (.str (m.kept a)) (devL m) := by
  refine .of (mk_dev_Dev_kept rfl ⟨?_⟩)
  by_cases h : m.safe.getD a [] = []
  · (refine V0 ?_; repeat (refine VHyp.go (fun _ => ?_); refine V0 ?_))
    refine VBytes.ref _ _ _ rfl rfl ?_
    (refine V0 ?_; repeat (refine VHyp.go (fun _ => ?_); refine V0 ?_))
    exact VRet.fin [0, 1, 2, 3] (by rw [kept_empty h]; rfl)
  · (refine V0 ?_; repeat (refine VHyp.go (fun _ => ?_); refine V0 ?_))
    exact VRet.fin [0, 1, 2, 3] (by rw [kept_full h]; rfl)
theorem dev_sector (m : DevM) (a : Nat) (ha : a < m.safe.length) (hn : m.now.length = m.safe.length) : Fun prog G f_dev_Dev_sector [.ptr 0 0, .int .i64 a] (devL m) (.str (m.sector a)) (devL m) := by
  have ha' : a < m.now.length := by omega
  refine .of (mk_dev_Dev_sector rfl ⟨?_⟩)
  by_cases h : m.now.getD a [] = []
  · (refine V0 ?_; repeat (refine VHyp.go (fun _ => ?_); refine V0 ?_))
    refine (dev_kept m a ha).call [0, 1, 2, 3] ?_
    (refine V0 ?_; repeat (refine VHyp.go (fun _ => ?_); refine V0 ?_))
    exact VRet.fin [0, 1, 2, 3] (by rw [sector_empty h]; rfl)
  · (refine V0 ?_; repeat (refine VHyp.go (fun _ => ?_); refine V0 ?_))
    exact VRet.fin [0, 1, 2, 3] (by rw [sector_full h]; rfl)

theorem dev_sector' (m : DevM) (a : Int) (h0 : 0 ≤ a) (ha : a < m.safe.length) (hn : m.now.length = m.safe.length) : Fun prog G f_dev_Dev_sector [.ptr 0 0, .int .i64 a] (devL m) (.str (m.sector a.toNat)) (devL m) := by
  obtain ⟨a, rfl⟩ := Int.eq_ofNat_of_zero_le h0
  exact dev_sector m a (by omega) hn

structure DevM.wf (m : DevM) : Prop where
  size : m.safe.length ≤ 8192
  now : m.now.length = m.safe.length
  safe' : ∀ x ∈ m.safe, x = [] ∨ x.length = 512
  now' : ∀ x ∈ m.now, x = [] ∨ x.length = 512
  held : ∀ x ∈ m.held, 0 ≤ x.1 ∧ x.1 < m.safe.length ∧ x.2.length = 512
  many : m.held.length ≤ 1000000000000

theorem DevM.wf.kept {m : DevM} (h : m.wf) (a : Nat) : (m.kept a).length = 512 := by
  unfold DevM.kept
  rcases getD_mem h.safe' a with e | e
  · simp only [e, if_true]; exact zeros_len 512
  · have : ¬ m.safe.getD a [] = [] := fun h => by rw [h] at e; cases e
    simp only [this, if_false]; exact e
theorem DevM.wf.sector {m : DevM} (h : m.wf) (a : Nat) : (m.sector a).length = 512 := by
  unfold DevM.sector
  rcases getD_mem h.now' a with e | e
  · simp only [e, if_true]; exact h.kept a
  · have : ¬ m.now.getD a [] = [] := fun h => by rw [h] at e; cases e
    simp only [this, if_false]; exact e
def DevM.bytes (m : DevM) (a : Nat) : Nat → Bytes
  | 0 => []
  | n + 1 => m.bytes a n ++ m.sector (a + n)
theorem DevM.wf.bytes {m : DevM} (h : m.wf) (a : Nat) : ∀ n, (m.bytes a n).length = 512 * n
  | 0 => rfl
  | n + 1 => by simp [DevM.bytes, h.bytes a n, h.sector]; omega

theorem dev_Read_nil (a n : Int) : Fun prog G f_dev_Dev_Read [.nilp, .int .i64 a, .int .i64 n] [] (.tup [.str [], .int .i64 1]) [] := by
  refine .of (mk_dev_Dev_Read rfl ⟨?_⟩)
  (refine V0 ?_; repeat (refine VHyp.go (fun _ => ?_); refine V0 ?_))
  exact VRet.fin []
theorem dev_Read_place (m : DevM) (hm : m.wf) (a n : Int) (h : a < 0 ∨ n < 0 ∨ m.safe.length < a ∨ m.safe.length - a < n) : Fun prog G f_dev_Dev_Read [.ptr 0 0, .int .i64 a, .int .i64 n] [devO m] (.tup [.str [], .int .i64 40]) [devO m] := by
  have hsz := hm.size
  refine Fun.dev (.of (mk_dev_Dev_Read rfl ⟨?_⟩))
  by_cases h1 : a < 0
  · (refine V0 ?_; repeat (refine VHyp.go (fun _ => ?_); refine V0 ?_))
    exact VRet.fin [0, 1, 2, 3]
  by_cases h2 : n < 0
  · (refine V0 ?_; repeat (refine VHyp.go (fun _ => ?_); refine V0 ?_))
    exact VRet.fin [0, 1, 2, 3]
  by_cases h3 : m.safe.length < a
  · (refine V0 ?_; repeat (refine VHyp.go (fun _ => ?_); refine V0 ?_))
    exact VRet.fin [0, 1, 2, 3]
  (refine V0 ?_; repeat (refine VHyp.go (fun _ => ?_); refine V0 ?_))
  exact VRet.fin [0, 1, 2, 3]
theorem dev_Read_down (m : DevM) (hm : m.wf) (a n : Nat) (h : a + n ≤ m.safe.length) (hd : m.down = true) : Fun prog G f_dev_Dev_Read [.ptr 0 0, .int .i64 a, .int .i64 n] [devO m] (.tup [.str [], .int .i64 41]) [devO m] := by
  have hsz := hm.size
  refine Fun.dev (.of (mk_dev_Dev_Read rfl ⟨?_⟩))
  (refine V0 ?_; repeat (refine VHyp.go (fun _ => ?_); refine V0 ?_))
  exact VRet.fin [0, 1, 2, 3]
theorem dev_Read (m : DevM) (hm : m.wf) (a n : Nat) (h : a + n ≤ m.safe.length) (hd : m.down = false) : Fun prog G f_dev_Dev_Read [.ptr 0 0, .int .i64 a, .int .i64 n] [devO m] (.tup [.str (m.bytes a n), .int .i64 0]) [devO m] := by
  have hsz := hm.size
  refine Fun.dev (.of (mk_dev_Dev_Read rfl ⟨?_⟩))
  (refine V0 ?_; repeat (refine VHyp.go (fun _ => ?_); refine V0 ?_))
  refine VLoop.on (· ≤ n) (fun i => [(0, .ptr 0 0), (1, .int .i64 a), (8, .ptr 4 0), (45, .int .i64 n), (46, .int .i64 i)]) (fun i => devL m ++ [bldO (m.bytes a i)]) (fun i => n - i) 0 (Nat.zero_le _) (.ghost _ (HEnt.set (n := 4) bld_new) (VGo.eq [0, 1, 2, 3, 4])) ?_
  intro i hi
  by_cases h6 : i < n
  · (refine V0 ?_; repeat (refine VHyp.go (fun _ => ?_); refine V0 ?_))
    refine (dev_sector m (a + i) (by omega) hm.now).call [0, 1, 2, 3] ?_
    (refine V0 ?_; repeat (refine VHyp.go (fun _ => ?_); refine V0 ?_))
    refine (bld_WriteString (s := m.bytes a i) (t := m.sector (a + i)) (by rw [hm.bytes, hm.sector]; omega)).call [4] ?_
    (refine V0 ?_; repeat (refine VHyp.go (fun _ => ?_); refine V0 ?_))
    exact ⟨⟨i + 1, by omega⟩, by dsimp only; omega, VGo.eq [0, 1, 2, 3, 4]⟩
  · obtain rfl : i = n := by omega
    (refine V0 ?_; repeat (refine VHyp.go (fun _ => ?_); refine V0 ?_))
    refine (bld_String (s := m.bytes a i)).call [4] ?_
    (refine V0 ?_; repeat (refine VHyp.go (fun _ => ?_); refine V0 ?_))
    exact VRet.fin [0, 1, 2, 3]

/-! ### writes -/
/-- a sector's bytes in a text -/
def sect (data : Bytes) (i : Nat) : Bytes := (data.take ((i + 1) * 512)).drop (i * 512)
def DevM.write1 (m : DevM) (a : Nat) (s : Bytes) : DevM := { m.count with held := m.count.held ++ [((a : Int), s)], now := m.count.now.set a s }
/-- i sectors of a text are written; false: the device went down on the way -/
def DevM.wrN (m : DevM) (a : Nat) (data : Bytes) : Nat → DevM × Bool
  | 0 => (m, true)
  | i + 1 => bif (m.wrN a data i).2 then (bif (m.wrN a data i).1.oper then ((m.wrN a data i).1.write1 (a + i) (sect data i), true) else ((m.wrN a data i).1.count, false)) else m.wrN a data i
def DevM.write (m : DevM) (a : Nat) (data : Bytes) : DevM × Bool := m.wrN a data (data.length / 512)

theorem wrN_stuck {m : DevM} {a : Nat} {data : Bytes} {i : Nat} (h : (m.wrN a data i).2 = false) : ∀ n, i ≤ n → m.wrN a data n = m.wrN a data i
  | 0, hi => by rw [show i = 0 by omega]
  | n + 1, hi => by
    by_cases e : i = n + 1
    · rw [e]
    · have := wrN_stuck h n (by omega)
      simp [DevM.wrN, this, h]
theorem count_size (m : DevM) : m.count.safe = m.safe ∧ m.count.now = m.now ∧ m.count.held = m.held := by
  unfold DevM.count; split <;> exact ⟨rfl, rfl, rfl⟩
theorem wrN_size (m : DevM) (a : Nat) (data : Bytes) : ∀ i, (m.wrN a data i).1.safe = m.safe ∧ (m.wrN a data i).1.now.length = m.now.length ∧ (m.wrN a data i).1.held.length ≤ m.held.length + i
  | 0 => ⟨rfl, rfl, Nat.le_refl _⟩
  | i + 1 => by
    have ih := wrN_size m a data i
    have hc := count_size (m.wrN a data i).1
    unfold DevM.wrN
    cases (m.wrN a data i).2 with
    | false => exact ⟨ih.1, ih.2.1, by simp only [cond_false]; omega⟩
    | true =>
      cases (m.wrN a data i).1.oper with
      | false => exact ⟨by simp [hc, ih], by simp [hc, ih], by simp [hc]; omega⟩
      | true => exact ⟨by simp [DevM.write1, hc, ih], by simp [DevM.write1, hc, ih], by simp [DevM.write1, hc]; omega⟩

theorem dev_Write_nil (a : Int) (s : Bytes) (hs : s.length ≤ 9223372036854775807) : Fun prog G f_dev_Dev_Write [.nilp, .int .i64 a, .str s] [] (.int .i64 1) [] := by
  refine .of (mk_dev_Dev_Write rfl ⟨?_⟩)
  (refine V0 ?_; repeat (refine VHyp.go (fun _ => ?_); refine V0 ?_))
  exact VRet.fin []
theorem dev_Write_down (m : DevM) (hm : m.wf) (a : Nat) (data : Bytes) (hl : data.length % 512 = 0) (h : a + data.length / 512 ≤ m.safe.length) (hd : m.down = true) : Fun prog G f_dev_Dev_Write [.ptr 0 0, .int .i64 a, .str data] [devO m] (.int .i64 41) [devO m] := by
  have hsz := hm.size
  have hl' := tmod_zero hl
  refine Fun.dev (.of (mk_dev_Dev_Write rfl ⟨?_⟩))
  (refine V0 ?_; repeat (refine VHyp.go (fun _ => ?_); refine V0 ?_))
  exact VRet.fin [0, 1, 2, 3]
theorem dev_Write (m : DevM) (hm : m.wf) (a : Nat) (data : Bytes) (hl : data.length % 512 = 0) (h : a + data.length / 512 ≤ m.safe.length) (hd : m.down = false) :
    Fun prog G f_dev_Dev_Write [.ptr 0 0, .int .i64 a, .str data] [devO m] (.int .i64 (bif (m.write a data).2 then 0 else 41)) [devO (m.write a data).1] := by
  have hsz := hm.size
  have hmany := hm.many
  have hl' := tmod_zero hl
  refine Fun.dev' (mk_dev_Dev_Write rfl ⟨?_⟩)
  (refine V0 ?_; repeat (refine VHyp.go (fun _ => ?_); refine V0 ?_))
  refine VLoop.on (fun i => i ≤ data.length / 512 ∧ (m.wrN a data i).2 = true) (fun i => [(0, .ptr 0 0), (1, .int .i64 a), (2, .str data), (50, .int .i64 (data.length / 512 : Nat)), (51, .int .i64 i)]) (fun i => devW (m.wrN a data i).1) (fun i => data.length / 512 - i) 0 ⟨Nat.zero_le _, rfl⟩ (.ghost _ (HEnt.moveRef 0 2 3 rfl rfl rfl rfl) (VGo.eq [0, 1, 2, 3, 4])) ?_
  rintro i ⟨hi, hok⟩
  have hs := wrN_size m a data i
  by_cases h6 : i < data.length / 512
  · (refine V0 ?_; repeat (refine VHyp.go (fun _ => ?_); refine V0 ?_))
    refine (dev_operation (m.wrN a data i).1).call [0, 1, 2, 4] ?_
    (refine V0 ?_; repeat (refine VHyp.go (fun _ => ?_); refine V0 ?_))
    refine VIf.mk (fun h7 => ?_) (fun h7 => ?_)
    · (refine V0 ?_; repeat (refine VHyp.go (fun _ => ?_); refine V0 ?_))
      have h8 : m.write a data = ((m.wrN a data i).1.count, false) := by
        have h9 : m.wrN a data (i + 1) = ((m.wrN a data i).1.count, false) := by
          have h7 : (m.wrN a data i).1.oper = false := by simpa using h7
          simp only [DevM.wrN, hok, h7, cond_true, cond_false]
        rw [← h9]
        exact wrN_stuck (by rw [h9]) _ (by omega)
      rw [h8]
      exact .now (.shut 0 [1, 2, 4] [] (devL (m.wrN a data i).1.count) (.fin [0]))
    · have h7 : (m.wrN a data i).1.oper = true := by simpa using h7
      have hc := count_size (m.wrN a data i).1
      have hl1 : (m.wrN a data i).1.count.held.length ≤ m.held.length + i := by rw [hc.2.2]; exact hs.2.2
      have hl2 : (m.wrN a data i).1.count.now.length = m.safe.length := by rw [hc.2.1, hs.2.1, hm.now]
      have e : m.wrN a data (i + 1) = ((m.wrN a data i).1.write1 (a + i) (sect data i), true) := by simp only [DevM.wrN, hok, h7, cond_true]
      (refine V0 ?_; repeat (refine VHyp.go (fun _ => ?_); refine V0 ?_))
      exact ⟨⟨i + 1, by omega, by rw [e]⟩, by dsimp only; omega, VGo.eq [0, 1, 2, 3, 7] rfl (by dsimp only; rw [e]; rfl)⟩
  · have e : i = data.length / 512 := by omega
    subst e
    (refine V0 ?_; repeat (refine VHyp.go (fun _ => ?_); refine V0 ?_))
    exact .now (.shut 0 [1, 2, 4] [] (devL (m.wrN a data (data.length / 512)).1) (.fin [0] (by show _ = SV.int .i64 (bif (m.wrN a data (data.length / 512)).2 then 0 else 41); rw [hok]; rfl)))

/-! ### flushes and crashes -/
/-- one sector's write is no longer held back -/
def DevM.put (m : DevM) (a : Nat) : DevM := if m.now.getD a [] = [] then m else { m with safe := m.safe.set a (m.now.getD a []), now := m.now.set a [] }
def DevM.puts (m : DevM) (l : List (Int × Bytes)) : DevM := l.foldl (fun m x => m.put x.1.toNat) m
def DevM.settle (m : DevM) : DevM := { m.puts m.held with held := [] }
theorem put_size (m : DevM) (a : Nat) : (m.put a).safe.length = m.safe.length ∧ (m.put a).now.length = m.now.length ∧ (m.put a).held = m.held := by
  unfold DevM.put; split <;> simp
theorem puts_size (l : List (Int × Bytes)) : ∀ m : DevM, (m.puts l).safe.length = m.safe.length ∧ (m.puts l).now.length = m.now.length ∧ (m.puts l).held = m.held := by
  induction l with
  | nil => exact fun m => ⟨rfl, rfl, rfl⟩
  | cons x l ih =>
    intro m
    have h := put_size m x.1.toNat
    have := ih (m.put x.1.toNat)
    exact ⟨this.1.trans h.1, this.2.1.trans h.2.1, this.2.2.trans h.2.2⟩
theorem puts_next (m : DevM) (l : List (Int × Bytes)) (i : Nat) (hi : i < l.length) : m.puts (l.take (i + 1)) = (m.puts (l.take i)).put (l.getD (Int.toNat i) heldC.dflt).1.toNat := by
  rw [List.take_succ_eq_append_getElem hi]
  rw [show l.getD (Int.toNat i) heldC.dflt = l[i] by simp [hi]]
  simp only [DevM.puts, List.foldl_append, List.foldl_cons, List.foldl_nil]

theorem dev_settle (m : DevM) (hm : m.wf) : Fun prog G f_dev_Dev_settle [.ptr 0 0] (devL m) (.tup []) (devN m.settle) := by
  refine .of (mk_dev_Dev_settle rfl ⟨?_⟩)
  (refine V0 ?_; repeat (refine VHyp.go (fun _ => ?_); refine V0 ?_))
  refine VLoop.on (· ≤ m.held.length) (fun i => [(0, .ptr 0 0), (7, .ref 3), (8, .int .i64 m.held.length), (9, .int .i64 i)]) (fun i => devL (m.puts (m.held.take i))) (fun i => m.held.length - i) 0 (Nat.zero_le _) (VGo.eq [0, 1, 2, 3]) ?_
  intro i hi
  have hz := puts_size (m.held.take i) m
  have hnow := hm.now
  by_cases h6 : i < m.held.length
  · have hx := hm.held _ (show m.held.getD (Int.toNat i) heldC.dflt ∈ m.held by simp [h6])
    have hs := puts_next m m.held i h6
    have hl : m.held.length = (m.puts (m.held.take i)).held.length := by rw [hz.2.2]
    rw [← hz.2.2] at hx
    have hs : m.puts (m.held.take (i + 1)) = (m.puts (m.held.take i)).put ((m.puts (m.held.take i)).held.getD (Int.toNat i) heldC.dflt).1.toNat := by rw [hs, hz.2.2]
    have next : ∀ q', q' = (m.puts (m.held.take i)).put ((m.puts (m.held.take i)).held.getD (Int.toNat i) heldC.dflt).1.toNat → devL (m.puts (m.held.take (i + 1))) = devL q' := fun q' h => by rw [h, hs]
    generalize m.puts (m.held.take i) = q at *
    obtain ⟨h1, h2, h3⟩ := hx
    obtain ⟨z1, z2, z3⟩ := hz
    by_cases h7 : q.now.getD (q.held.getD (Int.toNat i) heldC.dflt).1.toNat [] = []
    · have hq : q = q.put (q.held.getD (Int.toNat i) heldC.dflt).1.toNat := by unfold DevM.put; rw [if_pos h7]
      (refine V0 ?_; repeat (refine VHyp.go (fun _ => ?_); refine V0 ?_))
      exact ⟨⟨i + 1, h6⟩, by dsimp only; omega, VGo.eq [0, 1, 2, 3] rfl (by rw [next q hq]; rfl)⟩
    · have hq : { q with safe := q.safe.set (q.held.getD (Int.toNat i) heldC.dflt).1.toNat (q.now.getD (q.held.getD (Int.toNat i) heldC.dflt).1.toNat []), now := q.now.set (q.held.getD (Int.toNat i) heldC.dflt).1.toNat [] } = q.put (q.held.getD (Int.toNat i) heldC.dflt).1.toNat := by unfold DevM.put; rw [if_neg h7]
      (refine V0 ?_; repeat (refine VHyp.go (fun _ => ?_); refine V0 ?_))
      exact ⟨⟨i + 1, h6⟩, by dsimp only; omega, VGo.eq [0, 1, 2, 3] rfl (by rw [next _ hq]; rfl)⟩
  · obtain rfl : i = m.held.length := by omega
    rw [List.take_length]
    (refine V0 ?_; repeat (refine VHyp.go (fun _ => ?_); refine V0 ?_))
    exact .ghost _ (HEnt.set (n := 3) (o := .gone) .gone) (.fin [0, 1, 2, 3])

theorem dev_Flush_nil : Fun prog G f_dev_Dev_Flush [.nilp] [] (.int .i64 1) [] := by
  refine .of (mk_dev_Dev_Flush rfl ⟨?_⟩)
  (refine V0 ?_; repeat (refine VHyp.go (fun _ => ?_); refine V0 ?_))
  exact VRet.fin []
def DevM.flush (m : DevM) : DevM := bif m.oper then m.count.settle else m.count
theorem DevM.wf.count {m : DevM} (h : m.wf) : m.count.wf := by
  obtain ⟨h1, h2, h3⟩ := count_size m
  exact ⟨by rw [h1]; exact h.size, by rw [h1, h2]; exact h.now, by rw [h1]; exact h.safe', by rw [h2]; exact h.now', by rw [h1, h3]; exact h.held, by rw [h3]; exact h.many⟩
theorem dev_Flush (m : DevM) (hm : m.wf) : Fun prog G f_dev_Dev_Flush [.ptr 0 0] [devO m] (.int .i64 (bif m.oper then 0 else 41)) [devO m.flush] := by
  refine Fun.dev' (mk_dev_Dev_Flush rfl ⟨?_⟩)
  (refine V0 ?_; repeat (refine VHyp.go (fun _ => ?_); refine V0 ?_))
  refine (dev_operation m).call [0, 1, 2, 3] ?_
  cases ho : m.oper with
  | true =>
    (refine V0 ?_; repeat (refine VHyp.go (fun _ => ?_); refine V0 ?_))
    refine (dev_settle m.count hm.count).call [0, 1, 2, 3] ?_
    (refine V0 ?_; repeat (refine VHyp.go (fun _ => ?_); refine V0 ?_))
    refine .now (.nilc 0 2 heldC rfl rfl (.shut 0 [1, 2, 4] [] (devL m.count.settle) (.fin [0] rfl ?_)))
    simp only [DevM.flush, ho]; rfl
  | false =>
    (refine V0 ?_; repeat (refine VHyp.go (fun _ => ?_); refine V0 ?_))
    refine .now (.shut 0 [1, 2, 3] [] (devL m.count) (.fin [0] rfl ?_))
    simp only [DevM.flush, ho]; rfl

def DevM.clear (m : DevM) (l : List (Int × Bytes)) : DevM := { m with now := l.foldl (fun w x => w.set x.1.toNat []) m.now }
def DevM.tear1 (m : DevM) (x : Int × Bytes) (n : Nat) : DevM := { m with now := m.now.set x.1.toNat (x.2.take n ++ (m.sector x.1.toNat).drop n) }
/-- how much of a write is kept -/
def keepAt (keep : List Int) (i : Nat) : Nat := if i < keep.length then (min (max (keep.getD i 0) 0) 512).toNat else 0
def DevM.tears (m : DevM) (keep : List Int) : Nat → DevM
  | 0 => m
  | i + 1 => (m.tears keep i).tear1 (m.held.getD (Int.toNat i) heldC.dflt) (keepAt keep i)
def DevM.crash (m : DevM) (keep : List Int) : DevM := { ((m.clear m.held).tears keep m.held.length).settle with down := false, armed := false }

theorem clear_size (l : List (Int × Bytes)) (m : DevM) : (m.clear l).safe = m.safe ∧ (m.clear l).now.length = m.now.length ∧ (m.clear l).held = m.held := by
  refine ⟨rfl, ?_, rfl⟩
  show (l.foldl (fun w x => w.set x.1.toNat []) m.now).length = _
  generalize m.now = w
  induction l generalizing w with
  | nil => rfl
  | cons x l ih => rw [List.foldl_cons, ih]; simp
theorem tears_size (m : DevM) (keep : List Int) : ∀ i, (m.tears keep i).safe = m.safe ∧ (m.tears keep i).now.length = m.now.length ∧ (m.tears keep i).held = m.held
  | 0 => ⟨rfl, rfl, rfl⟩
  | i + 1 => by
    have := tears_size m keep i
    exact ⟨this.1, by simp [DevM.tears, DevM.tear1, this.2.1], this.2.2⟩
theorem clear_next (m : DevM) (i : Nat) (hi : i < m.held.length) : m.clear (m.held.take (i + 1)) = { m.clear (m.held.take i) with now := (m.clear (m.held.take i)).now.set ((m.clear (m.held.take i)).held.getD (Int.toNat i) heldC.dflt).1.toNat [] } := by
  have e : (m.clear (m.held.take i)).held.getD (Int.toNat i) heldC.dflt = m.held[i] := by show m.held.getD _ _ = _; simp [hi]
  rw [e, List.take_succ_eq_append_getElem hi]
  simp only [DevM.clear, List.foldl_append, List.foldl_cons, List.foldl_nil]

theorem mem_set {α : Type} {l : List α} {i : Nat} {a x : α} (h : x ∈ l.set i a) : x ∈ l ∨ x = a := List.mem_or_eq_of_mem_set h
theorem DevM.wf.put {m : DevM} (h : m.wf) (a : Nat) : (m.put a).wf := by
  unfold DevM.put
  split
  · exact h
  · refine ⟨by simpa using h.size, by simpa using h.now, fun x hx => ?_, fun x hx => ?_, fun x hx => by simpa using h.held x hx, h.many⟩
    · rcases mem_set hx with hx | rfl
      · exact h.safe' x hx
      · exact getD_mem h.now' a
    · rcases mem_set hx with hx | rfl
      · exact h.now' x hx
      · exact .inl rfl
theorem DevM.wf.puts {l : List (Int × Bytes)} : ∀ {m : DevM}, m.wf → (m.puts l).wf := by
  induction l with
  | nil => exact fun h => h
  | cons x l ih => exact fun h => ih (h.put _)
theorem DevM.wf.settle {m : DevM} (h : m.wf) : m.settle.wf := by
  have := h.puts (l := m.held)
  exact ⟨this.size, this.now, this.safe', this.now', fun x hx => (by cases hx), Nat.zero_le _⟩
theorem DevM.wf.clear {m : DevM} (h : m.wf) (l : List (Int × Bytes)) : (m.clear l).wf := by
  have hz := clear_size l m
  refine ⟨h.size, by rw [hz.2.1]; exact h.now, h.safe', ?_, h.held, h.many⟩
  show ∀ x ∈ l.foldl (fun w x => w.set x.1.toNat []) m.now, _
  have h' := h.now'
  generalize m.now = w at h'
  clear hz
  induction l generalizing w with
  | nil => exact h'
  | cons y l ih =>
    refine ih _ fun x hx => ?_
    rcases mem_set hx with hx | rfl
    · exact h' x hx
    · exact .inl rfl
theorem keepAt_le (keep : List Int) (i : Nat) : keepAt keep i ≤ 512 := by unfold keepAt; split <;> omega
theorem DevM.wf.tear1 {m : DevM} (h : m.wf) {x : Int × Bytes} (hx : x.2.length = 512) {n : Nat} (hn : n ≤ 512) : (m.tear1 x n).wf := by
  refine ⟨h.size, by simpa [DevM.tear1] using h.now, h.safe', fun y hy => ?_, h.held, h.many⟩
  rcases mem_set hy with hy | rfl
  · exact h.now' y hy
  · right; simp [h.sector, hx]; omega
theorem DevM.wf.tears {m : DevM} (h : m.wf) (keep : List Int) : ∀ i, i ≤ m.held.length → (m.tears keep i).wf
  | 0, _ => h
  | i + 1, hi => (h.tears keep i (by omega)).tear1 (h.held _ (by simp [show i < m.held.length by omega])).2.2 (keepAt_le _ _)
theorem DevM.wf.crash {m : DevM} (h : m.wf) (keep : List Int) : (m.crash keep).wf := by
  have := ((h.clear m.held).tears keep m.held.length (Nat.le_refl _)).settle
  exact ⟨this.size, this.now, this.safe', this.now', this.held, this.many⟩

theorem dev_Crash (m : DevM) (hm : m.wf) (keep : List Int) (hk : keep.length ≤ 140737488355328) : Fun prog G f_dev_Dev_Crash [.ptr 0 0, roInts keep] [devO m] (.tup []) [devO (m.crash keep)] := by
  refine Fun.dev' (mk_dev_Dev_Crash rfl ⟨?_⟩)
  have hnow := hm.now
  (refine V0 ?_; repeat (refine VHyp.go (fun _ => ?_); refine V0 ?_))
  refine VLoop.on (· ≤ m.held.length) (fun i => [(0, .ptr 0 0), (1, roInts keep), (14, .ref 3), (15, .int .i64 m.held.length), (16, .int .i64 i)]) (fun i => devL (m.clear (m.held.take i))) (fun i => m.held.length - i) 0 (Nat.zero_le _) (VGo.eq [0, 1, 2, 3]) ?_
  intro i hi
  have hz := clear_size (m.held.take i) m
  by_cases h6 : i < m.held.length
  · have hx := (hm.clear (m.held.take i)).held _ (show (m.clear (m.held.take i)).held.getD (Int.toNat i) heldC.dflt ∈ (m.clear (m.held.take i)).held by rw [hz.2.2]; simp [h6])
    have hs := clear_next m i h6
    have hl : m.held.length = (m.clear (m.held.take i)).held.length := by rw [hz.2.2]
    rw [hz.1] at hx
    obtain ⟨h1, h2, h3⟩ := hx
    obtain ⟨z1, z2, z3⟩ := hz
    (refine V0 ?_; repeat (refine VHyp.go (fun _ => ?_); refine V0 ?_))
    exact ⟨⟨i + 1, h6⟩, by dsimp only; omega, VGo.eq [0, 1, 2, 3] rfl (by dsimp only; rw [hs]; rfl)⟩
  · obtain rfl : i = m.held.length := by omega
    have e0 : m.held.take m.held.length = m.held := List.take_length
    rw [e0]
    have hc := hm.clear m.held
    obtain ⟨z1, z2, z3⟩ := clear_size m.held m
    have fin : devL (m.crash keep) = devL { ((m.clear m.held).tears keep (m.clear m.held).held.length).settle with down := false, armed := false } := rfl
    clear hz e0
    generalize m.clear m.held = q at *
    (refine V0 ?_; repeat (refine VHyp.go (fun _ => ?_); refine V0 ?_))
    refine VLoop.on (· ≤ q.held.length) (fun i => [(0, .ptr 0 0), (1, roInts keep), (31, .ref 3), (32, .int .i64 q.held.length), (33, .int .i64 i)]) (fun i => devL (q.tears keep i)) (fun i => q.held.length - i) 0 (Nat.zero_le _) (VGo.eq [0, 1, 2, 3]) ?_
    intro i hi
    have hz := tears_size q keep i
    have hw := hc.tears keep i hi
    by_cases h7 : i < q.held.length
    · have hx := hw.held _ (show (q.tears keep i).held.getD (Int.toNat i) heldC.dflt ∈ (q.tears keep i).held by rw [hz.2.2]; simp [h7])
      have hl : q.held.length = (q.tears keep i).held.length := by rw [hz.2.2]
      have hs : q.tears keep (i + 1) = (q.tears keep i).tear1 ((q.tears keep i).held.getD (Int.toNat i) heldC.dflt) (keepAt keep i) := by rw [hz.2.2]; rfl
      obtain ⟨y1, y2, y3⟩ := hz
      have hsec := fun a => hw.sector a
      have hn := hw.now
      generalize q.tears keep i = r at *
      obtain ⟨h1, h2, h3⟩ := hx
      by_cases h8 : i < keep.length
      · have hka : keepAt keep i = (min (max (keep.getD (Int.toNat i) 0) 0) 512).toNat := if_pos h8
        (refine V0 ?_; repeat (refine VHyp.go (fun _ => ?_); refine V0 ?_))
        refine (dev_sector' r _ h1 h2 hn).call [0, 1, 2, 3] ?_
        have hsec := hsec (r.held.getD (Int.toNat i) heldC.dflt).1.toNat
        (refine V0 ?_; repeat (refine VHyp.go (fun _ => ?_); refine V0 ?_))
        exact ⟨⟨i + 1, h7⟩, by dsimp only; omega, VGo.eq [0, 1, 2, 3] rfl (by dsimp only; rw [hs, hka]; rfl)⟩
      · have hka : keepAt keep i = 0 := if_neg h8
        (refine V0 ?_; repeat (refine VHyp.go (fun _ => ?_); refine V0 ?_))
        refine (dev_sector' r _ h1 h2 hn).call [0, 1, 2, 3] ?_
        have hsec := hsec (r.held.getD (Int.toNat i) heldC.dflt).1.toNat
        (refine V0 ?_; repeat (refine VHyp.go (fun _ => ?_); refine V0 ?_))
        exact ⟨⟨i + 1, h7⟩, by dsimp only; omega, VGo.eq [0, 1, 2, 3] rfl (by dsimp only; rw [hs, hka]; rfl)⟩
    · have e : i = q.held.length := by omega
      subst e
      (refine V0 ?_; repeat (refine VHyp.go (fun _ => ?_); refine V0 ?_))
      refine (dev_settle _ hw).call [0, 1, 2, 3] ?_
      (refine V0 ?_; repeat (refine VHyp.go (fun _ => ?_); refine V0 ?_))
      exact .now (.nilc 0 2 heldC rfl rfl (.shut 0 [1, 2, 4] [] (devL (m.crash keep)) (.fin [0]) (by rw [fin]; rfl)))

/-- a write where there is room for it: false: the device is down -/
def DevM.wr (m : DevM) (a : Nat) (data : Bytes) : DevM × Bool := bif m.down then (m, false) else m.write a data
theorem dev_Write_any (m : DevM) (hm : m.wf) (a : Nat) (data : Bytes) (hl : data.length % 512 = 0) (h : a + data.length / 512 ≤ m.safe.length) :
    Fun prog G f_dev_Dev_Write [.ptr 0 0, .int .i64 a, .str data] [devO m] (.int .i64 (bif (m.wr a data).2 then 0 else 41)) [devO (m.wr a data).1] := by
  cases hd : m.down with
  | true =>
    have e : m.wr a data = (m, false) := by simp [DevM.wr, hd]
    rw [e]; exact dev_Write_down m hm a data hl h hd
  | false =>
    have e : m.wr a data = m.write a data := by simp [DevM.wr, hd]
    rw [e]; exact dev_Write m hm a data hl h hd

theorem sect_len {data : Bytes} {i : Nat} (h : (i + 1) * 512 ≤ data.length) : (sect data i).length = 512 := by simp [sect]; omega
theorem DevM.wf.write1 {m : DevM} (h : m.wf) {a : Nat} {s : Bytes} (ha : a < m.safe.length) (hs : s.length = 512) (hn : m.held.length + 1 ≤ 1000000000000) : (m.write1 a s).wf := by
  have hc := h.count
  obtain ⟨h1, h2, h3⟩ := count_size m
  refine ⟨hc.size, by simpa [DevM.write1] using hc.now, hc.safe', fun x hx => ?_, fun x hx => ?_, by simp [DevM.write1, h3]; omega⟩
  · rcases mem_set hx with hx | rfl
    · exact hc.now' x hx
    · exact .inr hs
  · simp only [DevM.write1, List.mem_append, List.mem_singleton] at hx
    rcases hx with hx | rfl
    · exact hc.held x hx
    · exact ⟨by simp, by show (a : Int) < m.count.safe.length; rw [h1]; omega, hs⟩
theorem DevM.wf.wrN {m : DevM} (h : m.wf) {a : Nat} {data : Bytes} (hn : m.held.length + data.length / 512 ≤ 1000000000000) (ha : a + data.length / 512 ≤ m.safe.length) : ∀ i, i ≤ data.length / 512 → (m.wrN a data i).1.wf
  | 0, _ => h
  | i + 1, hi => by
    have ih := h.wrN hn ha i (by omega)
    have hz := wrN_size m a data i
    unfold DevM.wrN
    cases (m.wrN a data i).2 with
    | false => exact ih
    | true =>
      cases (m.wrN a data i).1.oper with
      | false => exact ih.count
      | true => exact ih.write1 (by rw [hz.1]; omega) (sect_len (by omega)) (by omega)
theorem DevM.wf.wr {m : DevM} (h : m.wf) {a : Nat} {data : Bytes} (hn : m.held.length + data.length / 512 ≤ 1000000000000) (ha : a + data.length / 512 ≤ m.safe.length) : (m.wr a data).1.wf := by
  unfold DevM.wr
  cases m.down with
  | true => exact h
  | false => exact h.wrN hn ha _ (Nat.le_refl _)
theorem wr_size (m : DevM) (a : Nat) (data : Bytes) : (m.wr a data).1.safe = m.safe ∧ (m.wr a data).1.held.length ≤ m.held.length + data.length / 512 := by
  unfold DevM.wr
  cases m.down with
  | true => exact ⟨rfl, Nat.le_add_right _ _⟩
  | false => have := wrN_size m a data (data.length / 512); exact ⟨this.1, this.2.2⟩
theorem settle_size (m : DevM) : m.settle.safe.length = m.safe.length ∧ m.settle.held = [] := ⟨(puts_size m.held m).1, rfl⟩
theorem flush_size (m : DevM) : m.flush.safe.length = m.safe.length ∧ m.flush.held.length ≤ m.held.length := by
  obtain ⟨h1, h2, h3⟩ := count_size m
  unfold DevM.flush
  cases m.oper with
  | true => exact ⟨by rw [cond_true, (settle_size _).1, h1], by rw [cond_true, (settle_size _).2]; exact Nat.zero_le _⟩
  | false => exact ⟨by rw [cond_false, h1], by rw [cond_false, h3]; exact Nat.le_refl _⟩
theorem DevM.wf.flush {m : DevM} (h : m.wf) : m.flush.wf := by
  unfold DevM.flush
  cases m.oper with
  | true => exact h.count.settle
  | false => exact h.count

/-- a device that will not go down by itself -/
structure DevM.calm (m : DevM) : Prop where
  up : m.down = false
  free : m.armed = false
theorem DevM.calm.oper {m : DevM} (h : m.calm) : m.oper = true := by simp [DevM.oper, h.up, h.free]
theorem DevM.calm.count {m : DevM} (h : m.calm) : m.count.calm := by
  unfold DevM.count; rw [h.oper]; exact ⟨h.up, h.free⟩
theorem puts_flags (l : List (Int × Bytes)) : ∀ m : DevM, (m.puts l).down = m.down ∧ (m.puts l).armed = m.armed ∧ (m.puts l).left = m.left ∧ (m.puts l).ops = m.ops := by
  induction l with
  | nil => exact fun m => ⟨rfl, rfl, rfl, rfl⟩
  | cons x l ih =>
    intro m
    have h : (m.put x.1.toNat).down = m.down ∧ (m.put x.1.toNat).armed = m.armed ∧ (m.put x.1.toNat).left = m.left ∧ (m.put x.1.toNat).ops = m.ops := by unfold DevM.put; split <;> exact ⟨rfl, rfl, rfl, rfl⟩
    have := ih (m.put x.1.toNat)
    exact ⟨this.1.trans h.1, this.2.1.trans h.2.1, this.2.2.1.trans h.2.2.1, this.2.2.2.trans h.2.2.2⟩
theorem DevM.calm.settle {m : DevM} (h : m.calm) : m.settle.calm := by
  have := puts_flags m.held m
  exact ⟨this.1.trans h.up, this.2.1.trans h.free⟩
theorem DevM.calm.flush {m : DevM} (h : m.calm) : m.flush.calm := by
  unfold DevM.flush; rw [h.oper]; exact h.count.settle
theorem DevM.calm.wrN {m : DevM} (h : m.calm) (a : Nat) (data : Bytes) : ∀ i, (m.wrN a data i).1.calm ∧ (m.wrN a data i).2 = true
  | 0 => ⟨h, rfl⟩
  | i + 1 => by
    have ih := h.wrN a data i
    unfold DevM.wrN
    rw [ih.2, ih.1.oper]
    exact ⟨⟨ih.1.count.up, ih.1.count.free⟩, rfl⟩
theorem DevM.calm.wr {m : DevM} (h : m.calm) (a : Nat) (data : Bytes) : (m.wr a data).1.calm ∧ (m.wr a data).2 = true := by
  unfold DevM.wr; rw [h.up]; exact h.wrN a data _
end
end Go.V
