/- Proved: whatever texts and numbers JournalSwitch is called with, it returns true, and they read afterwards as before.
Conditions: those of its row in Rows (the second one: what the arguments and the read variables hold is 1048576 values and letters at the most), and its card ties the listed package variables to the program's text. -/
import Derived.Test.YtfdjmooifnmanaaDoorX
import Derived.Test.YtfdjmooifnmanaaDoorLS
namespace Go.Proofs.YtfdjmooifnmanaaDoor.lawSwitch
open Go.V Go.ChangeShapes Go.WideShapes Go.ChangeAt Go.RowKit

theorem own : ownKnob Tryd.prog.godebug = none := by kernel_rfl
theorem rStr : Rd Tryd.prog 9 Bytes (fun s => [.str s]) (fun s => s.length + 1) (fun _ => True) := .str Tryd.underlying9 (by kernel_rfl)
theorem kStrs : Tryd.prog.cellsOf 9 = 1 := by kernel_rfl
theorem rStrs : Rd Tryd.prog 35 (List Bytes) (fun l => [roStrs l]) (fun l => bulkL (fun s => s.length + 1) l + 1) (fun l => (∀ x ∈ l, True) ∧ l.length ≤ 1048576) := by
  have h := Rd.slice (t := 35) [] Tryd.underlying35 (by kernel_rfl) (by rw [kStrs]; decide) rStr
  rw [kStrs] at h; exact h
theorem rInt : Rd Tryd.prog 3 Int (fun n => [.int .i64 n]) (fun _ => 1) (fun n => IntKind.i64.min ≤ n ∧ n ≤ IntKind.i64.max) := .int Tryd.underlying3 (by kernel_rfl)
theorem kInts : Tryd.prog.cellsOf 3 = 1 := by kernel_rfl
theorem rInts : Rd Tryd.prog 41 (List Int) (fun l => [roInts l]) (fun l => bulkL (fun _ => 1) l + 1) (fun l => (∀ x ∈ l, IntKind.i64.min ≤ x ∧ x ≤ IntKind.i64.max) ∧ l.length ≤ 1048576) := by
  have h := Rd.slice (t := 41) 0 Tryd.underlying41 (by kernel_rfl) (by rw [kInts]; decide) rInt
  rw [kInts] at h; exact h

theorem tab {W : World} (h : laidMetH Tryd.prog Rows.journalSwitchUptoRow.laid W) : GS.g (heapOf W) :=
  gs_of_cells fun i hi => (Lib.tabIs_of_head (rest := [("unicode/utf8.acceptRanges", Rows.laid_unicode_utf8_acceptRanges), ("unicode/utf8.first", Rows.laid_unicode_utf8_first)]) (zs := crcSteps) (k := .u32) gSteps (t := (Tryd.prog.globals[g_crc_steps]?.map (·.type)).getD 0) (by kernel_rfl) (n := 16) (e := 101) (by kernel_rfl) Tryd.underlying101 (by kernel_rfl) (by kernel_rfl) h).cell gSteps i hi

set_option maxRecDepth 100000 in
theorem contract (H : Type) (enc : TypeId × Value → H) (W : World) (base : Nat) (args : Array Value) (ds gs : List (DataW H)) (before : List MemPlace)
    (hval : ∀ (j : Nat) t v, Tryd.f5.params[j]? = some t → args[j]? = some v → Value.okWide Tryd.prog W .any base t v)
    (hW : DataW.Whole enc Tryd.prog Tryd.f5.params.toList Rows.journalSwitchSpec.vars false W args.toList ds gs before) (hL : laidMetH Tryd.prog Rows.journalSwitchUptoRow.laid W) (hk : Rows.uptoBulkAll (ds ++ gs) ≤ 1048576) :
    Calls Tryd.prog 5 args W fun e W' => ∃ v, e = .returned v ∧ Rows.journalSwitchSpec.post enc Tryd.prog Tryd.f5 false true false false W args v W' := by
  have hW' := hW
  obtain ⟨p, q, hA0, hV, rfl, hfz, hnd⟩ := hW
  have hA : DataW.TrodAll enc Tryd.prog W 0 (fun _ => true) true Tryd.f5.params.toList args.toList ds p := hA0
  rw [Tryd.params5] at hA hval
  obtain ⟨v0, vs0, d0, ds0, p0, q0, hargs, rfl, rfl, ⟨n0, h0⟩, r0⟩ := trodAll_cons hA
  obtain ⟨v1, vs1, d1, ds1, p1, q1, rfl, rfl, rfl, ⟨n1, h1⟩, r1⟩ := trodAll_cons r0
  obtain ⟨v2, vs2, d2, ds2, p2, q2, rfl, rfl, rfl, ⟨n2, h2⟩, r2⟩ := trodAll_cons r1
  obtain ⟨rfl, rfl, rfl⟩ := trodAll_nil r2
  obtain rfl : args = #[v0, v1, v2] := by cases args; simp_all
  obtain ⟨rfl, rfl⟩ := trodVars_none hV
  have c0 : v0.cells = #[v0] := one_of_ok (P := Tryd.prog) Tryd.underlying35 rfl (hval 0 35 v0 (by simp) (by simp))
  have c1 : v1.cells = #[v1] := one_of_ok (P := Tryd.prog) Tryd.underlying3 rfl (hval 1 3 v1 (by simp) (by simp))
  have c2 : v2.cells = #[v2] := one_of_ok (P := Tryd.prog) Tryd.underlying41 rfl (hval 2 41 v2 (by simp) (by simp))
  simp only [List.append_nil, Rows.uptoBulkAll] at hk
  obtain ⟨e0, g0, b0, k0⟩ := rStrs.read h0 (by omega)
  obtain ⟨e1, g1, b1, k1⟩ := rInt.read h1 (by omega)
  obtain ⟨e2, g2, b2, k2⟩ := rInts.read h2 (by omega)
  rw [c0] at g0
  rw [c1] at g1
  rw [c2] at g2
  obtain ⟨_, _, x0, y0, z0⟩ := g0.cons_inv
  obtain ⟨_, _, x1, y1, z1⟩ := g1.cons_inv
  obtain ⟨_, _, x2, y2, z2⟩ := g2.cons_inv
  have w0 := z0.nil_inv; subst w0
  have w1 := z1.nil_inv; subst w1
  have w2 := z2.nil_inv; subst w2
  simp at x0 x1 x2
  subst x0; subst x1; subst x2
  refine (calls_of_fun (tab hL) (law_JournalSwitch globs e0 e1 e2 k0.2 (texts_ok (by omega)) k2.2) (.cons y0 (.cons y1 (.cons y2 .nil)))).mono fun e W' ⟨he, hs⟩ => ?_
  subst he
  simp only [List.append_nil] at hW'
  exact ⟨_, rfl, post_law (pa := p0 ++ (p1 ++ (p2 ++ []))) (pv := []) hW' (fun _ _ _ => trodAll_cons_mk (shut_bool Tryd.underlying4 _) trodAll_mk0)
    (fun sp hsp => by
      rw [Tryd.params5]
      exact trodAll_cons_mk ⟨n0, rStrs.carry hs.block (fun p hp => hsp p (by simp [hp])) h0⟩ (trodAll_cons_mk ⟨n1, rInt.carry hs.block (fun p hp => hsp p (by simp [hp])) h1⟩ (trodAll_cons_mk ⟨n2, rInts.carry hs.block (fun p hp => hsp p (by simp [hp])) h2⟩ trodAll_mk0)))
    (fun _ _ => rfl) (by simp) hs (ok_one (by kernel_rfl) rfl (okWide_bool_mk Tryd.underlying4 _))⟩

/-- a world for the witness: the listed variables hold what they are laid with -/
noncomputable def laidWorld (os : Os) : World :=
  { World.holding Tryd.prog os ⟨#[], #[], []⟩ with heap := (((World.holding Tryd.prog os ⟨#[], #[], []⟩).heap.modify g_crc_steps (laidAt Rows.laid_headgate_crc_steps)).modify g_unicode_utf8_acceptRanges (laidAt Rows.laid_unicode_utf8_acceptRanges)).modify g_unicode_utf8_first (laidAt Rows.laid_unicode_utf8_first) }
theorem laid_met (os : Os) : laidMet Tryd.prog Rows.journalSwitchUptoRow.laid ((laidWorld os).forCall (fun _ _ => 0) ⟨#[], #[.slice none 0 0, .int .i64 0, .slice none 0 0], []⟩).memory :=
  laidMet_of_run' 8 (by kernel_rfl) (by kernel_rfl)
theorem reads (os : Os) {H : Type} (enc : TypeId × Value → H) : ∃ places, DataW.whole enc Tryd.prog ((laidWorld os).forCall (fun _ _ => 0) ⟨#[], #[.slice none 0 0, .int .i64 0, .slice none 0 0], []⟩).memory Tryd.f5.params.toList Rows.journalSwitchSpec.vars false (#[.slice none 0 0, .int .i64 0, .slice none 0 0] : Array Value).toList 8 = some ([.nil, .lit (.int .i64 0), .nil], [], places) :=
  ⟨[], by kernel_rfl⟩

set_option maxRecDepth 100000 in
theorem lifted (os : Os) (started : os.Started) (H : Type) (enc : TypeId × Value → H) (F : Stop.Interp) :
    ReturnsInHanded {} Tryd.checked os 5 .any ((Rows.OpenSpec.upto Rows.journalSwitchSpec).preRow enc Tryd.prog Tryd.f5 Rows.journalSwitchUptoRow.domain false Rows.journalSwitchUptoRow.laid) (((Rows.OpenSpec.upto Rows.journalSwitchSpec).at F).post enc Tryd.prog Tryd.f5 false true false false) := by
  obtain ⟨places, hx⟩ := reads os enc
  refine returnsInHanded_of_row (C := Tryd.checked) (s := Rows.OpenSpec.upto Rows.journalSwitchSpec) own started (by kernel_rfl) Tryd.func5
    (witness_row_at (enc := enc) (C := Tryd.checked) false (laidWorld os) #[.slice none 0 0, .int .i64 0, .slice none 0 0] rfl (by kernel_rfl) (by kernel_rfl) (by kernel_rfl)
      (OpenSpec.preRow_of_cond 8 hx (by kernel_rfl) (fun k hk => by cases hk; kernel_rfl) (by kernel_rfl) (laid_met os))) ?_
  intro W base args ds gs before hval hW _ hcond _ hL _ _
  exact contract H enc W base args ds gs before hval hW hL (of_decide_eq_true (hcond _ rfl))

theorem said : Rows.JournalSwitchUptoSaid :=
  OpenClaim.holds_of_cond 5 Tryd.f5 rfl rfl rfl rfl rfl rfl rfl ⟨rfl, rfl, rfl, rfl, rfl⟩ rfl rfl rfl rfl rfl (by kernel_rfl) Tryd.func5 (by kernel_rfl)
    (of_decide_eq_true (by kernel_rfl)) (by unfold Func.isWrapper; first | (rw [if_pos (by decide +kernel)]; kernel_rfl) | (rw [if_neg (by decide +kernel)]; exact ⟨rfl, rfl⟩))
    (fun os started H enc _ F => by rw [OpenClaim.pre_eq_preRow]; exact lifted os started H enc F)

theorem plain (f : FuncId) (fn : Func) (hf : Tryd.pinned.checked.prog.funcNamed "headgate/headgatelaw06.JournalSwitch" = some f) (hfn : Tryd.pinned.checked.prog.funcs[f]? = some fn) :
    true = Tryd.pinned.checked.prog.looks [] ∧ ∀ (j : Nat) t, fn.params[j]? = some t → Tryd.pinned.checked.prog.wantsStandIn t = false := by
  obtain rfl : f = 5 := Option.some.inj ((show Tryd.prog.funcNamed "headgate/headgatelaw06.JournalSwitch" = some 5 by kernel_rfl).symm.trans hf) |>.symm
  obtain rfl : fn = Tryd.f5 := (Option.some.inj (Tryd.func5.symm.trans hfn)).symm
  refine ⟨by kernel_rfl, fun j t ht => ?_⟩
  rw [Tryd.params5] at ht
  have hm := Array.mem_of_getElem? ht
  simp only [List.mem_toArray, List.mem_cons, List.mem_nil_iff, or_false] at hm
  rcases hm with rfl | rfl | rfl
  · exact (show Tryd.prog.wantsStandIn 35 = false by kernel_rfl)
  · exact (show Tryd.prog.wantsStandIn 3 = false by kernel_rfl)
  · exact (show Tryd.prog.wantsStandIn 41 = false by kernel_rfl)

theorem card : Rows.JournalSwitchUptoCardSaid :=
  Claim7.holds_tied_plain_at .later [] _ _ _ _ said (fun _ h => by cases h) (by kernel_rfl) (fun _ h => by cases h) journalSwitchUpto_row_tie rfl ⟨rfl, rfl⟩ (by kernel_rfl) rfl plain (by kernel_rfl)
end Go.Proofs.YtfdjmooifnmanaaDoor.lawSwitch
