/- Proved: whatever two numbers JournalFull is called with, it returns true.
Conditions: those of its row in Rows (the second one: what the arguments and the read variables hold is 1048576 values and letters at the most), and its card ties the listed package variables to the program's text. -/
import Derived.Test.YtfdjmooifnmanaaDoorX
import Derived.Test.YtfdjmooifnmanaaDoorLF
namespace Go.Proofs.YtfdjmooifnmanaaDoor.lawFull
open Go.V Go.ChangeShapes Go.WideShapes Go.ChangeAt Go.RowKit

theorem own : ownKnob Tryd.prog.godebug = none := by kernel_rfl
theorem rInt : Rd Tryd.prog 3 Int (fun n => [.int .i64 n]) (fun _ => 1) (fun n => IntKind.i64.min ≤ n ∧ n ≤ IntKind.i64.max) := .int Tryd.underlying3 (by kernel_rfl)

theorem tab {W : World} (h : laidMetH Tryd.prog Rows.journalFullUptoRow.laid W) : GS.g (heapOf W) :=
  gs_of_cells fun i hi => (Lib.tabIs_of_head (rest := [("unicode/utf8.acceptRanges", Rows.laid_unicode_utf8_acceptRanges), ("unicode/utf8.first", Rows.laid_unicode_utf8_first)]) (zs := crcSteps) (k := .u32) gSteps (t := (Tryd.prog.globals[g_crc_steps]?.map (·.type)).getD 0) (by kernel_rfl) (n := 16) (e := 101) (by kernel_rfl) Tryd.underlying101 (by kernel_rfl) (by kernel_rfl) h).cell gSteps i hi

set_option maxRecDepth 100000 in
theorem contract (H : Type) (enc : TypeId × Value → H) (W : World) (base : Nat) (args : Array Value) (ds gs : List (DataW H)) (before : List MemPlace)
    (hval : ∀ (j : Nat) t v, Tryd.f4.params[j]? = some t → args[j]? = some v → Value.okWide Tryd.prog W .any base t v)
    (hW : DataW.Whole enc Tryd.prog Tryd.f4.params.toList Rows.journalFullSpec.vars false W args.toList ds gs before) (hL : laidMetH Tryd.prog Rows.journalFullUptoRow.laid W) (hk : Rows.uptoBulkAll (ds ++ gs) ≤ 1048576) :
    Calls Tryd.prog 4 args W fun e W' => ∃ v, e = .returned v ∧ Rows.journalFullSpec.post enc Tryd.prog Tryd.f4 false true false false W args v W' := by
  have hW' := hW
  obtain ⟨p, q, hA0, hV, rfl, hfz, hnd⟩ := hW
  have hA : DataW.TrodAll enc Tryd.prog W 0 (fun _ => true) true Tryd.f4.params.toList args.toList ds p := hA0
  rw [Tryd.params4] at hA hval
  obtain ⟨v0, vs0, d0, ds0, p0, q0, hargs, rfl, rfl, ⟨n0, h0⟩, r0⟩ := trodAll_cons hA
  obtain ⟨v1, vs1, d1, ds1, p1, q1, rfl, rfl, rfl, ⟨n1, h1⟩, r1⟩ := trodAll_cons r0
  obtain ⟨rfl, rfl, rfl⟩ := trodAll_nil r1
  obtain rfl : args = #[v0, v1] := by cases args; simp_all
  obtain ⟨rfl, rfl⟩ := trodVars_none hV
  have c0 : v0.cells = #[v0] := one_of_ok (P := Tryd.prog) Tryd.underlying3 rfl (hval 0 3 v0 (by simp) (by simp))
  have c1 : v1.cells = #[v1] := one_of_ok (P := Tryd.prog) Tryd.underlying3 rfl (hval 1 3 v1 (by simp) (by simp))
  simp only [List.append_nil, Rows.uptoBulkAll] at hk
  obtain ⟨e0, g0, b0, k0⟩ := rInt.read h0 (by omega)
  obtain ⟨e1, g1, b1, k1⟩ := rInt.read h1 (by omega)
  rw [c0] at g0
  rw [c1] at g1
  obtain ⟨_, _, x0, y0, z0⟩ := g0.cons_inv
  obtain ⟨_, _, x1, y1, z1⟩ := g1.cons_inv
  have w0 := z0.nil_inv; subst w0
  have w1 := z1.nil_inv; subst w1
  simp at x0 x1
  subst x0; subst x1
  refine (calls_of_fun (tab hL) (law_JournalFull globs e0 e1 ) (.cons y0 (.cons y1 .nil))).mono fun e W' ⟨he, hs⟩ => ?_
  subst he
  simp only [List.append_nil] at hW'
  exact ⟨_, rfl, post_law (pa := p0 ++ (p1 ++ [])) (pv := []) hW' (fun _ _ _ => trodAll_cons_mk (shut_bool Tryd.underlying4 _) trodAll_mk0)
    (fun sp hsp => by
      rw [Tryd.params4]
      exact trodAll_cons_mk ⟨n0, rInt.carry hs.block (fun p hp => hsp p (by simp [hp])) h0⟩ (trodAll_cons_mk ⟨n1, rInt.carry hs.block (fun p hp => hsp p (by simp [hp])) h1⟩ trodAll_mk0))
    (fun _ _ => rfl) (by simp) hs (ok_one (by kernel_rfl) rfl (okWide_bool_mk Tryd.underlying4 _))⟩

/-- a world for the witness: the listed variables hold what they are laid with -/
noncomputable def laidWorld (os : Os) : World :=
  { World.holding Tryd.prog os ⟨#[], #[], []⟩ with heap := (((World.holding Tryd.prog os ⟨#[], #[], []⟩).heap.modify g_crc_steps (laidAt Rows.laid_headgate_crc_steps)).modify g_unicode_utf8_acceptRanges (laidAt Rows.laid_unicode_utf8_acceptRanges)).modify g_unicode_utf8_first (laidAt Rows.laid_unicode_utf8_first) }
theorem laid_met (os : Os) : laidMet Tryd.prog Rows.journalFullUptoRow.laid ((laidWorld os).forCall (fun _ _ => 0) ⟨#[], #[.int .i64 0, .int .i64 0], []⟩).memory :=
  laidMet_of_run' 8 (by kernel_rfl) (by kernel_rfl)
theorem reads (os : Os) {H : Type} (enc : TypeId × Value → H) : ∃ places, DataW.whole enc Tryd.prog ((laidWorld os).forCall (fun _ _ => 0) ⟨#[], #[.int .i64 0, .int .i64 0], []⟩).memory Tryd.f4.params.toList Rows.journalFullSpec.vars false (#[.int .i64 0, .int .i64 0] : Array Value).toList 8 = some ([.lit (.int .i64 0), .lit (.int .i64 0)], [], places) :=
  ⟨[], by kernel_rfl⟩

set_option maxRecDepth 100000 in
theorem lifted (os : Os) (started : os.Started) (H : Type) (enc : TypeId × Value → H) (F : Stop.Interp) :
    ReturnsInHanded {} Tryd.checked os 4 .any ((Rows.OpenSpec.upto Rows.journalFullSpec).preRow enc Tryd.prog Tryd.f4 Rows.journalFullUptoRow.domain false Rows.journalFullUptoRow.laid) (((Rows.OpenSpec.upto Rows.journalFullSpec).at F).post enc Tryd.prog Tryd.f4 false true false false) := by
  obtain ⟨places, hx⟩ := reads os enc
  refine returnsInHanded_of_row (C := Tryd.checked) (s := Rows.OpenSpec.upto Rows.journalFullSpec) own started (by kernel_rfl) Tryd.func4
    (witness_row_at (enc := enc) (C := Tryd.checked) false (laidWorld os) #[.int .i64 0, .int .i64 0] rfl (by kernel_rfl) (by kernel_rfl) (by kernel_rfl)
      (OpenSpec.preRow_of_cond 8 hx (by kernel_rfl) (fun k hk => by cases hk; kernel_rfl) (by kernel_rfl) (laid_met os))) ?_
  intro W base args ds gs before hval hW _ hcond _ hL _ _
  exact contract H enc W base args ds gs before hval hW hL (of_decide_eq_true (hcond _ rfl))

theorem said : Rows.JournalFullUptoSaid :=
  OpenClaim.holds_of_cond 4 Tryd.f4 rfl rfl rfl rfl rfl rfl rfl ⟨rfl, rfl, rfl, rfl, rfl⟩ rfl rfl rfl rfl rfl (by kernel_rfl) Tryd.func4 (by kernel_rfl)
    (of_decide_eq_true (by kernel_rfl)) (by unfold Func.isWrapper; first | (rw [if_pos (by decide +kernel)]; kernel_rfl) | (rw [if_neg (by decide +kernel)]; exact ⟨rfl, rfl⟩))
    (fun os started H enc _ F => by rw [OpenClaim.pre_eq_preRow]; exact lifted os started H enc F)

theorem plain (f : FuncId) (fn : Func) (hf : Tryd.pinned.checked.prog.funcNamed "headgate/headgatelaw06.JournalFull" = some f) (hfn : Tryd.pinned.checked.prog.funcs[f]? = some fn) :
    true = Tryd.pinned.checked.prog.looks [] ∧ ∀ (j : Nat) t, fn.params[j]? = some t → Tryd.pinned.checked.prog.wantsStandIn t = false := by
  obtain rfl : f = 4 := Option.some.inj ((show Tryd.prog.funcNamed "headgate/headgatelaw06.JournalFull" = some 4 by kernel_rfl).symm.trans hf) |>.symm
  obtain rfl : fn = Tryd.f4 := (Option.some.inj (Tryd.func4.symm.trans hfn)).symm
  refine ⟨by kernel_rfl, fun j t ht => ?_⟩
  rw [Tryd.params4] at ht
  have hm := Array.mem_of_getElem? ht
  simp only [List.mem_toArray, List.mem_cons, List.mem_nil_iff, or_false] at hm
  rcases hm with rfl | rfl
  · exact (show Tryd.prog.wantsStandIn 3 = false by kernel_rfl)
  · exact (show Tryd.prog.wantsStandIn 3 = false by kernel_rfl)

theorem card : Rows.JournalFullUptoCardSaid :=
  Claim7.holds_tied_plain_at .later [] _ _ _ _ said (fun _ h => by cases h) (by kernel_rfl) (fun _ h => by cases h) journalFullUpto_row_tie rfl ⟨rfl, rfl⟩ (by kernel_rfl) rfl plain (by kernel_rfl)
end Go.Proofs.YtfdjmooifnmanaaDoor.lawFull
