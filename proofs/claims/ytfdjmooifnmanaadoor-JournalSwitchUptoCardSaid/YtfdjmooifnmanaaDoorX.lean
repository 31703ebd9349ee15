/- From contracts over symbolic heaps to the given statements. -/
import Derived.Test.YtfdjmooifnmanaaDoorRD
import Derived.Test.YtfdjmooifnmanaaDoorF
import Derived.Test.YtfdjmooifnmanaaDoorCards
import Derived.Test.YtfdjmooifnmanaaDoorTie
import Derived.WalkKit
import Derived.OpenShut
import Derived.Deep.DeepHandedRow
import Derived.Lib.LaidTab
namespace Go.V
open Go.Proofs Go.RowKit Go.ChangeShapes Go.WideShapes Go.ChangeAt

/-- the table of the sums lies there -/
def GS : Glob where
  g R := ∃ t f arr, R g_crc_steps (.cells arr t f) ∧ RowDen R (intC .u32 ty_uint32) arr crcSteps
  mono R R' hR h := by
    obtain ⟨t, f, arr, h1, h2⟩ := h
    exact ⟨t, f, arr, hR _ _ h1, fun i j e s a b => let ⟨u, g1, g2⟩ := h2 i j e s a b; ⟨u, g1, g2.mono hR (Ext.refl _)⟩⟩
theorem globs : Globs GS := ⟨⟨fun _ h => h⟩⟩

theorem gSteps : Tryd.prog.globalNamed "headgate/crc.steps" = some g_crc_steps := by kernel_rfl
theorem gs_of_cells {W : World} (h : ∀ i, i < 16 → W.cell? ⟨g_crc_steps, i, none⟩ = some (.int .u32 (crcSteps.getD i 0))) : GS.g (heapOf W) := by
  obtain ⟨_, c, t, f, h1, _⟩ := cell_heap (h 0 (by decide))
  refine ⟨t, f, c, h1, fun i j e s hi hj => ?_⟩
  have hi16 : i < 16 := (List.getElem?_eq_some_iff.1 hi).1
  obtain ⟨_, c', t', f', k1, k2⟩ := cell_heap (h i hi16)
  rw [show W.heap[(⟨g_crc_steps, i, none⟩ : Addr).block]? = some (.cells c t f) from h1] at k1
  cases k1
  have hj1 : j = 0 := by
    have : j < 1 := (List.getElem?_eq_some_iff.1 hj).1
    omega
  subst hj1
  simp at hj
  subst hj
  have he : crcSteps.getD i 0 = e := by simp [List.getD, hi]
  rw [he] at k2
  exact ⟨_, by simpa using k2, .int _ _⟩

/-- one cell alone -/
def oneU : TypeDesc → Bool | .bool | .int _ | .string | .slice _ => true | _ => false
theorem one_of_ok {P : Program} {W : World} {r : Reach} {b : Nat} {t : TypeId} {v : Value} {u : TypeDesc} (hh : P.underlying t = some u) (hu : oneU u = true) (h : Value.okWide P W r b t v) : v.cells = #[v] := by
  unfold Value.okWide Cell.okWide Cell.ok at h
  rw [hh] at h
  cases u <;> simp only [oneU] at hu h <;> first | (cases hu; done) | (cases v <;> first | rfl | exact h.elim)

mutual
/-- what lies at a listed variable -/
def flat : DataW Unit → List Value
  | .lit (.int k n) => [.int k n]
  | .agg l => flatL l
  | _ => []
def flatL : List (DataW Unit) → List Value
  | [] => []
  | x :: r => flat x ++ flatL r
end
def laidAt (d : DataW Unit) : Obj → Obj
  | .cells _ t frozen => .cells (flat d).toArray t frozen
  | o => o

/-- memory that was there is as it was -/
structure Same (W W' : World) : Prop where
  kept : W.keptBut W' (fun _ => False)
  block : ∀ b, b < W.heap.size → W'.heap[b]? = W.heap[b]?
theorem Same.frozen {W W' : World} (h : Same W W') (a : Addr) (ha : a.block < W.heap.size) : W'.frozen? a = W.frozen? a := by
  unfold World.frozen?; rw [h.block _ ha]

theorem post_law {H : Type} {enc : TypeId × Value → H} {P : Program} {f : Func} {s : ChangeSpec} {apart fresh handsOn again : Bool} {W W' : World} {args : Array Value} {v : Value} {ds gs : List (DataW H)} {before pa pv : List MemPlace}
    (hW : DataW.Whole enc P f.params.toList s.vars apart W args.toList ds gs before)
    (hres : ∀ (b : Nat) (sp : Nat → Bool) (hd : Bool), DataW.TrodAll enc P W' b sp hd f.resultTypes.toList (v.resultList f.resultTypes.size) (s.fn H (ds ++ gs)).results [])
    (hargs : ∀ sp : Nat → Bool, (∀ p ∈ before, sp p.block = true) → DataW.TrodAll enc P W' 0 sp true f.params.toList args.toList (s.fn H (ds ++ gs)).args pa)
    (hvars : ∀ sp : Nat → Bool, (∀ p ∈ before, sp p.block = true) → DataW.TrodVars enc P W' sp s.vars (s.fn H (ds ++ gs)).vars pv)
    (hps : before = pa ++ pv) (hk : Same W W')
    (hok : ∀ (j : Nat) (t : TypeId) (r : Value), f.resultTypes[j]? = some t → (v.resultList f.resultTypes.size)[j]? = some r → Value.okWide P W' .any 0 t r) :
    s.post enc P f apart fresh handsOn again W args v W' := by
  have hlt := hW.lt
  have hold : ∀ p ∈ before, (fun b => decide (b < W.heap.size)) p.block = true := fun p hp => by simpa using hlt p hp
  refine ⟨ds, gs, before, [], pa, pv, hW, hres _ _ _, hargs _ hold, hvars _ hold, World.keptBut_mono (fun p hp => hp.elim) hk.kept, fun _ => ?_⟩
  obtain ⟨_, _, _, _, _, hz, hn⟩ := hW
  refine ⟨hok, _, _, ([] ++ pa) ++ pv, ⟨[] ++ pa, pv, trodAll_append (hargs _ (fun _ _ => rfl)) (hres _ _ _), hvars _ (fun _ _ => rfl), rfl, ?_, ?_⟩, ?_⟩
  · intro b off hp
    have hb : MemPlace.cell b off ∈ before := by rw [hps]; simpa using hp
    rw [hk.frozen _ (hlt _ hb)]
    exact hz b off hb
  · intro ha
    have := hn ha
    rw [hps] at this
    simpa using this
  · intro p hp _
    rw [hps]
    simpa using hp

/-- WHAT A CONTRACT GIVES IN A WORLD. -/
theorem calls_of_fun {f : FuncId} {args : List SV} {vals : Array Value} {W : World} (hG : GS.g (heapOf W)) (h : Fun prog GS f args [] (.bool true) []) (hd : DenL (heapOf W) [] args vals.toList) :
    Calls prog f vals W fun e W' => e = .returned (.bool true) ∧ Same W W' := by
  have hst : St [] (heapOf W) ⟨emp, W.os, W.output⟩ [] W := by
    refine ⟨fun _ => emp, { len := rfl, den := fun n o v h => by simp at h, apart := fun _ _ _ _ _ _ h => h.elim, own := fun _ _ _ h => h.elim, apR := fun _ _ _ _ h => h.elim, apF := fun _ _ _ _ h => h.elim, subR := fun b o h => h, subF := fun _ _ h => h.elim, apRF := fun _ _ _ _ h => h.elim, io := ⟨rfl, rfl⟩ }⟩
  have hc := (h.con (K := fun v H => v = .bool true ∧ H = []) (Kp := fun _ _ => False) ⟨rfl, rfl⟩).run [] (heapOf W) ⟨emp, W.os, W.output⟩ W vals.toList hG hd hst
  have hv : vals.toList.toArray = vals := by simp
  rw [hv] at hc
  refine hc.mono fun en W' hq => ?_
  obtain ⟨ρ', R', H', _, hR, ⟨hs, hst'⟩, hcase⟩ := hq
  rcases hcase with ⟨v, sv, rfl, hden, rfl, rfl⟩ | ⟨v, sv, _, _, hf⟩
  · cases hden
    have same : ∀ b o, W.heap[b]? = some o → W'.heap[b]? = some o := fun b o ho => hst'.subR b o (hR b o ho)
    refine ⟨rfl, ⟨⟨hst'.io.1, hst'.io.2, fun i hi => ?_⟩, fun b hb => ?_⟩⟩
    · have hx := same i _ (Array.getElem?_eq_getElem hi)
      rw [hx, Array.getElem?_eq_getElem hi]
      cases W.heap[i] <;> simp
    · rw [Array.getElem?_eq_getElem hb]; exact same b _ (Array.getElem?_eq_getElem hb)
  · exact hf.elim
end Go.V
