/- Numbers that several may change at once, and the builder of texts: what their functions do to the world. -/
import Derived.Test.YtfdjmooifnmanaaDoorK
import Derived.Laws.LoneSync
import Derived.Shelf.Strings.Builder1
namespace Go.V
open Go.Proofs Go.RowKit Go.IntWalk

theorem run_add64 {P : Program} {w : World} {ad : Addr} {v d : Int} (hc : w.cell? ad = some (.int .i64 v)) (hz : w.frozen? ad = false) :
    (Extern.Atomic.update (Op.intArith .add) .i64 true #[.pointer (some ad), .int .i64 d]).run P w = .ok (.int .i64 (IntKind.i64.wrap (v + d))) (w.setCell ad (.int .i64 (IntKind.i64.wrap (v + d)))) := by
  change Sem.run P (do
    let a' ← asAddr (.pointer (some ad))
    let old ← Extern.Atomic.read (.int .i64) a'
    let new ← Op.intArith .add .i64 (← asInt old) (← asInt (.int .i64 d))
    store a' new .atomic
    pure (if true then new else old)) w = _
  simp [Extern.Atomic.read, asAddr, asInt, asIntOf, hc, hz, Op.intArith, run_store P w ad (.int .i64 (IntKind.i64.wrap (v + d))) .atomic rfl, Result.andThen]
theorem run_load64 {P : Program} {w : World} {ad : Addr} {v : Int} (hc : w.cell? ad = some (.int .i64 v)) :
    (Extern.Atomic.loadT (.int .i64) #[.pointer (some ad)]).run P w = .ok (.int .i64 v) w := by
  change Sem.run P (do Extern.Atomic.read (.int .i64) (← asAddr (.pointer (some ad)))) w = _
  simp [Extern.Atomic.read, asAddr, hc]
theorem run_store64 {P : Program} {w : World} {ad : Addr} {v d : Int} (hc : w.cell? ad = some (.int .i64 v)) (hz : w.frozen? ad = false) :
    (Extern.Atomic.storeT #[.pointer (some ad), .int .i64 d]).run P w = .ok (.tuple #[]) (w.setCell ad (.int .i64 d)) := by
  change Sem.run P (do
    store (← asAddr (.pointer (some ad))) (.int .i64 d) .atomic
    pure Extern.Atomic.none_) w = _
  simp [asAddr, hc, hz, run_store P w ad (.int .i64 d) .atomic rfl, Extern.Atomic.none_, Result.andThen]

set_option maxRecDepth 100000 in
theorem calls_add (b o : Nat) (n d : Int) (w : World) (h : w.cell? ⟨b, o, none⟩ = some (.int .i64 n)) (f : w.frozen? ⟨b, o, none⟩ = false) :
    Calls Tryd.prog 58 #[.pointer (some ⟨b, o, none⟩), .int .i64 d] w fun e w' => e = .returned (.int .i64 (IntKind.i64.wrap (n + d))) ∧ w' = w.setCell ⟨b, o, none⟩ (.int .i64 (IntKind.i64.wrap (n + d))) := by
  go_enter Tryd.func58, Tryd.ntmps58
  go_wp2
  rw [run_callFunc_extern Tryd.func75 (by kernel_rfl) (by kernel_rfl) (by kernel_rfl) (e := Extern.Atomic.update (Op.intArith .add) .i64 true) (by kernel_rfl)]
  rw [run_add64 h f]
  simp only [Result.andThen]
  rw [Oper.upon_value]
  go_wp2
  go_ret
  have e : IntKind.i64.wrap (n + d) = wrap64 (n + d) := i64_left _
  rw [e]
  exact ⟨rfl, rfl⟩
set_option maxRecDepth 100000 in
theorem calls_load (b o : Nat) (n : Int) (w : World) (h : w.cell? ⟨b, o, none⟩ = some (.int .i64 n)) :
    Calls Tryd.prog 48 #[.pointer (some ⟨b, o, none⟩)] w fun e w' => e = .returned (.int .i64 n) ∧ w' = w := by
  go_enter Tryd.func48, Tryd.ntmps48
  go_wp2
  rw [run_callFunc_extern Tryd.func62 (by kernel_rfl) (by kernel_rfl) (by kernel_rfl) (e := Extern.Atomic.loadT (.int .i64)) (by kernel_rfl)]
  rw [run_load64 h]
  simp only [Result.andThen]
  rw [Oper.upon_value]
  go_wp2
  go_ret
  exact ⟨rfl, rfl⟩
set_option maxRecDepth 100000 in
theorem calls_store (b o : Nat) (n d : Int) (w : World) (h : w.cell? ⟨b, o, none⟩ = some (.int .i64 n)) (f : w.frozen? ⟨b, o, none⟩ = false) :
    Calls Tryd.prog 23 #[.pointer (some ⟨b, o, none⟩), .int .i64 d] w fun e w' => e = .returned (.tuple #[]) ∧ w' = w.setCell ⟨b, o, none⟩ (.int .i64 d) := by
  go_enter Tryd.func23, Tryd.ntmps23
  go_wp2
  rw [run_callFunc_extern Tryd.func37 (by kernel_rfl) (by kernel_rfl) (by kernel_rfl) (e := Extern.Atomic.storeT) (by kernel_rfl)]
  rw [run_store64 h f]
  simp only [Result.andThen]
  rw [Oper.upon_value]
  go_wp2
  go_end0
  exact ⟨rfl, rfl⟩

theorem sizeBuilder : (Tryd.prog.info? 80).map (·.size) = some 2 := by kernel_rfl
theorem liesBuilder : liesAt Tryd.prog Tryd.prog.depth 80 (2 / Tryd.prog.cellsOf 80) 0 80 1 = true := by kernel_rfl
theorem cellsByte : Tryd.prog.cellsOf 5 = 1 := by kernel_rfl

set_option maxHeartbeats 1000000 in
set_option maxRecDepth 100000 in
theorem calls_check_used (b : Nat) (w : World) (h0 : w.cell? ⟨b, 0, none⟩ = some (.pointer (some ⟨b, 0, none⟩))) :
    Calls Tryd.prog 54 #[.pointer (some ⟨b, 0, none⟩)] w fun e w' => e = .returned (.tuple #[]) ∧ w' = w := by
  obtain ⟨j, hj, _⟩ := Option.map_eq_some_iff.1 sizeBuilder
  go_enter Tryd.func54, Tryd.ntmps54
  go_wp2
  rw [Lib.run_neq_ptr_same w _ Tryd.underlying78 hj]
  go_wp2
  go_end0
  exact ⟨rfl, rfl⟩

set_option maxHeartbeats 1000000 in
set_option maxRecDepth 100000 in
theorem calls_check_fresh (b : Nat) (w : World) (h0 : w.cell? ⟨b, 0, none⟩ = some (.pointer none)) (hsh : w.shape? b = some (80, 2)) (hfz : w.frozen? ⟨b, 0, none⟩ = false) :
    Calls Tryd.prog 54 #[.pointer (some ⟨b, 0, none⟩)] w fun e w' => e = .returned (.tuple #[]) ∧ w' = w.setCell ⟨b, 0, none⟩ (.pointer (some ⟨b, 0, none⟩)) := by
  obtain ⟨j, hj, hjs⟩ := Option.map_eq_some_iff.1 sizeBuilder
  go_enter Tryd.func54, Tryd.ntmps54
  go_wp2
  rw [Lib.run_to_unsafe w ⟨b, 0, none⟩ Tryd.underlying78 Tryd.underlying110 hj (by rw [hjs]; decide) hsh (Nat.zero_lt_succ 1)]
  simp only [Result.andThen]
  rw [Oper.upon_value]
  go_wp2
  rw [run_callFunc_extern Tryd.func67 (by kernel_rfl) (by kernel_rfl) (by kernel_rfl) (e := Extern.AbiNoEscape.same) (by kernel_rfl)]
  rw [Lib.run_noEscape]
  simp only [Result.andThen]
  rw [Oper.upon_value]
  go_wp2
  rw [Lib.run_from_unsafe w ⟨b, 0, none⟩ Tryd.underlying110 Tryd.underlying78 hj hsh liesBuilder]
  simp only [Result.andThen]
  rw [Oper.upon_value]
  go_wp2
  go_end0
  exact ⟨rfl, rfl⟩

set_option maxHeartbeats 2000000 in
set_option maxRecDepth 100000 in
/-- String of a builder that holds something: the bytes are kept as they are from then on. -/
theorem calls_bstring (b g cap : Nat) (p : Value) (cur : Array Value) (l : Bytes) (w : World) (h0 : l ≠ []) (hbk : w.heap[b]? = some (.cells #[p, .slice (some ⟨g, 0, none⟩) l.length cap] 80 (0, 0)))
    (hg : w.heap[g]? = some (.cells cur 5 (0, 0))) (hc : l.length ≤ cap) (hcs : cap ≤ cur.size) (h63 : l.length ≤ 9223372036854775807) (hcur : cur.toList.take l.length = (ofB l).map (Value.int .u8)) :
    Calls Tryd.prog 39 #[.pointer (some ⟨b, 0, none⟩)] w fun e w' => e = .returned (.string ⟨l.toArray⟩) ∧ w' = w.drew.freeze ⟨g, 0, none⟩ l.length := by
  have hl0 : l.length ≠ 0 := by simpa using h0
  have c1 : w.drew.cell? ⟨b, 1, none⟩ = some (.slice (some ⟨g, 0, none⟩) l.length cap) := by
    have : w.drew.heap[b]? = some (.cells #[p, .slice (some ⟨g, 0, none⟩) l.length cap] 80 (0, 0)) := hbk
    rw [cell_of_heap this]; rfl
  have hSD : (Builtin.unsafeSliceData_ #[69] 97 #[.slice (some ⟨g, 0, none⟩) l.length cap]).run Tryd.prog w.drew = .ok (.pointer (some ⟨g, 0, none⟩)) w.drew :=
    Lib.run_unsafeSliceData_row _ _ _ _ _ _ (by omega)
  have hUS : (Builtin.unsafeString_ #[97, 3] 9 #[.pointer (some ⟨g, 0, none⟩), .int .i64 l.length]).run Tryd.prog w.drew = .ok (.string ⟨l.toArray⟩) (w.drew.freeze ⟨g, 0, none⟩ l.length) := by
    refine Lib.run_unsafeString_row w.drew 97 3 9 5 Tryd.underlying97 cellsByte g cur.size (by have hg' : w.drew.heap[g]? = some (.cells cur 5 (0, 0)) := hg; simp [World.shape?, hg']) l h0 (by omega) h63 ?_
    intro j x hx
    have hg' : w.drew.heap[g]? = some (.cells cur 5 (0, 0)) := hg
    rw [addr_add, Nat.zero_add, cell_of_heap hg']
    have hj : j < l.length := (List.getElem?_eq_some_iff.1 hx).1
    have e : (cur.toList.take l.length)[j]? = ((ofB l).map (Value.int .u8))[j]? := by rw [hcur]
    rw [List.getElem?_take, if_pos hj, Array.getElem?_toList] at e
    rw [e]; simp [ofB, hx]
  have h3 : (0 : Int) ≤ l.length := by omega
  have mixed : Tryd.prog.follows .mixedOrders = true := rfl
  go_enter Tryd.func39, Tryd.ntmps39
  go_wp2
  go_region_o
  all_goals (go_wp2; go_ret; exact ⟨rfl, rfl⟩)
end Go.V
