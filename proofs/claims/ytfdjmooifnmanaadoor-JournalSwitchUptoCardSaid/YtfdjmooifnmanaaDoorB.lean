/- Contracts: numbers that several may change at once, the builder of texts, Go's own functions on texts. -/
import Derived.Test.YtfdjmooifnmanaaDoorA
import Derived.Test.YtfdjmooifnmanaaDoorCS
import Derived.Test.YtfdjmooifnmanaaDoorVE
import Derived.Test.YtfdjmooifnmanaaDoorShelf
namespace Go.V
open Go.Proofs Go.RowKit

section
variable {G : Glob} {H : List SO} {K Kp : SV → List SO → Prop}

/-- a cell, in the world -/
theorem cell_in {ρ : List Value} {R : Hp} {F : Fr} {w : World} {hs : Nat → Hp} {n off : Nat} {v : SV} {u : Value} {l : List SV} {ty : Option TypeId} (hst : StW ρ R F H w hs) (hn : nthO H n = .cells l ty) (hv : nthS l off = v) (hv0 : v ≠ .unk)
    (hp : Den R ρ (.ptr n off) u) : ∃ b t y vs, u = .pointer (some ⟨b, off, none⟩) ∧ ρ[n]? = some (.pointer (some ⟨b, 0, none⟩)) ∧ w.heap[b]? = some (.cells vs t (0, 0)) ∧ hs n = single b (.cells vs t (0, 0)) ∧ DenL R ρ l vs.toList ∧ tyIs ty t ∧ off < l.length ∧ vs[off]? = some y ∧ Den R ρ v y := by
  obtain ⟨x, hx, hso⟩ := hst.get hn (by simp)
  obtain ⟨b, t, vs, rfl, hh, hl, hty⟩ := hso
  cases hp with
  | ptr hn' =>
    rw [hx] at hn'; cases hn'
    have hlt : off < l.length := by
      by_cases h : off < l.length
      · exact h
      · rw [nthS_eq] at hv; simp [List.getElem?_eq_none (show l.length ≤ off by omega)] at hv; exact absurd hv.symm hv0
    obtain ⟨y, hy, hd⟩ := hl.get hlt
    have e1 : l.getD off .unk = v := by rw [← nthS_eq]; exact hv
    rw [e1] at hd
    exact ⟨b, t, y, vs.toArray, by rw [Nat.zero_add], hx, hst.own n b _ (by rw [hh]; exact ⟨rfl, rfl⟩), hh, by simpa using hl, hty, hlt, by simpa using hy, hd⟩

theorem setCell_heap {w : World} {b off : Nat} {vs : Array Value} {t : TypeId} {v : Value} (hw : w.heap[b]? = some (.cells vs t (0, 0))) :
    (w.setCell ⟨b, off, none⟩ v).heap[b]? = some (.cells (vs.set! off v) t (0, 0)) := by
  simp [World.setCell, Array.getElem?_modify, hw]

/-- one cell of an owned block is written -/
theorem cell_put {ρ : List Value} {R : Hp} {F : Fr} {w : World} {hs : Nat → Hp} {n b off : Nat} {s : SV} {y : Value} {l : List SV} {ty : Option TypeId} {t : TypeId} {vs : Array Value} (hst : StW ρ R F H w hs)
    (hx : ρ[n]? = some (.pointer (some ⟨b, 0, none⟩))) (hw : w.heap[b]? = some (.cells vs t (0, 0))) (hh : hs n = single b (.cells vs t (0, 0))) (hl : DenL R ρ l vs.toList) (hty : tyIs ty t) (hlt : off < l.length) (hd : Den R ρ s y) :
    St ρ R F (setO H n (.cells (spliceS l off [s]) ty)) (w.setCell ⟨b, off, none⟩ y) := by
  refine hst.update hh (setCell_heap hw) (fun b' hb => Below.heap_setCell _ _ _ _ hb) hx ⟨b, t, (vs.set! off y).toList, rfl, by rw [Array.toArray_toList], ?_, hty⟩
  have hlen : off < vs.toList.length := by rw [← hl.1]; exact hlt
  have := DenL.splice (off := off) hl (.cons hd .nil) (by simp; omega)
  have e : vs.toList.take off ++ [y] ++ vs.toList.drop (off + 1) = (vs.set! off y).toList := by
    rw [Array.set!_eq_setIfInBounds, Array.toList_setIfInBounds, List.set_eq_take_append_cons_drop, if_pos hlen]
    simp
  have e2 : (off + [y].length) = off + 1 := rfl
  rw [e2, e] at this
  exact this

theorem frozen_no {w : World} {b off : Nat} {vs : Array Value} {t : TypeId} (hw : w.heap[b]? = some (.cells vs t (0, 0))) : w.frozen? ⟨b, off, none⟩ = false := by
  simp [World.frozen?, hw]

theorem con_add {n off : Nat} {d v r : Int} {l : List SV} {ty : Option TypeId} (hn : nthO H n = .cells l ty) (hv : nthS l off = .int .i64 v) (hr : IntKind.i64.wrap (v + d) = r)
    (h : spliceK l off [.int .i64 r] fun l => setK H n (.cells l ty) fun H => K (.int .i64 r) H) : Con prog G 58 [.ptr n off, .int .i64 d] H K Kp := by
  refine ⟨fun ρ R F w vals hG hd hst => ?_⟩
  have h := setK_iff.1 (spliceK_iff.1 h)
  obtain ⟨x1, l1, rfl, d1, hd⟩ := hd.cons_inv
  obtain ⟨x2, l2, rfl, d2, hd⟩ := hd.cons_inv
  have := hd.nil_inv; subst this
  obtain ⟨hs, hst⟩ := hst
  obtain ⟨b, t, y, vs, rfl, hx, hw, hh, hl, hty, hlt, hy, hdy⟩ := cell_in hst hn hv (by simp) d1
  cases d2; cases hdy
  refine (calls_add b off v d w (by rw [cell_of_heap hw]; exact hy) (frozen_no hw)).mono ?_
  rintro e w' ⟨rfl, rfl⟩
  rw [hr]
  exact ⟨ρ, R, _, Ext.refl _, HLe.refl _, cell_put hst hx hw hh hl hty hlt (.int _ _), .inl ⟨_, _, rfl, .int _ _, h⟩⟩

theorem con_load {n off : Nat} {v : Int} {l : List SV} {ty : Option TypeId} (hn : nthO H n = .cells l ty) (hv : nthS l off = .int .i64 v) (h : K (.int .i64 v) H) : Con prog G 48 [.ptr n off] H K Kp := by
  refine ⟨fun ρ R F w vals hG hd hst => ?_⟩
  obtain ⟨x1, l1, rfl, d1, hd⟩ := hd.cons_inv
  have := hd.nil_inv; subst this
  obtain ⟨hs, hst⟩ := hst
  obtain ⟨b, t, y, vs, rfl, hx, hw, hh, hl, hty, hlt, hy, hdy⟩ := cell_in hst hn hv (by simp) d1
  cases hdy
  refine (calls_load b off v w (by rw [cell_of_heap hw]; exact hy)).mono ?_
  rintro e w' ⟨rfl, rfl⟩
  exact ⟨ρ, R, _, Ext.refl _, HLe.refl _, ⟨hs, hst⟩, .inl ⟨_, _, rfl, .int _ _, h⟩⟩

theorem con_store {n off : Nat} {d v : Int} {l : List SV} {ty : Option TypeId} (hn : nthO H n = .cells l ty) (hv : nthS l off = .int .i64 v)
    (h : spliceK l off [.int .i64 d] fun l => setK H n (.cells l ty) fun H => K (.tup []) H) : Con prog G 23 [.ptr n off, .int .i64 d] H K Kp := by
  refine ⟨fun ρ R F w vals hG hd hst => ?_⟩
  have h := setK_iff.1 (spliceK_iff.1 h)
  obtain ⟨x1, l1, rfl, d1, hd⟩ := hd.cons_inv
  obtain ⟨x2, l2, rfl, d2, hd⟩ := hd.cons_inv
  have := hd.nil_inv; subst this
  obtain ⟨hs, hst⟩ := hst
  obtain ⟨b, t, y, vs, rfl, hx, hw, hh, hl, hty, hlt, hy, hdy⟩ := cell_in hst hn hv (by simp) d1
  cases d2; cases hdy
  refine (calls_store b off v d w (by rw [cell_of_heap hw]; exact hy) (frozen_no hw)).mono ?_
  rintro e w' ⟨rfl, rfl⟩
  exact ⟨ρ, R, _, Ext.refl _, HLe.refl _, cell_put hst hx hw hh hl hty hlt (.int _ _), .inl ⟨_, _, rfl, den_undef, h⟩⟩

/-- the world is as it was but for new blocks -/
theorem St.below {ρ : List Value} {R : Hp} {F : Fr} {w w' : World} (hst : St ρ R F H w) (h : ∀ k, k < w.heap.size → w'.heap[k]? = w.heap[k]?) (hio : w'.os = w.os ∧ w'.output = w.output) : St ρ R F H w' := by
  obtain ⟨hs, hst⟩ := hst
  have keep : ∀ {h0 : Hp}, Sub h0 w → Sub h0 w' := fun hs0 b o ho => by rw [h b (hs0.lt ho)]; exact hs0 b o ho
  exact ⟨hs, { hst with own := fun n => keep (hst.own n), subR := keep hst.subR, subF := keep hst.subF, io := ⟨hio.1.trans hst.io.1, hio.2.trans hst.io.2⟩ }⟩

/-- a function that answers, and writes nothing that was there -/
theorem con_pure {f : FuncId} {args : List SV} {r : SV} (h : ∀ (R : Hp) (ρ : List Value) (w : World) (vals : List Value), DenL R ρ args vals → Calls prog f vals.toArray w fun e w' => (∃ v, e = .returned v ∧ Den R ρ r v) ∧ (∀ k, k < w.heap.size → w'.heap[k]? = w.heap[k]?) ∧ w'.os = w.os ∧ w'.output = w.output)
    (k : K r H) : Con prog G f args H K Kp := by
  refine ⟨fun ρ R F w vals hG hd hst => ?_⟩
  refine (h R ρ w vals hd).mono ?_
  rintro e w' ⟨⟨v, rfl, hv⟩, hb, hio⟩
  exact ⟨ρ, R, H, Ext.refl _, HLe.refl _, hst.below hb hio, .inl ⟨v, r, rfl, hv, k⟩⟩

theorem repeat_list (s : Bytes) (n : Nat) : Lib.repeatL s n = (List.replicate n s).flatten := by
  induction n with
  | zero => rfl
  | succ n ih => simp [Lib.repeatL, List.replicate_succ, ih]

theorem con_Repeat {s : Bytes} {n : Nat} (hn : n ≤ 9223372036854775807) (hl : s.length * n ≤ 140737488355328) (k : K (.str (List.replicate n s).flatten) H) : Con prog G 30 [.str s, .int .i64 n] H K Kp := by
  refine con_pure (fun R ρ w vals hd => ?_) k
  obtain ⟨x1, l1, rfl, d1, hd⟩ := hd.cons_inv
  obtain ⟨x2, l2, rfl, d2, hd⟩ := hd.cons_inv
  have := hd.nil_inv; subst this
  cases d1; cases d2
  refine (Tryd.strings_Repeat ⟨s.toArray⟩ n w hn (by simpa [ByteArray.size] using hl)).mono ?_
  rintro e w' ⟨rfl, hb⟩
  exact ⟨⟨_, rfl, by rw [← repeat_list]; exact .str _⟩, hb.block, hb.os, hb.output⟩

theorem con_HasPrefix {s t : Bytes} (k : K (.bool (t.isPrefixOf s)) H) : Con prog G 36 [.str s, .str t] H K Kp := by
  refine con_pure (fun R ρ w vals hd => ?_) k
  obtain ⟨x1, l1, rfl, d1, hd⟩ := hd.cons_inv
  obtain ⟨x2, l2, rfl, d2, hd⟩ := hd.cons_inv
  have := hd.nil_inv; subst this
  cases d1; cases d2
  refine (Tryd.strings_HasPrefix ⟨s.toArray⟩ ⟨t.toArray⟩ w).mono ?_
  rintro e w' ⟨rfl, rfl⟩
  exact ⟨⟨_, rfl, .bool _⟩, fun _ _ => rfl, rfl, rfl⟩

theorem con_Trim {s : Bytes} {c : UInt8} (hc : c.toNat < 128) (hs : s.length ≤ 9223372036854775807) (k : K (.str (Lib.trimB s c)) H) : Con prog G 57 [.str s, .str [c]] H K Kp := by
  refine con_pure (fun R ρ w vals hd => ?_) k
  obtain ⟨x1, l1, rfl, d1, hd⟩ := hd.cons_inv
  obtain ⟨x2, l2, rfl, d2, hd⟩ := hd.cons_inv
  have := hd.nil_inv; subst this
  cases d1; cases d2
  refine (Tryd.strings_Trim_one ⟨s.toArray⟩ c hc w (by simpa [ByteArray.size] using hs)).mono ?_
  rintro e w' ⟨rfl, hw⟩
  exact ⟨⟨_, rfl, .str _⟩, (fun _ _ => by rcases hw with rfl | rfl <;> rfl), by rcases hw with rfl | rfl <;> rfl, by rcases hw with rfl | rfl <;> rfl⟩

/-! ### the builder of texts -/
def bldL (used : Bool) (s : Bytes) : List SO := [.cells [bif used then .ptr 0 0 else .nilp, .ref 1] (some ty_Builder), .list (byteC ty_uint8) (ofB s)]
/-- a builder, and what it holds -/
def bldO (s : Bytes) : SO := .abs [] (orP (packPred (bldL true s)) (packPred (bldL false s)))

theorem con_check {used : Bool} {n : Nat} {x : SV} (hn : nthO H n = .cells [bif used then .ptr n 0 else .nilp, x] (some ty_Builder)) (h : setK H n (.cells [.ptr n 0, x] (some ty_Builder)) fun H => K (.tup []) H) : Con prog G 54 [.ptr n 0] H K Kp := by
  refine ⟨fun ρ R F w vals hG hd hst => ?_⟩
  have h := setK_iff.1 h
  obtain ⟨x1, l1, rfl, d1, hd⟩ := hd.cons_inv
  have := hd.nil_inv; subst this
  obtain ⟨hs, hst⟩ := hst
  obtain ⟨b, t, y, vs, rfl, hx, hw, hh, hl, hty, hlt, hy, hdy⟩ := cell_in hst hn (off := 0) rfl (by cases used <;> simp [nthS]) d1
  have htt : t = ty_Builder := hty _ rfl
  subst htt
  have hsz : vs.size = 2 := by have := hl.1; simpa using this.symm
  cases used with
  | true =>
    cases hdy with
    | ptr hn' =>
      rw [hx] at hn'; cases hn'
      refine (calls_check_used b w (by rw [cell_of_heap hw]; simpa using hy)).mono ?_
      rintro e w' ⟨rfl, rfl⟩
      have e1 : setO H n (.cells [.ptr n 0, x] (some ty_Builder)) = H := by
        rw [setO_eq]
        have hH := nthO_some hn (by simp)
        apply List.ext_getElem?
        intro i
        rw [List.getElem?_set]
        split
        · rename_i e; subst e; split
          · exact hH.symm
          · rename_i hx'; exact absurd (List.getElem?_eq_some_iff.1 hH).1 hx'
        · rfl
      rw [e1] at h
      exact ⟨ρ, R, _, Ext.refl _, HLe.refl _, ⟨hs, hst⟩, .inl ⟨_, _, rfl, den_undef, h⟩⟩
  | false =>
    cases hdy
    refine (calls_check_fresh b w (by rw [cell_of_heap hw]; exact hy) (by simp [World.shape?, hw, hsz]) (frozen_no hw)).mono ?_
    rintro e w' ⟨rfl, rfl⟩
    have := cell_put (s := .ptr n 0) (y := .pointer (some ⟨b, 0, none⟩)) hst hx hw hh hl hty hlt (by simpa using Den.ptr (off := 0) hx)
    exact ⟨ρ, R, _, Ext.refl _, HLe.refl _, this, .inl ⟨_, _, rfl, den_undef, h⟩⟩

theorem bld_new : OLe (.cells [.nilp, .nils] (some ty_Builder)) (bldO []) := ⟨fun R ρ u h hso => by
  obtain ⟨b, t, vs, rfl, hh, hl, hty⟩ := hso
  obtain ⟨v1, l1, rfl, d1, hl⟩ := hl.cons_inv
  obtain ⟨v2, l2, rfl, d2, hl⟩ := hl.cons_inv
  have := hl.nil_inv; subst this
  cases d1; cases d2
  refine ⟨[], rfl, .inr ⟨[.pointer (some ⟨b, 0, none⟩), .slice none 0 0], fun n => if n = 0 then h else emp, rfl, rfl, fun n o u hn hu => ?_, fun m n hmn b' o1 o2 h1 h2 => ?_, fun n b' o h1 => ?_⟩⟩
  · match n with
    | 0 =>
      simp [bldL] at hn; subst hn
      simp at hu; subst hu
      exact ⟨b, t, _, rfl, hh, .cons .nilp (.cons (.ref (v := .slice none 0 0) rfl rfl) .nil), hty⟩
    | 1 =>
      simp [bldL] at hn; subst hn
      simp at hu; subst hu
      exact .inl ⟨rfl, rfl⟩
    | n + 2 => simp [bldL] at hn
  · dsimp only at h1 h2
    split at h1
    · split at h2
      · rename_i e1 e2; exact hmn (e1.trans e2.symm)
      · exact h2
    · exact h1
  · dsimp only at h1
    split at h1
    · exact h1
    · exact h1.elim⟩

theorem con_WriteString {s t : Bytes} (hl : s.length + t.length ≤ 140737488355328) (k : K (.tup [.int .i64 t.length, .nili]) [bldO (s ++ t)]) : Con prog G 38 [.ptr 0 0, .str t] [bldO s] K Kp := by
  refine Con.cases (ι := Bool) (fun b => [.abs [] (bif b then packPred (bldL true s) else packPred (bldL false s))]) (fun ρ R F w hst => hst.or (n := 0) (ns := []) (A := packPred (bldL true s)) (B := packPred (bldL false s)) rfl) fun b => ?_
  refine Con.open' (bldL b s) (by
    have := HEnt.unpack (H := [.abs [] (bif b then packPred (bldL true s) else packPred (bldL false s))]) (n := 0) (ns := []) (L := bldL b s) (by cases b <;> rfl) (by simp [bldL])
    cases b <;> exact this) ?_
  refine mk_strings_Builder_WriteString rfl ⟨?_⟩
  refine Con.frame (con_check (used := b) (n := 0) (H := bldL b s) (K := fun v H => v = .tup [] ∧ H = bldL true s) (Kp := fun _ _ => False) rfl ⟨rfl, rfl⟩) [0, 1] rfl ⟨by cases b <;> rfl, rfl, trivial⟩ (by cases b <;> rfl) ?_ (fun _ _ h => h.elim)
  rintro _ _ ⟨rfl, rfl⟩
  refine VByteL.mk _ rfl ⟨by simpa [ofB] using hl, ?_⟩
  refine VRet.now (VRet.ghost [bldO (s ++ t), .gone, .gone] ?_ (VRet.mk [0] _ [bldO (s ++ t)] .rfl ⟨.rfl, trivial⟩ rfl k))
  exact HEnt.close 0 [2] [] (bldL true (s ++ t)) ⟨rfl, by simp [ofB, nthO, renO], trivial⟩ rfl OLe.or1 rfl

theorem con_String {s : Bytes} (k : K (.str s) [.gone]) : Con prog G 39 [.ptr 0 0] [bldO s] K Kp := by
  refine Con.cases (ι := Bool) (fun b => [.abs [] (bif b then packPred (bldL true s) else packPred (bldL false s))]) (fun ρ R F w hst => hst.or (n := 0) (ns := []) (A := packPred (bldL true s)) (B := packPred (bldL false s)) rfl) fun b => ?_
  refine Con.open' (bldL b s) (by
    have := HEnt.unpack (H := [.abs [] (bif b then packPred (bldL true s) else packPred (bldL false s))]) (n := 0) (ns := []) (L := bldL b s) (by cases b <;> rfl) (by simp [bldL])
    cases b <;> exact this) ?_
  have fin : VRet (lenO [SO.abs [] (bif b then packPred (bldL true s) else packPred (bldL false s))]) (.str s) [.gone, .gone] K := VRet.mk [0] _ [.gone] .rfl ⟨.rfl, trivial⟩ (by cases b <;> rfl) k
  refine ⟨fun ρ R F w vals hG hd hst => ?_⟩
  obtain ⟨x1, l1, rfl, d1, hd⟩ := hd.cons_inv
  have := hd.nil_inv; subst this
  obtain ⟨hs, hst⟩ := hst
  obtain ⟨a, t, y, vs, rfl, hx, hw, hh, hl, hty, hlt, hy, hdy⟩ := cell_in hst (n := 0) (l := [bif b then .ptr 0 0 else .nilp, .ref 1]) rfl (off := 0) rfl (by cases b <;> simp [nthS]) d1
  have htt : t = ty_Builder := hty _ rfl
  subst htt
  obtain ⟨p, l1, e1, dp, hl⟩ := hl.cons_inv
  obtain ⟨bv, l2, rfl, db, hl⟩ := hl.cons_inv
  have := hl.nil_inv; subst this
  have hvs : vs = #[p, bv] := by apply Array.ext'; simpa using e1
  subst hvs
  obtain ⟨v2, hv2, hso2⟩ := hst.get (n := 1) (o := .list (byteC ty_uint8) (ofB s)) rfl (by simp)
  have hbv : bv = v2 := by cases db with | ref h _ => rw [hv2] at h; exact (Option.some.inj h).symm
  subst hbv
  have gone2 : ∀ w', (∀ k, k < w.heap.size → (∀ o, ¬ hs 1 k o) → w'.heap[k]? = w.heap[k]?) → (w'.os = w.os ∧ w'.output = w.output) → St ρ R F [.gone, .gone] w' := by
    intro w' hk hio
    have keep : ∀ {h0 : Hp}, Sub h0 w → (∀ b o o', h0 b o → hs 1 b o' → False) → Sub h0 w' := fun hs0 hd b o ho => by rw [hk b (hs0.lt ho) (fun o' h' => hd b o o' ho h')]; exact hs0 b o ho
    refine ⟨fun n => if n = 1 then emp else hs n, { len := hst.len, den := fun m o u hm hu => ?_, apart := fun m n hmn b o1 o2 g1 g2 => ?_, own := fun m => ?_, apR := fun m b o1 o2 g1 g2 => ?_, apF := fun m b o1 o2 g1 g2 => ?_, subR := keep hst.subR fun b o o' h1 h2 => hst.apR 1 b o' o h2 h1, subF := keep hst.subF fun b o o' h1 h2 => hst.apF 1 b o' o h2 h1, apRF := hst.apRF, io := ⟨hio.1.trans hst.io.1, hio.2.trans hst.io.2⟩ }⟩
    · match m with
      | 0 => simp at hm; subst hm; trivial
      | 1 => simp at hm; subst hm; trivial
      | m + 2 => simp at hm
    · split at g1
      · exact g1
      · split at g2
        · exact g2
        · exact hst.apart m n hmn b o1 o2 g1 g2
    · split
      · exact fun b o h => h.elim
      · rename_i hm; exact keep (hst.own m) fun b o o' h1 h2 => hst.apart m 1 hm b o o' h1 h2
    · split at g1
      · exact g1
      · exact hst.apR m b o1 o2 g1 g2
    · split at g1
      · exact g1
      · exact hst.apF m b o1 o2 g1 g2
  have done : ∀ w', St ρ R F [.gone, .gone] w' → ∃ ρ' R' H', Ext ρ ρ' ∧ HLe R R' ∧ St ρ' R' F H' w' ∧
      ((∃ v sv, Ending.returned (.string ⟨s.toArray⟩) = .returned v ∧ Den R' ρ' sv v ∧ VRet (lenO [SO.abs [] (bif b then packPred (bldL true s) else packPred (bldL false s))]) sv H' K) ∨
       (∃ v sv, Ending.returned (.string ⟨s.toArray⟩) = .panicked [{ v, recovered := false }] ∧ Den R' ρ' sv v ∧ VRet (lenO [SO.abs [] (bif b then packPred (bldL true s) else packPred (bldL false s))]) sv H' Kp)) :=
    fun w' hs' => ⟨ρ, R, _, Ext.refl _, HLe.refl _, hs', .inl ⟨_, _, rfl, .str s, fin⟩⟩
  have empty : s = [] → (Calls Tryd.prog 39 #[.pointer (some ⟨a, 0, none⟩)] w fun e w' => e = .returned (.string ⟨#[]⟩) ∧ Below w.heap.size w w') → _ := fun h0 hc => (hc.mono (R' := fun en w' => ∃ ρ' R' H', Ext ρ ρ' ∧ HLe R R' ∧ St ρ' R' F H' w' ∧
      ((∃ v sv, en = .returned v ∧ Den R' ρ' sv v ∧ VRet (lenO [SO.abs [] (bif b then packPred (bldL true s) else packPred (bldL false s))]) sv H' K) ∨
       (∃ v sv, en = .panicked [{ v, recovered := false }] ∧ Den R' ρ' sv v ∧ VRet (lenO [SO.abs [] (bif b then packPred (bldL true s) else packPred (bldL false s))]) sv H' Kp))) (by
    rintro e w' ⟨rfl, hb⟩
    have := done w' (gone2 w' (fun k hk _ => hb.block k hk) ⟨hb.os, hb.output⟩)
    rw [h0] at this ⊢
    exact this))
  rcases byteList_out hso2 with ⟨rfl, h0⟩ | ⟨g, cap, arr, rfl, hh2, g1, g2, g3, g4⟩
  · have h0 : s = [] := by simpa [ofB] using h0
    exact empty h0 (Any.Builder_String_nil Tryd.lays169 Tryd.Builder_Extra_169 w.heap.size a p w hw)
  · have hg := hst.own 1 g _ (by rw [hh2]; exact ⟨rfl, rfl⟩)
    by_cases h0 : s = []
    · have hz : (ofB s).length = 0 := by rw [h0]; rfl
      rw [hz] at hw
      by_cases hc0 : cap = 0
      · subst hc0
        exact empty h0 (Any.Builder_String_noroom Tryd.lays169 Tryd.Builder_Extra_169 w.heap.size a g p arr w (Nat.le_refl _) hw hg)
      · exact empty h0 (Any.Builder_String_room Tryd.lays169 Tryd.Builder_Extra_169 w.heap.size a g cap p w hc0 hw)
    · have hz : (ofB s).length = s.length := by simp [ofB]
      rw [hz] at hw g1 g3 g4
      refine (calls_bstring a g cap p arr s w h0 hw hg g1 g2 (by omega) g4).mono ?_
      rintro e w' ⟨rfl, rfl⟩
      refine done _ (gone2 _ (fun k hk hne => ?_) (by unfold World.freeze; split <;> exact ⟨rfl, rfl⟩))
      have : k ≠ g := fun e => hne (.cells arr ty_uint8 (0, 0)) (by rw [hh2]; exact ⟨e, rfl⟩)
      unfold World.freeze
      split
      · rfl
      · show (w.heap.modify g _)[k]? = _
        rw [Array.getElem?_modify, if_neg (Ne.symm this)]
theorem bld_WriteString {s t : Bytes} (hl : s.length + t.length ≤ 140737488355328) : Fun prog G 38 [.ptr 0 0, .str t] [bldO s] (.tup [.int .i64 t.length, .nili]) [bldO (s ++ t)] := ⟨fun k => con_WriteString hl k⟩
theorem bld_String {s : Bytes} : Fun prog G 39 [.ptr 0 0] [bldO s] (.str s) [.gone] := ⟨fun k => con_String k⟩
theorem str_Repeat {s : Bytes} {n : Nat} (hn : n ≤ 9223372036854775807) (hl : s.length * n ≤ 140737488355328) : Fun prog G 30 [.str s, .int .i64 n] [] (.str (List.replicate n s).flatten) [] := ⟨fun k => con_Repeat hn hl k⟩
theorem str_HasPrefix {s t : Bytes} : Fun prog G 36 [.str s, .str t] [] (.bool (t.isPrefixOf s)) [] := ⟨fun k => con_HasPrefix k⟩
theorem str_Trim {s : Bytes} {c : UInt8} (hc : c.toNat < 128) (hs : s.length ≤ 9223372036854775807) : Fun prog G 57 [.str s, .str [c]] [] (.str (Lib.trimB s c)) [] := ⟨fun k => con_Trim hc hs k⟩
end
end Go.V
