/- Operations that act: what they ask and give. -/
import Derived.Test.YtfdjmooifnmanaaDoorVR
namespace Go.V

/-- WHAT A CALL COMES TO, over a symbolic heap. -/
structure Con (P : Program) (G : Glob) (f : FuncId) (args : List SV) (H : List SO) (K Kp : SV → List SO → Prop) : Prop where
  run : ∀ (ρ : List Value) (R : Hp) (F : Fr) (w : World) (vals : List Value), G.g R → DenL R ρ args vals → St ρ R F H w →
    Calls P f vals.toArray w fun en w' => ∃ ρ' R' H', Ext ρ ρ' ∧ HLe R R' ∧ St ρ' R' F H' w' ∧
      ((∃ v sv, en = .returned v ∧ Den R' ρ' sv v ∧ K sv H') ∨ (∃ v sv, en = .panicked [{ v, recovered := false }] ∧ Den R' ρ' sv v ∧ Kp sv H'))

theorem Con.mono {P : Program} {G : Glob} {f : FuncId} {args : List SV} {H : List SO} {K Kp K' Kp' : SV → List SO → Prop} (h : Con P G f args H K Kp)
    (hk : ∀ v H, K v H → K' v H) (hp : ∀ v H, Kp v H → Kp' v H) : Con P G f args H K' Kp' :=
  ⟨fun ρ R F w vals hg hd hs => (h.run ρ R F w vals hg hd hs).mono fun _ _ ⟨ρ', R', H', h1, h2, h3, h4⟩ => ⟨ρ', R', H', h1, h2, h3,
    h4.imp (fun ⟨v, sv, a, b, c⟩ => ⟨v, sv, a, b, hk _ _ c⟩) (fun ⟨v, sv, a, b, c⟩ => ⟨v, sv, a, b, hp _ _ c⟩)⟩⟩

/-- one symbolic heap may be seen as another one -/
def HEnt (H H' : List SO) : Prop := ∀ (ρ : List Value) (R : Hp) (F : Fr) (w : World), St ρ R F H w → ∃ ρ' R', Ext ρ ρ' ∧ HLe R R' ∧ St ρ' R' F H' w

theorem HEnt.refl (H : List SO) : HEnt H H := fun ρ R _ _ h => ⟨ρ, R, Ext.refl _, HLe.refl _, h⟩
theorem HEnt.trans {a b c : List SO} (h : HEnt a b) (h' : HEnt b c) : HEnt a c := fun ρ R F w hs =>
  let ⟨ρ1, R1, e1, r1, s1⟩ := h ρ R F w hs
  let ⟨ρ2, R2, e2, r2, s2⟩ := h' ρ1 R1 F w s1
  ⟨ρ2, R2, e1.trans e2, r1.trans r2, s2⟩

mutual
/-- a list that nobody writes any more, in the place of its name -/
def frzS (n : Nat) (r : SV) : SV → SV
  | .ref m => bif Nat.beq m n then r else .ref m
  | .agg l => .agg (frzL n r l)
  | .tup l => .tup (frzL n r l)
  | .fn g l => .fn g (frzL n r l)
  | .ifc t s => .ifc t (frzS n r s)
  | .ptr n off => .ptr n off
  | .elp n i k off => .elp n i k off
  | .int k n => .int k n
  | .bool b => .bool b
  | .str s => .str s
  | .nilp => .nilp
  | .nils => .nils
  | .nili => .nili
  | .ro E d k enc xs => .ro E d k enc xs
  | .roe E d k enc xs i off => .roe E d k enc xs i off
  | .gp g off => .gp g off
  | .val v => .val v
  | .unk => .unk
def frzL (n : Nat) (r : SV) : List SV → List SV
  | [] => []
  | s :: l => frzS n r s :: frzL n r l
end

section
variable {R R' : Hp} {F : Fr} {ρ : List Value} {H : List SO} {w : World}
theorem frzL_len {n : Nat} {r : SV} : ∀ l : List SV, (frzL n r l).length = l.length
  | [] => rfl
  | s :: l => by simp [frzL, frzL_len l]
theorem frzL_get {n : Nat} {r : SV} : ∀ (l : List SV) (i : Nat), (frzL n r l)[i]? = (l[i]?).map (frzS n r)
  | [], i => by simp [frzL]
  | s :: l, 0 => by simp [frzL]
  | s :: l, i + 1 => by simp [frzL, frzL_get l i]

theorem den_frz {n : Nat} {r : SV} {s : SV} {v : Value} (h : Den R ρ s v) (hR : HLe R R') (hr : ∀ v, ρ[n]? = some v → Den R' ρ r v) : Den R' ρ (frzS n r s) v := by
  induction h with
  | ref h h1 =>
    simp only [frzS]
    rename_i m v
    cases hb : Nat.beq m n with
    | true => have := Nat.eq_of_beq_eq_true hb; subst this; exact hr _ h
    | false => exact .ref h h1
  | agg hl h ih =>
    refine .agg (by rw [frzL_len]; exact hl) fun i s v h1 h2 => ?_
    rw [frzL_get] at h1
    obtain ⟨s', h3, rfl⟩ := Option.map_eq_some_iff.1 h1
    exact ih i s' v h3 h2 hr
  | tup hl h ih =>
    refine .tup (by rw [frzL_len]; exact hl) fun i s v h1 h2 => ?_
    rw [frzL_get] at h1
    obtain ⟨s', h3, rfl⟩ := Option.map_eq_some_iff.1 h1
    exact ih i s' v h3 h2 hr
  | fn hl h ih =>
    refine .fn (by rw [frzL_len]; exact hl) fun i s v h1 h2 => ?_
    rw [frzL_get] at h1
    obtain ⟨s', h3, rfl⟩ := Option.map_eq_some_iff.1 h1
    exact ih i s' v h3 h2 hr
  | ifc h ih => exact .ifc (ih hr)
  | int => exact .int _ _
  | bool => exact .bool _
  | str => exact .str _
  | nilp => exact .nilp
  | nils => exact .nils
  | nili => exact .nili
  | ptr h => exact .ptr h
  | elpS h => exact .elpS h
  | elpP h => exact .elpP h
  | ro vs hc hd hk h1 h2 => exact (Den.ro vs hc hd hk h1 h2).mono hR (Ext.refl _)
  | roN => exact .roN
  | roE a cap => exact .roE a cap
  | roe vs hc hd hk => exact (Den.roe vs hc hd hk).mono hR (Ext.refl _)
  | gp => exact .gp _ _
  | val => exact .val _
  | unk => exact .unk _

theorem denL_frz {n : Nat} {r : SV} {l : List SV} {vs : List Value} (h : DenL R ρ l vs) (hR : HLe R R') (hr : ∀ v, ρ[n]? = some v → Den R' ρ r v) : DenL R' ρ (frzL n r l) vs :=
  ⟨by rw [frzL_len]; exact h.1, fun i s v h1 h2 => by
    rw [frzL_get] at h1
    obtain ⟨s', h3, rfl⟩ := Option.map_eq_some_iff.1 h1
    exact den_frz (h.2 i s' v h3 h2) hR hr⟩

/-- A LIST THAT NOBODY WRITES ANY MORE. -/
theorem St.freeze {n : Nat} {c : Codec} {xs : List c.E} (h : St ρ R F H w) (hn : nthO H n = .list c xs) :
    ∃ R', HLe R R' ∧ St ρ R' F (setO H n .gone) w ∧ ∀ v, ρ[n]? = some v → Den R' ρ (.ro c.E c.dflt c.k c.enc xs) v := by
  obtain ⟨hs, h⟩ := h
  obtain ⟨v, hv, hso⟩ := h.get hn (by simp)
  refine ⟨fun b o => R b o ∨ hs n b o, fun b o hb => .inl hb, ⟨fun m => if m = n then emp else hs m, { len := by rw [h.len, setO_eq, List.length_set], den := fun m o u hm hu => ?_, apart := fun m k hmk b o1 o2 g1 g2 => ?_, own := fun m b o hb => ?_, apR := fun m b o1 o2 g1 g2 => ?_, apF := fun m b o1 o2 g1 g2 => ?_, subR := fun b o hb => ?_, subF := h.subF, apRF := fun b o1 o2 g1 g2 => ?_, io := h.io }⟩, fun u hu => ?_⟩
  · rw [setO_eq] at hm
    by_cases e : m = n
    · subst e
      have hlt : m < H.length := by
        have := (List.getElem?_eq_some_iff.1 hm).1
        simpa using this
      rw [List.getElem?_set_self hlt] at hm
      cases hm; trivial
    · rw [List.getElem?_set_ne (Ne.symm e)] at hm
      simp only [e, if_false]
      exact (h.den m o u hm hu).mono (fun b o hb => .inl hb) (Ext.refl _)
  · split at g1
    · exact g1
    · split at g2
      · exact g2
      · exact h.apart m k hmk b o1 o2 g1 g2
  · split at hb
    · exact hb.elim
    · exact h.own m b o hb
  · split at g1
    · exact g1
    · rename_i e
      rcases g2 with g2 | g2
      · exact h.apR m b o1 o2 g1 g2
      · exact h.apart m n e b o1 o2 g1 g2
  · split at g1
    · exact g1
    · exact h.apF m b o1 o2 g1 g2
  · rcases hb with hb | hb
    · exact h.subR b o hb
    · exact h.own n b o hb
  · rcases g1 with g1 | g1
    · exact h.apRF b o1 o2 g1 g2
    · exact h.apF n b o1 o2 g1 g2
  · rw [hv] at hu; cases hu
    rcases hso with ⟨rfl, rfl⟩ | ⟨b, cap, arr, rfl, hh, g1, g2, g3, g4⟩
    · exact .roN
    · refine .ro (fun i j => arr.getD (i * c.k + j) undef) (fun i j e s a1 a2 => ?_) (fun i j e s a1 a2 => ?_) c.len g1 g3
      · obtain ⟨u, u1, u2⟩ := g4 i j e s a1 a2
        refine ⟨arr, c.ty, (0, 0), .inr (by rw [hh]; exact ⟨rfl, rfl⟩), ?_⟩
        rw [Nat.zero_add, Array.getD_eq_getD_getElem?, u1]; rfl
      · obtain ⟨u, u1, u2⟩ := g4 i j e s a1 a2
        rw [Array.getD_eq_getD_getElem?, u1]; exact u2.mono (fun b o hb => .inl hb) (Ext.refl _)
end

def lenO : List SO → Nat
  | [] => 0
  | _ :: r => lenO r + 1
theorem lenO_eq : ∀ H : List SO, lenO H = H.length
  | [] => rfl
  | _ :: r => by simp [lenO, lenO_eq r]

def setK : List SO → Nat → SO → (List SO → Prop) → Prop
  | [], _, _, K => K []
  | _ :: r, 0, x, K => K (x :: r)
  | v :: r, n + 1, x, K => setK r n x fun r => K (v :: r)
theorem setK_iff : ∀ {H : List SO} {n : Nat} {o : SO} {K : List SO → Prop}, setK H n o K ↔ K (setO H n o)
  | [], _, _, _ => Iff.rfl
  | _ :: _, 0, _, _ => Iff.rfl
  | _ :: r, n + 1, o, K => by simp only [setK, setO]; exact setK_iff

def spliceK : List SV → Nat → List SV → (List SV → Prop) → Prop
  | l, _, [], K => K l
  | [], _, _ :: _, K => K []
  | _ :: l, 0, v :: vs, K => spliceK l 0 vs fun l => K (v :: l)
  | x :: l, n + 1, v :: vs, K => spliceK l n (v :: vs) fun l => K (x :: l)
theorem spliceK_iff : ∀ {l : List SV} {n : Nat} {vs : List SV} {K : List SV → Prop}, spliceK l n vs K ↔ K (spliceS l n vs)
  | l, n, [], K => by cases l <;> cases n <;> exact Iff.rfl
  | [], 0, _ :: _, _ => Iff.rfl
  | [], _ + 1, _ :: _, _ => Iff.rfl
  | _ :: l, 0, v :: vs, K => by simp only [spliceK, spliceS]; exact spliceK_iff
  | x :: l, n + 1, v :: vs, K => by simp only [spliceK, spliceS]; exact spliceK_iff

def oneS : SV → Bool
  | .agg _ | .tup _ | .unk | .val _ => false
  | _ => true

def allOne : List SV → Bool
  | [] => true
  | s :: l => oneS s && allOne l

/-- cells, cut into elements -/
def decRows (c : Codec) : Nat → List SV → Option (List c.E)
  | 0, l => match l with | [] => some [] | _ => none
  | n + 1, l => match c.dec (takeS c.k l) with
    | some e => match decRows c n (dropS c.k l) with | some r => some (e :: r) | none => none
    | none => none

/-- what is appended -/
inductive VApp (sv : SV) (H : List SO) (c : Codec) (K : List c.E → Prop) : Prop where
  | ref (m : Nat) (ys : List c.E) (h : sv = .ref m) (h2 : nthO H m = .list c ys) (k : K ys)
  | ro (ys : List c.E) (h : sv = .ro c.E c.dflt c.k c.enc ys) (k : K ys)
  | nil (h : sv = .nils) (k : K [])

inductive VAppN (sv : SV) (H : List SO) (ty : TypeId) (k : Nat) (K : (c : Codec) → List c.E → Prop) : Prop where
  | mk (c : Codec) (ht : c.ty = ty) (hk : c.k = k) (h : VApp sv H c (K c))

inductive VByteL (H : List SO) (n : Nat) (ty : TypeId) (K : List Int → Prop) : Prop where
  | mk (xs : List Int) (h : nthO H n = .list (byteC ty) xs) (k : K xs)

def newO (H : List SO) (o : SO) (K : Nat → List SO → Prop) : Prop := forceN (lenO H) fun n => K n (H ++ [o])

def calleeOK (P : Program) (f : FuncId) : Bool := match P.funcs[f]? with | some fn => fn.body.isSome && !(fn.name == "runtime.NumGoroutine") | none => false

def opL (P : Program) (G : Glob) (o : SOp) (e : Env) (H : List SO) (K Kp : SV → List SO → Prop) : Prop :=
  match o with
  | .alloc zero => newO H (.cells zero) fun n H => K (.ptr n 0) H
  | .alloct t zero => newO H (.cells zero (some t)) fun n H => K (.ptr n 0) H
  | .alloca c xs => newO H (.arr c xs) fun n H => K (.ptr n 0) H
  | .box x => forceS (evA e x) fun v => bif okS v then newO H (.cells v.cells) fun n H => K (.ptr n 0) H else False
  | .st size a x => forceS (evA e x) fun v => bif okS v && Nat.beq (lenS v.cells) size && allOne v.cells then
      match evA e a with
      | .ptr n off =>
        match nthO H n with
        | .cells l ty => bif Nat.ble (off + size) (lenS l) then spliceK l off v.cells fun l => setK H n (.cells l ty) fun H => K (.tup []) H else False
        | _ => False
      | .elp n j k off =>
        match nthO H n with
        | .list c xs => VSide (j < xs.length ∧ c.k = k ∧ off + size ≤ k) (spliceK (c.enc (xs.getD j c.dflt)) off v.cells fun l =>
            match c.dec l with
            | some y => setK H n (.list c (xs.set j y)) fun H => K (.tup []) H
            | none => False)
        | .arr c xs => VSide (j < xs.length ∧ c.k = k ∧ off + size ≤ k) (spliceK (c.enc (xs.getD j c.dflt)) off v.cells fun l =>
            match c.dec l with
            | some y => setK H n (.arr c (xs.set j y)) fun H => K (.tup []) H
            | none => False)
        | _ => False
      | _ => False
    else False
  | .bsl c n parts => fillS e parts (List.replicate (n * c.k) .unk) fun l =>
      match decRows c n l with
      | some xs => newO H (.list c xs) fun n H => K (.ref n) H
      | none => False
  | .mks c z bytes x =>
    match evA e x with
    | .int .i64 n => VSide (0 ≤ n ∧ n * bytes ≤ 140737488355328 ∧ n ≤ 140737488355328) (newO H (.list c (List.replicate n.toNat z)) fun n H => K (.ref n) H)
    | _ => False
  | .app ty k bytes s x =>
    match evA e s with
    | .ref n =>
      match nthO H n with
      | .list c xs => VSide (c.ty = ty ∧ c.k = k) (VApp (evA e x) H c fun ys => VSide ((xs.length + ys.length) * bytes ≤ 140737488355328 ∧ xs.length + ys.length ≤ 140737488355328)
          (setK H n .gone fun H => newO H (.list c (xs ++ ys)) fun n H => K (.ref n) H))
      | _ => False
    | .nils => VAppN (evA e x) H ty k fun c ys => VSide (ys.length * bytes ≤ 140737488355328 ∧ ys.length ≤ 140737488355328) (newO H (.list c ys) fun n H => K (.ref n) H)
    | _ => False
  | .apps ty s x =>
    match evA e s, evA e x with
    | .ref n, .str t => VByteL H n ty fun xs => VSide (xs.length + t.length ≤ 140737488355328) (setK H n .gone fun H => newO H (.list (byteC ty) (xs ++ ofB t)) fun n H => K (.ref n) H)
    | .nils, .str t => VSide (t.length ≤ 140737488355328) (newO H (.list (byteC ty) (ofB t)) fun n H => K (.ref n) H)
    | _, _ => False
  | .call f args => Con P G f (args.map (evA e)) H K Kp
  | .calld x args =>
    match evA e x with
    | .fn f caps => VSide (calleeOK P f = true) (Con P G f (args.map (evA e) ++ caps) H K Kp)
    | _ => False
  | .pan x =>
    match evA e x with
    | .ifc t s => Kp (.ifc t s) H
    | _ => False
  | _ => False

/-- parts in the order of the elements -/
def chkPartsL (size : Nat) : List (Nat × Nat × SA) → List (Nat × Operand) → Bool
  | [], [] => true
  | (off, sz, x) :: l, (i, y) :: r => (off == i * size) && (sz == size) && chkA x y && chkPartsL size l r
  | _, _ => false

def elemIs (P : Program) (t ty : TypeId) (k bytes : Nat) : Bool :=
  t == ty && match P.info? t with | some i => i.size == k && i.bytes == bytes && (match i.zero with | some z => z.cells.size == k | none => false) | none => false

def chkL (P : Program) : SOp → Op → Bool
  | .alloc zero, .alloc t => zeroIs P t zero
  | .alloct ty zero, .alloc t => ty == t && zeroIs P t zero
  | .alloca c xs, .alloc t => zeroIs P t (xs.flatMap c.enc)
  | .box x, .box _ y => chkA x y
  | .st size a x, .store t b y => chkA a b && chkA x y && sizeIs P t size
  | .bsl c n parts, .buildSlice t len ps => n == len && chkPartsL c.k parts ps.toList && decide (len * c.k ≤ 16777216) && decide (0 < c.k) &&
      (match P.underlying t with | some (.slice el) => elemIs P el c.ty c.k (P.bytesOf el) | _ => false)
  | .mks c z bytes x, .makeSlice t l cp => chkA x l && chkA x cp && (match P.underlying t with | some (.slice el) => elemIs P el c.ty c.k bytes && zeroIs P el (c.enc z) && decide (0 < bytes) && decide (0 < c.k) | _ => false)
  | .app ty k bytes s x, .call { callee := .builtin .append, args, argTypes } => match args.toList with
    | [s', x'] => chkA s s' && chkA x x' && (match argTypes.toList with
      | [t, t'] => t == t' && decide (0 < k) && (match P.underlying t with | some (.slice el) => elemIs P el ty k bytes | _ => false)
      | _ => false)
    | _ => false
  | .apps ty s x, .call { callee := .builtin .append, args, argTypes } => match args.toList with
    | [s', x'] => chkA s s' && chkA x x' && (match argTypes.toList with
      | [t, t'] => (match P.underlying t, P.underlying t' with | some (.slice el), some .string => elemIs P el ty 1 1 && zeroIs P el [.int .u8 0] | _, _ => false)
      | _ => false)
    | _ => false
  | .call f args, .call { callee := .value (.func f'), args := args', .. } => f == f' && chkAL args args'.toList && calleeOK P f
  | .calld x args, .call { callee := .value y, args := args', .. } => chkA x y && chkAL args args'.toList
  | .pan x, .panic y => chkA x y
  | _, _ => false
end Go.V
