/- Symbolic values and heaps, and what they denote in a world. -/
import Derived.Calls
namespace Go.V

abbrev Hp := Nat → Obj → Prop
abbrev Bytes := List UInt8

/-- A symbolic value. Names (natural numbers) stand for the objects of the symbolic heap. -/
inductive SV : Type 1 where
  | int (k : IntKind) (n : Int)
  | bool (b : Bool)
  | str (s : Bytes)
  | nilp
  | nils
  | nili
  | ptr (n : Nat) (off : Nat)
  | elp (n : Nat) (i : Nat) (k : Nat) (off : Nat)
  | ref (n : Nat)
  | agg (l : List SV)
  | tup (l : List SV)
  | fn (f : FuncId) (caps : List SV)
  | ifc (t : TypeId) (s : SV)
  | ro (E : Type) (d : E) (k : Nat) (enc : E → List SV) (xs : List E)
  | roe (E : Type) (d : E) (k : Nat) (enc : E → List SV) (xs : List E) (i off : Nat)
  | gp (g off : Nat)
  | val (v : Value)
  | unk

def one : Value → Bool
  | .agg _ | .tuple _ => false
  | _ => true

def RCell (R : Hp) (b off : Nat) (v : Value) : Prop := ∃ c t f, R b (.cells c t f) ∧ c[off]? = some v

inductive Den (R : Hp) : List Value → SV → Value → Prop where
  | int {ρ : List Value} (k : IntKind) (n : Int) : Den R ρ (.int k n) (.int k n)
  | bool {ρ : List Value} (b : Bool) : Den R ρ (.bool b) (.bool b)
  | str {ρ : List Value} (s : Bytes) : Den R ρ (.str s) (.string ⟨s.toArray⟩)
  | nilp {ρ : List Value} : Den R ρ .nilp (.pointer none)
  | nils {ρ : List Value} : Den R ρ .nils (.slice none 0 0)
  | nili {ρ : List Value} : Den R ρ .nili .nilIface
  | ptr {ρ : List Value} {n off b o : Nat} (h : ρ[n]? = some (.pointer (some ⟨b, o, none⟩))) : Den R ρ (.ptr n off) (.pointer (some ⟨b, o + off, none⟩))
  | elpS {ρ : List Value} {n i k off b o len cap : Nat} (h : ρ[n]? = some (.slice (some ⟨b, o, none⟩) len cap)) : Den R ρ (.elp n i k off) (.pointer (some ⟨b, o + (i * k + off), none⟩))
  | elpP {ρ : List Value} {n i k off b o : Nat} (h : ρ[n]? = some (.pointer (some ⟨b, o, none⟩))) : Den R ρ (.elp n i k off) (.pointer (some ⟨b, o + (i * k + off), none⟩))
  | ref {ρ : List Value} {n : Nat} {v : Value} (h : ρ[n]? = some v) (h1 : one v = true) : Den R ρ (.ref n) v
  | agg {ρ : List Value} {l : List SV} {vs : List Value} (hl : l.length = vs.length) (h : ∀ (i : Nat) (s : SV) (v : Value), l[i]? = some s → vs[i]? = some v → Den R ρ s v) : Den R ρ (.agg l) (.agg vs.toArray)
  | tup {ρ : List Value} {l : List SV} {vs : List Value} (hl : l.length = vs.length) (h : ∀ (i : Nat) (s : SV) (v : Value), l[i]? = some s → vs[i]? = some v → Den R ρ s v) : Den R ρ (.tup l) (.tuple vs.toArray)
  | fn {ρ : List Value} {f : FuncId} {l : List SV} {vs : List Value} (hl : l.length = vs.length) (h : ∀ (i : Nat) (s : SV) (v : Value), l[i]? = some s → vs[i]? = some v → Den R ρ s v) : Den R ρ (.fn f l) (.func (.func f) #[] vs.toArray)
  | ifc {ρ : List Value} {t : TypeId} {s : SV} {v : Value} (h : Den R ρ s v) : Den R ρ (.ifc t s) (.iface t v)
  | ro {ρ : List Value} {E : Type} {d : E} {k : Nat} {enc : E → List SV} {xs : List E} {b o cap : Nat} (vs : Nat → Nat → Value)
      (hc : ∀ (i j : Nat) (e : E) (s : SV), xs[i]? = some e → (enc e)[j]? = some s → RCell R b (o + (i * k + j)) (vs i j))
      (hd : ∀ (i j : Nat) (e : E) (s : SV), xs[i]? = some e → (enc e)[j]? = some s → Den R [] s (vs i j))
      (hk : ∀ e, (enc e).length = k) (hcap : xs.length ≤ cap) (hb : xs.length ≤ 140737488355328) : Den R ρ (.ro E d k enc xs) (.slice (some ⟨b, o, none⟩) xs.length cap)
  | roN {ρ : List Value} {E : Type} {d : E} {k : Nat} {enc : E → List SV} : Den R ρ (.ro E d k enc []) (.slice none 0 0)
  | roE {ρ : List Value} {E : Type} {d : E} {k : Nat} {enc : E → List SV} (a : Addr) (cap : Nat) : Den R ρ (.ro E d k enc []) (.slice (some a) 0 cap)
  | roe {ρ : List Value} {E : Type} {d : E} {k : Nat} {enc : E → List SV} {xs : List E} {i off b o : Nat} (vs : Nat → Nat → Value)
      (hc : ∀ (i j : Nat) (e : E) (s : SV), xs[i]? = some e → (enc e)[j]? = some s → RCell R b (o + (i * k + j)) (vs i j))
      (hd : ∀ (i j : Nat) (e : E) (s : SV), xs[i]? = some e → (enc e)[j]? = some s → Den R [] s (vs i j))
      (hk : ∀ e, (enc e).length = k) : Den R ρ (.roe E d k enc xs i off) (.pointer (some ⟨b, o + (i * k + off), none⟩))
  | gp {ρ : List Value} (g off : Nat) : Den R ρ (.gp g off) (.pointer (some ⟨g, off, none⟩))
  | val {ρ : List Value} (v : Value) : Den R ρ (.val v) v
  | unk {ρ : List Value} (v : Value) : Den R ρ .unk v

def HLe (R R' : Hp) : Prop := ∀ b o, R b o → R' b o
def Ext (ρ ρ' : List Value) : Prop := ∀ (n : Nat) (v : Value), ρ[n]? = some v → ρ'[n]? = some v

theorem HLe.refl (R : Hp) : HLe R R := fun _ _ h => h
theorem HLe.trans {a b c : Hp} (h : HLe a b) (h' : HLe b c) : HLe a c := fun x o hx => h' x o (h x o hx)
theorem Ext.refl (ρ : List Value) : Ext ρ ρ := fun _ _ h => h
theorem Ext.trans {a b c : List Value} (h : Ext a b) (h' : Ext b c) : Ext a c := fun n v hx => h' n v (h n v hx)
theorem Ext.append (ρ l : List Value) : Ext ρ (ρ ++ l) := fun n v h => by
  rw [List.getElem?_append_left (List.getElem?_eq_some_iff.1 h).1]; exact h
theorem Ext.nil (ρ : List Value) : Ext [] ρ := fun n v h => by simp at h

theorem Den.mono {R R' : Hp} {ρ : List Value} {s : SV} {v : Value} (h : Den R ρ s v) (hR : HLe R R') : ∀ {ρ' : List Value}, Ext ρ ρ' → Den R' ρ' s v := by
  induction h with
  | int k n => intro _ _; exact .int k n
  | bool b => intro _ _; exact .bool b
  | str s => intro _ _; exact .str s
  | nilp => intro _ _; exact .nilp
  | nils => intro _ _; exact .nils
  | nili => intro _ _; exact .nili
  | ptr h => intro _ hr; exact .ptr (hr _ _ h)
  | elpS h => intro _ hr; exact .elpS (hr _ _ h)
  | elpP h => intro _ hr; exact .elpP (hr _ _ h)
  | ref h h1 => intro _ hr; exact .ref (hr _ _ h) h1
  | agg hl _ ih => intro _ hr; exact .agg hl fun i s v h1 h2 => ih i s v h1 h2 hr
  | tup hl _ ih => intro _ hr; exact .tup hl fun i s v h1 h2 => ih i s v h1 h2 hr
  | fn hl _ ih => intro _ hr; exact .fn hl fun i s v h1 h2 => ih i s v h1 h2 hr
  | ifc _ ih => intro _ hr; exact .ifc (ih hr)
  | ro vs hc _ hk hcap hb ih =>
    intro _ hr
    exact .ro vs (fun i j e s h1 h2 => let ⟨c, t, f, h3, h4⟩ := hc i j e s h1 h2; ⟨c, t, f, hR _ _ h3, h4⟩) (fun i j e s h1 h2 => ih i j e s h1 h2 (Ext.refl _)) hk hcap hb
  | roN => intro _ _; exact .roN
  | roE a cap => intro _ _; exact .roE a cap
  | roe vs hc _ hk ih =>
    intro _ hr
    exact .roe vs (fun i j e s h1 h2 => let ⟨c, t, f, h3, h4⟩ := hc i j e s h1 h2; ⟨c, t, f, hR _ _ h3, h4⟩) (fun i j e s h1 h2 => ih i j e s h1 h2 (Ext.refl _)) hk
  | gp g off => intro _ _; exact .gp g off
  | val v => intro _ _; exact .val v
  | unk v => intro _ _; exact .unk v

def DenL (R : Hp) (ρ : List Value) (l : List SV) (vs : List Value) : Prop := l.length = vs.length ∧ ∀ (i : Nat) (s : SV) (v : Value), l[i]? = some s → vs[i]? = some v → Den R ρ s v

theorem DenL.mono {R R' : Hp} {ρ ρ' : List Value} {l : List SV} {vs : List Value} (h : DenL R ρ l vs) (hR : HLe R R') (hr : Ext ρ ρ') : DenL R' ρ' l vs :=
  ⟨h.1, fun i s v h1 h2 => (h.2 i s v h1 h2).mono hR hr⟩

theorem DenL.nil {R : Hp} {ρ : List Value} : DenL R ρ [] [] := ⟨rfl, fun i s v h => by simp at h⟩
theorem DenL.cons {R : Hp} {ρ : List Value} {s : SV} {v : Value} {l : List SV} {vs : List Value} (h : Den R ρ s v) (hl : DenL R ρ l vs) : DenL R ρ (s :: l) (v :: vs) :=
  ⟨by simp [hl.1], fun i s' v' h1 h2 => by
    cases i with
    | zero => simp at h1 h2; subst h1; subst h2; exact h
    | succ i => exact hl.2 i s' v' (by simpa using h1) (by simpa using h2)⟩

theorem DenL.cons_inv {R : Hp} {ρ : List Value} {s : SV} {l : List SV} {vs : List Value} (h : DenL R ρ (s :: l) vs) : ∃ v vs', vs = v :: vs' ∧ Den R ρ s v ∧ DenL R ρ l vs' := by
  cases vs with
  | nil => have := h.1; simp at this
  | cons v vs' =>
    refine ⟨v, vs', rfl, h.2 0 s v rfl rfl, by have := h.1; simpa using this, fun i s' v' h1 h2 => h.2 (i + 1) s' v' (by simpa using h1) (by simpa using h2)⟩

theorem DenL.nil_inv {R : Hp} {ρ : List Value} {vs : List Value} (h : DenL R ρ [] vs) : vs = [] := List.length_eq_zero_iff.1 h.1.symm

/-- what denotes one value alone -/
def exactS : SV → Bool
  | .int .. | .bool _ | .str _ | .nilp | .nils | .nili | .ptr .. | .elp .. | .ref _ | .gp .. | .val _ => true
  | _ => false

theorem Den.exact {R R' : Hp} {ρ : List Value} {s : SV} {v v' : Value} (he : exactS s = true) (h : Den R ρ s v) (h' : Den R' ρ s v') : v = v' := by
  cases h <;> simp [exactS] at he <;> cases h' <;> first | rfl | (simp_all)

/-- names nothing, and is the value of one cell -/
def plainS : SV → Bool
  | .int .. | .bool _ | .str _ | .nilp | .nils | .nili | .ro .. | .roe .. | .gp .. => true
  | _ => false

theorem Den.closed {R : Hp} {ρ : List Value} {s : SV} {v : Value} (hp : plainS s = true) (h : Den R ρ s v) (ρ' : List Value) : Den R ρ' s v := by
  cases h <;> first
    | (simp [plainS] at hp; done)
    | exact .int _ _ | exact .bool _ | exact .str _ | exact .nilp | exact .nils | exact .nili | exact .gp _ _
    | exact .ro _ ‹_› ‹_› ‹_› ‹_› ‹_› | exact .roN | exact .roE _ _ | exact .roe _ ‹_› ‹_› ‹_›

theorem Den.one {R : Hp} {ρ : List Value} {s : SV} {v : Value} (hp : plainS s = true) (h : Den R ρ s v) : one v = true := by
  cases h <;> first | (simp [plainS] at hp; done) | rfl

structure Codec : Type 1 where
  E : Type
  dflt : E
  ty : TypeId
  k : Nat
  enc : E → List SV
  dec : List SV → Option E
  ok : ∀ l e, dec l = some e → enc e = l
  len : ∀ e, (enc e).length = k
  plain : ∀ e s, s ∈ enc e → plainS s = true

/-- whole numbers, texts, truth values -/
abbrev intC (k : IntKind) (ty : TypeId) : Codec where
  E := Int
  dflt := 0
  ty := ty
  k := 1
  enc n := [.int k n]
  dec l := match l with | [.int k' n] => bif k' == k then some n else none | _ => none
  ok l e h := by
    split at h
    · rename_i k' n
      cases hk : k' == k with
      | true => rw [hk] at h; cases h; rw [eq_of_beq hk]
      | false => rw [hk] at h; cases h
    · cases h
  len _ := rfl
  plain e s h := by simp at h; subst h; rfl
abbrev strC (ty : TypeId) : Codec where
  E := Bytes
  dflt := []
  ty := ty
  k := 1
  enc s := [.str s]
  dec l := match l with | [.str s] => some s | _ => none
  ok l e h := by split at h <;> simp_all
  len _ := rfl
  plain e s h := by simp at h; subst h; rfl
abbrev boolC (ty : TypeId) : Codec where
  E := Bool
  dflt := false
  ty := ty
  k := 1
  enc s := [.bool s]
  dec l := match l with | [.bool s] => some s | _ => none
  ok l e h := by split at h <;> simp_all
  len _ := rfl
  plain e s h := by simp at h; subst h; rfl
abbrev byteC : TypeId → Codec := intC .u8
def toB (xs : List Int) : Bytes := xs.map fun n => UInt8.ofNat n.toNat
def ofB (s : Bytes) : List Int := s.map fun b => (b.toNat : Int)
theorem toB_ofB (s : Bytes) : toB (ofB s) = s := by
  simp only [toB, ofB, List.map_map]
  have : ((fun n : Int => UInt8.ofNat n.toNat) ∘ fun b : UInt8 => (b.toNat : Int)) = id := by funext b; simp
  rw [this, List.map_id]

structure Pred : Type where
  p : List Value → Value → Hp → Hp → Prop
  mono : ∀ ns v R R' h, HLe R R' → p ns v R h → p ns v R' h

inductive SO : Type 1 where
  | gone
  | cells (l : List SV) (t : Option TypeId := none)
  | list (c : Codec) (xs : List c.E)
  | arr (c : Codec) (xs : List c.E)
  | abs (ns : List Nat) (A : Pred)

def single (b : Nat) (o : Obj) : Hp := fun b' o' => b' = b ∧ o' = o
def emp : Hp := fun _ _ => False

def RowDen (R : Hp) (c : Codec) (arr : Array Value) (xs : List c.E) : Prop :=
  ∀ (i j : Nat) (e : c.E) (s : SV), xs[i]? = some e → (c.enc e)[j]? = some s → ∃ u, arr[i * c.k + j]? = some u ∧ Den R [] s u

/-- what is known of a block's type -/
def tyIs (t : Option TypeId) (ty : TypeId) : Prop := ∀ x, t = some x → ty = x

def SODen (R : Hp) (ρ : List Value) (v : Value) : SO → Hp → Prop
  | .gone, _ => True
  | .cells l ty, h => ∃ b t vs, v = .pointer (some ⟨b, 0, none⟩) ∧ h = single b (.cells vs.toArray t (0, 0)) ∧ DenL R ρ l vs ∧ tyIs ty t
  | .list c xs, h => (v = .slice none 0 0 ∧ xs = []) ∨
      ∃ b cap arr, v = .slice (some ⟨b, 0, none⟩) xs.length cap ∧ h = single b (.cells arr c.ty (0, 0)) ∧ xs.length ≤ cap ∧ cap * c.k ≤ arr.size ∧ xs.length ≤ 140737488355328 ∧ RowDen R c arr xs
  | .arr c xs, h => ∃ b t arr, v = .pointer (some ⟨b, 0, none⟩) ∧ h = single b (.cells arr t (0, 0)) ∧ xs.length * c.k ≤ arr.size ∧ RowDen R c arr xs
  | .abs ns A, h => ∃ vs, ns.map (ρ[·]?) = vs.map some ∧ A.p vs v R h

theorem SODen.mono {R R' : Hp} {ρ ρ' : List Value} {v : Value} {o : SO} {h : Hp} (hd : SODen R ρ v o h) (hR : HLe R R') (hr : Ext ρ ρ') : SODen R' ρ' v o h := by
  cases o with
  | gone => trivial
  | cells l => obtain ⟨b, t, vs, h1, h2, h3, h4⟩ := hd; exact ⟨b, t, vs, h1, h2, h3.mono hR hr, h4⟩
  | list c xs =>
    rcases hd with h | ⟨b, cap, arr, h1, h2, h3, h4, h5, h6⟩
    · exact .inl h
    · exact .inr ⟨b, cap, arr, h1, h2, h3, h4, h5, fun i j e s a1 a2 => let ⟨u, g1, g2⟩ := h6 i j e s a1 a2; ⟨u, g1, g2.mono hR (Ext.refl _)⟩⟩
  | arr c xs =>
    obtain ⟨b, t, arr, h1, h2, h3, h6⟩ := hd
    exact ⟨b, t, arr, h1, h2, h3, fun i j e s a1 a2 => let ⟨u, g1, g2⟩ := h6 i j e s a1 a2; ⟨u, g1, g2.mono hR (Ext.refl _)⟩⟩
  | abs ns A =>
    obtain ⟨vs, h1, h2⟩ := hd
    refine ⟨vs, ?_, A.mono _ _ _ _ _ hR h2⟩
    rw [← h1]
    apply List.map_congr_left
    intro n hn
    obtain ⟨i, hi⟩ := List.getElem?_of_mem hn
    have h3 : (vs.map some)[i]? = some (ρ[n]?) := by rw [← h1]; simp [hi]
    simp at h3
    obtain ⟨x, hx, he⟩ := h3
    rw [← he, hr n x he.symm]

/-! ### the state -/
def Disj (h h' : Hp) : Prop := ∀ b o o', h b o → h' b o' → False
def Sub (h : Hp) (w : World) : Prop := ∀ b o, h b o → w.heap[b]? = some o

/-- what a caller keeps: blocks of its own, the outside world, what was written so far -/
structure Fr where
  h : Hp
  os : Os
  out : Array (Nat × ByteArray)
instance : CoeFun Fr (fun _ => Nat → Obj → Prop) := ⟨Fr.h⟩

structure StW (ρ : List Value) (R : Hp) (F : Fr) (H : List SO) (w : World) (hs : Nat → Hp) : Prop where
  len : ρ.length = H.length
  den : ∀ (n : Nat) (o : SO) (v : Value), H[n]? = some o → ρ[n]? = some v → SODen R ρ v o (hs n)
  apart : ∀ m n, m ≠ n → Disj (hs m) (hs n)
  own : ∀ n, Sub (hs n) w
  apR : ∀ n, Disj (hs n) R
  apF : ∀ n, Disj (hs n) F.h
  subR : Sub R w
  subF : Sub F.h w
  apRF : Disj R F.h
  io : w.os = F.os ∧ w.output = F.out

def St (ρ : List Value) (R : Hp) (F : Fr) (H : List SO) (w : World) : Prop := ∃ hs, StW ρ R F H w hs

theorem St.world {ρ : List Value} {R : Hp} {F : Fr} {H : List SO} {w w' : World} (h : St ρ R F H w) (hw : w'.heap = w.heap) (hio : w'.os = w.os ∧ w'.output = w.output := by exact ⟨rfl, rfl⟩) : St ρ R F H w' := by
  obtain ⟨hs, h⟩ := h
  refine ⟨hs, { h with own := fun n b o hb => by rw [hw]; exact h.own n b o hb, subR := fun b o hb => by rw [hw]; exact h.subR b o hb, subF := (fun b o hb => by rw [hw]; exact h.subF b o hb), io := ⟨hio.1.trans h.io.1, hio.2.trans h.io.2⟩ }⟩

def nthO : List SO → Nat → SO
  | [], _ => .gone
  | v :: _, 0 => v
  | _ :: r, n + 1 => nthO r n
def setO : List SO → Nat → SO → List SO
  | [], _, _ => []
  | _ :: r, 0, x => x :: r
  | v :: r, n + 1, x => v :: setO r n x

theorem nthO_eq : ∀ (H : List SO) (n : Nat), nthO H n = H.getD n .gone
  | [], _ => by simp [nthO]
  | v :: _, 0 => by simp [nthO]
  | _ :: r, n + 1 => by simp [nthO, nthO_eq r n]
theorem setO_eq : ∀ (H : List SO) (n : Nat) (o : SO), setO H n o = H.set n o
  | [], _, _ => by simp [setO]
  | _ :: _, 0, _ => by simp [setO]
  | _ :: r, n + 1, o => by simp [setO, setO_eq r n o]

theorem nthO_some {H : List SO} {n : Nat} {o : SO} (h : nthO H n = o) (ho : o ≠ .gone) : H[n]? = some o := by
  rw [nthO_eq] at h
  cases hn : H[n]? with
  | none => simp [hn] at h; exact absurd h.symm ho
  | some x => simp [hn] at h; rw [h]

/-- the object of a name -/
theorem StW.get {ρ : List Value} {R : Hp} {F : Fr} {H : List SO} {w : World} {hs : Nat → Hp} (h : StW ρ R F H w hs) {n : Nat} {o : SO} (hn : nthO H n = o) (ho : o ≠ .gone) :
    ∃ v, ρ[n]? = some v ∧ SODen R ρ v o (hs n) := by
  have hH := nthO_some hn ho
  have hlt : n < ρ.length := by rw [h.len]; exact (List.getElem?_eq_some_iff.1 hH).1
  exact ⟨ρ[n], List.getElem?_eq_getElem hlt, h.den n o _ hH (List.getElem?_eq_getElem hlt)⟩

/-- an owned block is written -/
theorem StW.update {ρ : List Value} {R : Hp} {F : Fr} {H : List SO} {w w' : World} {hs : Nat → Hp} (h : StW ρ R F H w hs) {n b : Nat} {obj obj' : Obj} {o' : SO} {v : Value}
    (hb : hs n = single b obj) (hw : w'.heap[b]? = some obj') (hne : ∀ b', b' ≠ b → w'.heap[b']? = w.heap[b']?) (hv : ρ[n]? = some v) (hd : SODen R ρ v o' (single b obj')) (hio : w'.os = w.os ∧ w'.output = w.output := by exact ⟨rfl, rfl⟩) :
    St ρ R F (setO H n o') w' := by
  have keep : ∀ m, m ≠ n → ∀ b' o, hs m b' o → b' ≠ b := fun m hm b' o ho e => h.apart m n hm b' o obj ho (by rw [hb]; exact ⟨e, rfl⟩)
  have keepR : ∀ b' o, R b' o → b' ≠ b := fun b' o ho e => h.apR n b' obj o (by rw [hb]; exact ⟨e, rfl⟩) ho
  have keepF : ∀ b' o, F b' o → b' ≠ b := fun b' o ho e => h.apF n b' obj o (by rw [hb]; exact ⟨e, rfl⟩) ho
  refine ⟨fun m => if m = n then single b obj' else hs m, ?_⟩
  refine { len := by rw [h.len, setO_eq, List.length_set], den := fun m o u hm hu => ?_, apart := fun m k hmk b' o1 o2 h1 h2 => ?_, own := fun m b' o ho => ?_, apR := fun m b' o1 o2 h1 h2 => ?_,
           apF := fun m b' o1 o2 h1 h2 => ?_, subR := fun b' o ho => by rw [hne b' (keepR b' o ho)]; exact h.subR b' o ho, subF := fun b' o ho => by rw [hne b' (keepF b' o ho)]; exact h.subF b' o ho, apRF := h.apRF, io := ⟨hio.1.trans h.io.1, hio.2.trans h.io.2⟩ }
  · rw [setO_eq] at hm
    by_cases e : m = n
    · subst e
      have hlt : m < H.length := by
        have := (List.getElem?_eq_some_iff.1 hm).1
        simpa using this
      rw [List.getElem?_set_self hlt] at hm
      rw [hv] at hu
      cases hm; cases hu
      simpa using hd
    · rw [List.getElem?_set_ne (Ne.symm e)] at hm
      simpa [e] using h.den m o u hm hu
  · split at h1 <;> split at h2
    · rename_i e1 e2; exact hmk (e1.trans e2.symm)
    · rename_i e1 e2; exact keep k e2 b' o2 h2 h1.1
    · rename_i e1 e2; exact keep m e1 b' o1 h1 h2.1
    · exact h.apart m k hmk b' o1 o2 h1 h2
  · split at ho
    · obtain ⟨rfl, rfl⟩ := ho; exact hw
    · rename_i e; rw [hne b' (keep m e b' o ho)]; exact h.own m b' o ho
  · split at h1
    · exact keepR b' o2 h2 h1.1
    · exact h.apR m b' o1 o2 h1 h2
  · split at h1
    · exact keepF b' o2 h2 h1.1
    · exact h.apF m b' o1 o2 h1 h2

theorem Sub.lt {h : Hp} {w : World} (hs : Sub h w) {b : Nat} {o : Obj} (hb : h b o) : b < w.heap.size := (Array.getElem?_eq_some_iff.1 (hs b o hb)).1

/-- a new object, with its block or without one -/
theorem StW.alloc {ρ : List Value} {R : Hp} {F : Fr} {H : List SO} {w w' : World} {hs : Nat → Hp} (h : StW ρ R F H w hs) {h' : Hp} {o' : SO} {v : Value}
    (hw : ∀ b, b < w.heap.size → w'.heap[b]? = w.heap[b]?) (hnew : ∀ b o, h' b o → w.heap.size ≤ b ∧ w'.heap[b]? = some o) (hd : SODen R (ρ ++ [v]) v o' h') (hio : w'.os = w.os ∧ w'.output = w.output := by exact ⟨rfl, rfl⟩) :
    St (ρ ++ [v]) R F (H ++ [o']) w' := by
  have keep : ∀ {h0 : Hp}, Sub h0 w → Sub h0 w' := fun hs0 b o ho => by rw [hw b (hs0.lt ho)]; exact hs0 b o ho
  have fresh : ∀ {h0 : Hp}, Sub h0 w → ∀ b o o2, h0 b o → h' b o2 → False := fun hs0 b o o2 ho h2 => by
    have := hs0.lt ho; have := (hnew b o2 h2).1; omega
  refine ⟨fun m => if m = H.length then h' else hs m, ?_⟩
  refine { len := by simp [h.len], den := fun m o u hm hu => ?_, apart := fun m k hmk b' o1 o2 h1 h2 => ?_, own := fun m b' o ho => ?_, apR := fun m b' o1 o2 h1 h2 => ?_,
           apF := fun m b' o1 o2 h1 h2 => ?_, subR := keep h.subR, subF := keep h.subF, apRF := h.apRF, io := ⟨hio.1.trans h.io.1, hio.2.trans h.io.2⟩ }
  · by_cases e : m = H.length
    · subst e
      rw [List.getElem?_append_right (Nat.le_refl _)] at hm
      rw [List.getElem?_append_right (by rw [h.len]; exact Nat.le_refl _), h.len] at hu
      simp at hm hu
      subst hm; subst hu
      simpa using hd
    · have hlt : m < H.length := by
        have := (List.getElem?_eq_some_iff.1 hm).1
        simp at this; omega
      rw [List.getElem?_append_left hlt] at hm
      rw [List.getElem?_append_left (by rw [h.len]; exact hlt)] at hu
      simp only [e, if_false]
      exact (h.den m o u hm hu).mono (HLe.refl _) (Ext.append _ _)
  · split at h1 <;> split at h2
    · rename_i e1 e2; exact hmk (e1.trans e2.symm)
    · exact fresh (h.own k) b' o2 o1 h2 h1
    · exact fresh (h.own m) b' o1 o2 h1 h2
    · exact h.apart m k hmk b' o1 o2 h1 h2
  · split at ho
    · exact (hnew b' o ho).2
    · exact keep (h.own m) b' o ho
  · split at h1
    · exact fresh h.subR b' o2 o1 h2 h1
    · exact h.apR m b' o1 o2 h1 h2
  · split at h1
    · exact fresh h.subF b' o2 o1 h2 h1
    · exact h.apF m b' o1 o2 h1 h2

/-- an owned block goes over to a new name -/
theorem StW.move {ρ : List Value} {R : Hp} {F : Fr} {H : List SO} {w w' : World} {hs : Nat → Hp} (h : StW ρ R F H w hs) {n b : Nat} {obj obj' : Obj} {o' : SO} {v : Value}
    (hb : hs n = single b obj) (hnl : n < H.length) (hw : w'.heap[b]? = some obj') (hne : ∀ b', b' ≠ b → w'.heap[b']? = w.heap[b']?) (hd : SODen R (ρ ++ [v]) v o' (single b obj')) (hio : w'.os = w.os ∧ w'.output = w.output := by exact ⟨rfl, rfl⟩) :
    St (ρ ++ [v]) R F (setO H n .gone ++ [o']) w' := by
  have keep : ∀ m, m ≠ n → ∀ b' o, hs m b' o → b' ≠ b := fun m hm b' o ho e => h.apart m n hm b' o obj ho (by rw [hb]; exact ⟨e, rfl⟩)
  have keepR : ∀ b' o, R b' o → b' ≠ b := fun b' o ho e => h.apR n b' obj o (by rw [hb]; exact ⟨e, rfl⟩) ho
  have keepF : ∀ b' o, F b' o → b' ≠ b := fun b' o ho e => h.apF n b' obj o (by rw [hb]; exact ⟨e, rfl⟩) ho
  have hl : (setO H n .gone).length = H.length := by rw [setO_eq, List.length_set]
  refine ⟨fun m => if m = H.length then single b obj' else if m = n then emp else hs m, ?_⟩
  refine { len := by simp [h.len, hl], den := fun m o u hm hu => ?_, apart := fun m k hmk b' o1 o2 h1 h2 => ?_, own := fun m b' o ho => ?_, apR := fun m b' o1 o2 h1 h2 => ?_,
           apF := fun m b' o1 o2 h1 h2 => ?_, subR := fun b' o ho => by rw [hne b' (keepR b' o ho)]; exact h.subR b' o ho, subF := fun b' o ho => by rw [hne b' (keepF b' o ho)]; exact h.subF b' o ho, apRF := h.apRF, io := ⟨hio.1.trans h.io.1, hio.2.trans h.io.2⟩ }
  · by_cases e : m = H.length
    · subst e
      rw [List.getElem?_append_right (by rw [hl]; exact Nat.le_refl _), hl] at hm
      rw [List.getElem?_append_right (by rw [h.len]; exact Nat.le_refl _), h.len] at hu
      simp at hm hu
      subst hm; subst hu
      simpa using hd
    · have hlt : m < H.length := by
        have := (List.getElem?_eq_some_iff.1 hm).1
        simp [hl] at this; omega
      rw [List.getElem?_append_left (by rw [hl]; exact hlt), setO_eq] at hm
      rw [List.getElem?_append_left (by rw [h.len]; exact hlt)] at hu
      simp only [e, if_false]
      by_cases e2 : m = n
      · subst e2
        rw [List.getElem?_set_self hlt] at hm
        cases hm; trivial
      · rw [List.getElem?_set_ne (Ne.symm e2)] at hm
        simp only [e2, if_false]
        exact (h.den m o u hm hu).mono (HLe.refl _) (Ext.append _ _)
  · split at h1 <;> split at h2
    · rename_i e1 e2; exact hmk (e1.trans e2.symm)
    · split at h2
      · exact h2
      · rename_i e2; exact keep k e2 b' o2 h2 h1.1
    · split at h1
      · exact h1
      · rename_i e1; exact keep m e1 b' o1 h1 h2.1
    · split at h1
      · exact h1
      · split at h2
        · exact h2
        · exact h.apart m k hmk b' o1 o2 h1 h2
  · split at ho
    · obtain ⟨rfl, rfl⟩ := ho; exact hw
    · split at ho
      · exact ho.elim
      · rename_i e; rw [hne b' (keep m e b' o ho)]; exact h.own m b' o ho
  · split at h1
    · exact keepR b' o2 h2 h1.1
    · split at h1
      · exact h1
      · exact h.apR m b' o1 o2 h1 h2
  · split at h1
    · exact keepF b' o2 h2 h1.1
    · split at h1
      · exact h1
      · exact h.apF m b' o1 o2 h1 h2

/-- an object is let go -/
theorem St.drop {ρ : List Value} {R : Hp} {F : Fr} {H : List SO} {w : World} (h : St ρ R F H w) (n : Nat) : St ρ R F (setO H n .gone) w := by
  obtain ⟨hs, h⟩ := h
  refine ⟨hs, { h with len := by rw [h.len, setO_eq, List.length_set], den := fun m o u hm hu => ?_ }⟩
  rw [setO_eq] at hm
  by_cases e : m = n
  · subst e
    have hlt : m < H.length := by
      have := (List.getElem?_eq_some_iff.1 hm).1
      simpa using this
    rw [List.getElem?_set_self hlt] at hm
    cases hm; trivial
  · rw [List.getElem?_set_ne (Ne.symm e)] at hm
    exact h.den m o u hm hu
end Go.V
