/- Operations over symbolic states: what looks at no memory, and what reads. -/
import Derived.WalkKit
import Derived.Test.YtfdjmooifnmanaaDoorVA
namespace Go.V

abbrev Env := List (Nat × SV)

def look : Env → Nat → SV
  | [], _ => .unk
  | (s, v) :: r, t => bif Nat.beq s t then v else look r t

inductive SA : Type 1 where
  | t (n : Nat)
  | c (v : SV)

def evA (e : Env) : SA → SV
  | .t n => look e n
  | .c v => v

/-- a small number is brought into the open -/
def forceN (n : Nat) (K : Nat → Prop) : Prop :=
  match n with
  | 0 => K 0 | 1 => K 1 | 2 => K 2 | 3 => K 3 | 4 => K 4 | 5 => K 5 | 6 => K 6 | 7 => K 7 | 8 => K 8 | 9 => K 9
  | 10 => K 10 | 11 => K 11 | 12 => K 12 | 13 => K 13 | 14 => K 14 | 15 => K 15 | 16 => K 16 | 17 => K 17 | 18 => K 18 | 19 => K 19
  | 20 => K 20 | 21 => K 21 | 22 => K 22 | 23 => K 23 | 24 => K 24 | 25 => K 25 | 26 => K 26 | 27 => K 27 | 28 => K 28 | 29 => K 29
  | n => K n
theorem forceN_iff {n : Nat} {K : Nat → Prop} : forceN n K ↔ K n := by
  unfold forceN; split <;> exact Iff.rfl


/-- the value is brought into the open before the walk goes on -/
def forceS (v : SV) (K : SV → Prop) : Prop :=
  match v with
  | .int k n => K (.int k n)
  | .bool b => K (.bool b)
  | .str s => K (.str s)
  | .nilp => K .nilp
  | .nils => K .nils
  | .nili => K .nili
  | .ptr n off => forceN n fun n => K (.ptr n off)
  | .elp n i k off => forceN n fun n => K (.elp n i k off)
  | .ref n => forceN n fun n => K (.ref n)
  | .agg l => K (.agg l)
  | .tup l => K (.tup l)
  | .fn f caps => K (.fn f caps)
  | .ifc t s => K (.ifc t s)
  | .ro E d k enc xs => K (.ro E d k enc xs)
  | .roe E d k enc xs i off => K (.roe E d k enc xs i off)
  | .gp g off => K (.gp g off)
  | .val v => K (.val v)
  | .unk => K .unk

theorem forceS_iff {v : SV} {K : SV → Prop} : forceS v K ↔ K v := by
  cases v with
  | ptr n off => exact forceN_iff (K := fun n => K (.ptr n off))
  | elp n i k off => exact forceN_iff (K := fun n => K (.elp n i k off))
  | ref n => exact forceN_iff (K := fun n => K (.ref n))
  | _ => exact Iff.rfl

def nthS : List SV → Nat → SV
  | [], _ => .unk
  | v :: _, 0 => v
  | _ :: r, n + 1 => nthS r n

def lenS : List SV → Nat
  | [] => 0
  | _ :: l => lenS l + 1

def dropS : Nat → List SV → List SV
  | 0, l => l
  | _ + 1, [] => []
  | n + 1, _ :: l => dropS n l
def takeS : Nat → List SV → List SV
  | 0, _ => []
  | _ + 1, [] => []
  | n + 1, v :: l => v :: takeS n l
/-- l with vs in place of the cells from off on -/
def spliceS : List SV → Nat → List SV → List SV
  | l, _, [] => l
  | [], _, _ :: _ => []
  | _ :: l, 0, v :: vs => v :: spliceS l 0 vs
  | x :: l, n + 1, v :: vs => x :: spliceS l n (v :: vs)

theorem nthS_eq : ∀ (l : List SV) (n : Nat), nthS l n = l.getD n .unk
  | [], _ => by simp [nthS]
  | _ :: _, 0 => by simp [nthS]
  | _ :: r, n + 1 => by simp [nthS, nthS_eq r n]
theorem lenS_eq : ∀ l : List SV, lenS l = l.length
  | [] => rfl
  | _ :: l => by simp [lenS, lenS_eq l]
theorem dropS_eq : ∀ (n : Nat) (l : List SV), dropS n l = l.drop n
  | 0, _ => by simp [dropS]
  | _ + 1, [] => by simp [dropS]
  | n + 1, _ :: l => by simp [dropS, dropS_eq n l]
theorem takeS_eq : ∀ (n : Nat) (l : List SV), takeS n l = l.take n
  | 0, _ => by simp [takeS]
  | _ + 1, [] => by simp [takeS]
  | n + 1, _ :: l => by simp [takeS, takeS_eq n l]

def SV.cells : SV → List SV
  | .agg l => l
  | v => [v]

def okS : SV → Bool
  | .unk => false
  | .val _ => false
  | _ => true

structure VAnd (p q : Prop) : Prop where
  l : p
  r : q
structure VSide (p q : Prop) : Prop where
  l : p
  r : q
structure VIf (b : Bool) (p q : Prop) : Prop where
  t : b = true → p
  f : b = false → q
structure VHyp (p q : Prop) : Prop where
  h : p → q
inductive VWrap (k : IntKind) (n : Int) (K : Int → Prop) : Prop where
  | mk (r : Int) (h : k.wrap n = r) (c : K r)

theorem VIf.yes {p q : Prop} (h : p) : VIf true p q := ⟨fun _ => h, fun h => nomatch h⟩
theorem VIf.no {p q : Prop} (h : q) : VIf false p q := ⟨fun h => (nomatch h), fun _ => h⟩
theorem VIf.run {b : Bool} {p q : Prop} (h : VIf b p q) : (b = true ∧ p) ∨ (b = false ∧ q) := by
  cases b
  · exact .inr ⟨rfl, h.f rfl⟩
  · exact .inl ⟨rfl, h.t rfl⟩

/-! ### operations -/
inductive TK | i | s | b | p | l
  deriving DecidableEq
inductive SOp : Type 1 where
  -- look at no memory
  | mv (x : SA)
  | pick (c a b : SA)
  | nilc (x : SA)
  | bin (op : BinOp) (tk : TK) (x y : SA)
  | un (op : UnOp) (x : SA)
  | conv (k : IntKind) (x : SA)
  | fa (x : SA) (off : Nat)
  | fld (x : SA) (off size : Nat) (agg : Bool)
  | ext (x : SA) (i : Nat)
  | idx (x i : SA)
  | sub (x : SA) (lo hi : Option SA)
  | bld (zero : List SV) (parts : List (Nat × Nat × SA))
  | mki (t : TypeId) (x : SA)
  | mkf (f : FuncId) (caps : List SA)
  | mm (mx : Bool) (l : List SA)
  -- read
  | ld (x : SA) (size : Nat) (agg : Bool)
  | len (sl : Bool) (x : SA)
  | ia (x i : SA) (k : Nat)
  | iaa (x i : SA) (k len : Nat)
  | slc (k : Nat) (x : SA) (lo hi : Option SA)
  | b2s (x : SA)
  -- act
  | alloc (zero : List SV)
  | alloct (t : TypeId) (zero : List SV)
  | alloca (c : Codec) (xs : List c.E)
  | box (x : SA)
  | st (size : Nat) (a x : SA)
  | bsl (c : Codec) (n : Nat) (parts : List (Nat × Nat × SA))
  | mks (c : Codec) (z : c.E) (bytes : Nat) (x : SA)
  | app (ty : TypeId) (k bytes : Nat) (s x : SA)
  | apps (ty : TypeId) (s x : SA)
  | call (f : FuncId) (args : List SA)
  | calld (x : SA) (args : List SA)
  | pan (x : SA)
  | bad

def binI (op : BinOp) (k : IntKind) (a b : Int) (K : SV → Prop) : Prop :=
  match op with
  | .add => VWrap k (a + b) fun r => K (.int k r)
  | .sub => VWrap k (a - b) fun r => K (.int k r)
  | .mul => VWrap k (a * b) fun r => K (.int k r)
  | .quo => VSide (b ≠ 0) (VWrap k (a.tdiv b) fun r => K (.int k r))
  | .rem => VSide (b ≠ 0) (K (.int k (a.tmod b)))
  | .eql => K (.bool (decide (a = b)))
  | .neq => K (.bool (!decide (a = b)))
  | .lss => K (.bool (decide (a < b)))
  | .leq => K (.bool (decide (a ≤ b)))
  | .gtr => K (.bool (decide (b < a)))
  | .geq => K (.bool (decide (b ≤ a)))
  | .and => K (.int k (k.wrap (BitVec.ofInt k.bits a &&& BitVec.ofInt k.bits b).toNat))
  | .or => K (.int k (k.wrap (BitVec.ofInt k.bits a ||| BitVec.ofInt k.bits b).toNat))
  | .xor => K (.int k (k.wrap (BitVec.ofInt k.bits a ^^^ BitVec.ofInt k.bits b).toNat))
  | .andNot => K (.int k (k.wrap (BitVec.ofInt k.bits a &&& ~~~ BitVec.ofInt k.bits b).toNat))
  | _ => False

def binS (op : BinOp) (s t : Bytes) (K : SV → Prop) : Prop :=
  match op with
  | .add => VSide (s.length + t.length ≤ 9223372036854775807) (K (.str (s ++ t)))
  | .eql => K (.bool (decide (s = t)))
  | .neq => K (.bool (!decide (s = t)))
  | _ => False

def binB (op : BinOp) (b : Bool) (K : SV → Prop) : Prop :=
  match op with
  | .eql => K (.bool b)
  | .neq => K (.bool (!b))
  | _ => False

def kEq : IntKind → IntKind → Bool
  | .i8, .i8 | .i16, .i16 | .i32, .i32 | .i64, .i64 | .u8, .u8 | .u16, .u16 | .u32, .u32 | .u64, .u64 => true
  | _, _ => false
theorem kEq_eq {k k' : IntKind} (h : kEq k k' = true) : k = k' := by cases k <;> cases k' <;> first | rfl | cases h

def opBin (op : BinOp) (tk : TK) (x y : SV) (K : SV → Prop) : Prop :=
  match tk, x, y with
  | .i, .int k a, .int k' b =>
    match op with
    | .shl => VSide (0 ≤ b) (K (.int k (k.wrap (a * 2 ^ (min b.toNat k.bits)))))
    | .shr => VSide (0 ≤ b) (K (.int k (a.fdiv (2 ^ (min b.toNat k.bits)))))
    | op => bif kEq k k' then binI op k a b K else False
  | .s, .str s, .str t => binS op s t K
  | .b, .bool a, .bool b => binB op (a == b) K
  | .p, .nilp, .nilp => binB op true K
  | .p, .ptr _ _, .nilp => binB op false K
  | .p, .nilp, .ptr _ _ => binB op false K
  | .l, .nils, .nils => binB op true K
  | _, _, _ => False

/-- a row of cells with parts put in: offset, size, value -/
def fillS (e : Env) : List (Nat × Nat × SA) → List SV → (List SV → Prop) → Prop
  | [], l, K => K l
  | (off, size, x) :: r, l, K => forceS (evA e x) fun v =>
    bif okS v && Nat.beq (lenS v.cells) size && Nat.ble (off + size) (lenS l) then fillS e r (spliceS l off v.cells) K else False

def subS (s : Bytes) (lo hi : Option SV) (K : SV → Prop) : Prop :=
  match lo, hi with
  | none, none => K (.str s)
  | some (.int _ l), none => VSide (0 ≤ l ∧ l ≤ s.length) (K (.str (s.drop l.toNat)))
  | none, some (.int _ h) => VSide (0 ≤ h ∧ h ≤ s.length) (K (.str (s.take h.toNat)))
  | some (.int _ l), some (.int _ h) => VSide (0 ≤ l ∧ l ≤ h ∧ h ≤ s.length) (K (.str ((s.take h.toNat).drop l.toNat)))
  | _, _ => False

def mmS (mx : Bool) : SV → List SV → (SV → Prop) → Prop
  | .int k a, [], K => K (.int k a)
  | .int k a, .int _ b :: r, K => mmS mx (.int k (bif mx then max a b else min a b)) r K
  | _, _, _ => False

def addN (o off : Nat) : Nat := match o with | 0 => off | n + 1 => (n + 1) + off
theorem addN_eq (o off : Nat) : addN o off = o + off := by cases o <;> simp [addN]

/-- an operation that looks at no memory -/
def opW (o : SOp) (e : Env) (K : SV → Prop) : Prop :=
  match o with
  | .mv x => forceS (evA e x) K
  | .pick c a b =>
    match evA e c with
    | .bool v => VIf v (forceS (evA e a) K) (forceS (evA e b) K)
    | .val (.bool true) => forceS (evA e a) K
    | .val (.bool false) => forceS (evA e b) K
    | _ => False
  | .nilc x =>
    match evA e x with
    | .ptr n off => K (.ptr n off)
    | .elp n i k off => K (.elp n i k off)
    | .roe E d k enc xs i off => K (.roe E d k enc xs i off)
    | .gp g off => K (.gp g off)
    | .fn f caps => K (.fn f caps)
    | _ => False
  | .bin op tk x y => opBin op tk (evA e x) (evA e y) K
  | .un op x =>
    match op, evA e x with
    | .not, .bool b => K (.bool (!b))
    | .neg, .int k n => VWrap k (0 - n) fun r => K (.int k r)
    | .xor, .int k n => K (.int k (k.wrap (BitVec.ofInt k.bits (if k.signed then -1 else k.max) ^^^ BitVec.ofInt k.bits n).toNat))
    | _, _ => False
  | .conv k x =>
    match evA e x with
    | .int _ n => VWrap k n fun r => K (.int k r)
    | _ => False
  | .fa x f =>
    match evA e x with
    | .ptr n off => K (.ptr n (addN off f))
    | .elp n j k off => K (.elp n j k (addN off f))
    | .roe E d k enc xs j off => K (.roe E d k enc xs j (addN off f))
    | .gp g off => K (.gp g (addN off f))
    | _ => False
  | .fld x off size agg =>
    match evA e x with
    | .agg l => bif agg then (bif Nat.ble (off + size) (lenS l) then K (.agg (takeS size (dropS off l))) else False) else (bif Nat.blt off (lenS l) then forceS (nthS l off) K else False)
    | _ => False
  | .ext t i =>
    match evA e t with
    | .tup l => bif Nat.blt i (lenS l) then forceS (nthS l i) K else False
    | _ => False
  | .idx x i =>
    match evA e x, evA e i with
    | .str s, .int _ n => VSide (0 ≤ n ∧ n < s.length) (K (.int .u8 (s.getD n.toNat 0).toNat))
    | _, _ => False
  | .sub x lo hi =>
    match evA e x with
    | .str s => subS s (lo.map (evA e)) (hi.map (evA e)) K
    | _ => False
  | .bld zero parts => fillS e parts zero fun l => K (.agg l)
  | .mki t x => forceS (evA e x) fun v => K (.ifc t v)
  | .mkf f caps => K (.fn f (caps.map (evA e)))
  | .mm mx l =>
    match l.map (evA e) with
    | x :: r => mmS mx x r K
    | [] => False
  | _ => False

/-- a variable out of a row of cells -/
def loadC (size : Nat) (agg : Bool) (l : List SV) (off : Nat) (K : SV → Prop) : Prop :=
  bif agg then (bif Nat.ble (off + size) (lenS l) then K (.agg (takeS size (dropS off l))) else False)
  else (bif Nat.blt off (lenS l) then forceS (nthS l off) K else False)

structure Glob : Type where
  g : Hp → Prop
  mono : ∀ R R', HLe R R' → g R → g R'

/-- cells of a variable that lies in R from the beginning on -/
inductive VGcells (G : Glob) (g : Nat) (K : List SV → Prop) : Prop where
  | mk (l : List SV) (h : ∀ R, G.g R → ∃ t f vs, R g (.cells vs.toArray t f) ∧ DenL R [] l vs) (k : K l)

/-- an array that lies in R from the beginning on -/
structure GTab (G : Glob) (g : Nat) (c : Codec) (xs : List c.E) : Prop where
  h : ∀ R, G.g R → ∃ t f arr, R g (.cells arr t f) ∧ RowDen R c arr xs
inductive VGtab (G : Glob) (g : Nat) (K : (c : Codec) → List c.E → Prop) : Prop where
  | mk (c : Codec) (xs : List c.E) (h : GTab G g c xs) (k : K c xs)

/-- bytes that are read as a text -/
inductive VBytes (sv : SV) (H : List SO) (K : List Int → Prop) : Prop where
  | ref (m : Nat) (ty : TypeId) (xs : List Int) (h : sv = .ref m) (h2 : nthO H m = .list (byteC ty) xs) (k : K xs)
  | ro (ty : TypeId) (xs : List Int) (h : sv = .ro Int 0 1 (byteC ty).enc xs) (k : K xs)
  | nil (h : sv = .nils) (k : K [])

/-- an operation that reads memory -/
def opR (G : Glob) (o : SOp) (e : Env) (H : List SO) (K : SV → Prop) : Prop :=
  match o with
  | .b2s x => VBytes (evA e x) H fun xs => K (.str (toB xs))
  | .ld a size agg =>
    match evA e a with
    | .ptr n off =>
      match nthO H n with
      | .cells l _ => loadC size agg l off K
      | _ => False
    | .elp n j k off =>
      match nthO H n with
      | .list c xs => VSide (j < xs.length ∧ c.k = k) (loadC size agg (c.enc (xs.getD j c.dflt)) off K)
      | .arr c xs => VSide (j < xs.length ∧ c.k = k) (loadC size agg (c.enc (xs.getD j c.dflt)) off K)
      | _ => False
    | .roe _ d _ enc xs j off => VSide (j < xs.length) (loadC size agg (enc (xs.getD j d)) off K)
    | .gp g off => VGcells G g fun l => loadC size agg l off K
    | _ => False
  | _ => False

def slcS {E : Type} (d : E) (k : Nat) (enc : E → List SV) (xs : List E) (lo hi : Option SV) (K : SV → Prop) : Prop :=
  match lo, hi with
  | none, none => K (.ro E d k enc xs)
  | some (.int _ l), none => VSide (0 ≤ l ∧ l ≤ xs.length) (K (.ro E d k enc (xs.drop l.toNat)))
  | none, some (.int _ h) => VSide (0 ≤ h ∧ h ≤ xs.length) (K (.ro E d k enc (xs.take h.toNat)))
  | some (.int _ l), some (.int _ h) => VSide (0 ≤ l ∧ l ≤ h ∧ h ≤ xs.length) (K (.ro E d k enc ((xs.take h.toNat).drop l.toNat)))
  | _, _ => False

/-- an operation that looks at no memory, of whose operands the heap tells -/
def opX (G : Glob) (o : SOp) (e : Env) (H : List SO) (K : SV → Prop) : Prop :=
  match o with
  | .slc k' x lo hi =>
    match evA e x with
    | .ro _ d k enc xs => VSide (k = k') (slcS d k enc xs (lo.map (evA e)) (hi.map (evA e)) K)
    | _ => False
  | .len sl x =>
    match sl, evA e x with
    | false, .str s => K (.int .i64 s.length)
    | true, .nils => K (.int .i64 0)
    | true, .ro _ _ _ _ xs => VHyp (xs.length ≤ 140737488355328) (K (.int .i64 xs.length))
    | true, .ref n =>
      match nthO H n with
      | .list _ xs => VHyp (xs.length ≤ 140737488355328) (K (.int .i64 xs.length))
      | _ => False
    | _, _ => False
  | .ia x ix k =>
    match evA e x, evA e ix with
    | .ro E d k' enc xs, .int _ n => VSide (k' = k ∧ 0 ≤ n ∧ n < xs.length) (K (.roe E d k' enc xs n.toNat 0))
    | .ref m, .int _ n =>
      match nthO H m with
      | .list c xs => VSide (c.k = k ∧ 0 ≤ n ∧ n < xs.length) (K (.elp m n.toNat k 0))
      | _ => False
    | _, _ => False
  | .iaa x ix k len =>
    match evA e x, evA e ix with
    | .ptr m 0, .int _ n =>
      match nthO H m with
      | .arr c xs => VSide (c.k = k ∧ len ≤ xs.length ∧ 0 ≤ n ∧ n < len) (K (.elp m n.toNat k 0))
      | _ => False
    | .gp g 0, .int _ n => VGtab G g fun c xs => VSide (c.k = k ∧ len ≤ xs.length ∧ 0 ≤ n ∧ n < len) (K (.roe c.E c.dflt c.k c.enc xs n.toNat 0))
    | _, _ => False
  | _ => False

def opWX (G : Glob) (o : SOp) (e : Env) (H : List SO) (K : SV → Prop) : Prop :=
  match o with
  | .len sl x => opX G (.len sl x) e H K
  | .ia x i k => opX G (.ia x i k) e H K
  | .iaa x i k len => opX G (.iaa x i k len) e H K
  | .slc k x lo hi => opX G (.slc k x lo hi) e H K
  | o => opW o e K

/-! ### the given code beside the symbolic one -/
def cstB : SV → Value → Bool
  | .int k n, .int k' n' => k == k' && n == n'
  | .bool a, .bool b => a == b
  | .str s, .string t => decide (s = t.data.toList)
  | .nilp, .pointer none => true
  | .nils, .slice none 0 0 => true
  | .nili, .nilIface => true
  | _, _ => false

def cstL : List SV → List Value → Bool
  | [], [] => true
  | s :: l, v :: vs => cstB s v && cstL l vs
  | _, _ => false

def chkA : SA → Operand → Bool
  | .t n, .tmp m => n == m
  | .c (.gp g 0), .global g' => g == g'
  | .c (.fn f []), .func f' => f == f'
  | .c s, .const v => cstB s v
  | _, _ => false

def chkAL : List SA → List Operand → Bool
  | [], [] => true
  | s :: l, v :: vs => chkA s v && chkAL l vs
  | _, _ => false

def isAggT (u : TypeDesc) : Bool :=
  match u with
  | .struct _ | .array _ _ => true
  | _ => false

def chkOA : Option SA → Option Operand → Bool
  | none, none => true
  | some a, some x => chkA a x
  | _, _ => false

def sizeIs (P : Program) (t : TypeId) (n : Nat) : Bool := match P.info? t with | some i => i.size == n | none => false
def aggIs (P : Program) (t : TypeId) (b : Bool) : Bool := match P.underlying t with | some d => isAggT d == b | none => false
def zeroIs (P : Program) (t : TypeId) (l : List SV) : Bool :=
  match P.info? t with
  | some i => match i.zero with | some z => cstL l z.cells.toList | none => false
  | none => false

def chkParts (P : Program) (fs : Array Field) : List (Nat × Nat × SA) → List (Nat × Operand) → Bool
  | [], [] => true
  | (off, size, x) :: l, (i, y) :: r => (match fs[i]? with | some f => f.offset == off && sizeIs P f.type size | none => false) && chkA x y && chkParts P fs l r
  | _, _ => false

def chkW (P : Program) : SOp → Op → Bool
  | .mv x, .move y => chkA x y
  | .mv x, .assign y => chkA x y
  | .pick c a b, .pick c' a' b' => chkA c c' && chkA a a' && chkA b b'
  | .nilc x, .nilCheck y => chkA x y
  | .bin op tk x y, .binOp op' t x' y' _ => decide (op = op') && chkA x x' && chkA y y' &&
      (match P.underlying t, tk with | some .bool, .b | some (.int _), .i | some .string, .s | some (.pointer _), .p | some (.slice _), .l => true | _, _ => false)
  | .un op x, .unOp op' _ y => decide (op = op') && chkA x y
  | .conv k x, .convert s d y => chkA x y && (match P.underlying s, P.underlying d with | some (.int _), some (.int k') => k == k' | _, _ => false)
  | .fa x off, .fieldAddr s y f => chkA x y && (match P.underlying s with
      | some (.struct fs) => match fs[f]? with | some fd => fd.offset == off && (match P.info? fd.type with | some i => i.size != 0 | none => false) | none => false
      | _ => false)
  | .fld x off size agg, .field s y f => chkA x y && (match P.underlying s with
      | some (.struct fs) => match fs[f]? with | some fd => fd.offset == off && sizeIs P fd.type size && aggIs P fd.type agg | none => false
      | _ => false)
  | .ext x i, .extract y j => chkA x y && i == j
  | .idx x i, .index t y j => chkA x y && chkA i j && (match P.underlying t with | some .string => true | _ => false)
  | .sub x lo hi, .slice t y lo' hi' none => chkA x y && chkOA lo lo' && chkOA hi hi' && (match P.underlying t with | some .string => true | _ => false)
  | .bld zero parts, .build t ps => zeroIs P t zero && (match P.underlying t with | some (.struct fs) => chkParts P fs parts ps.toList && fs.all (fun f => (P.info? f.type).isSome) | _ => false)
  | .mki t x, .makeInterface t' y => t == t' && chkA x y && (match P.underlying t with | some (.interface _) => false | some _ => true | none => false)
  | .mkf f caps, .makeFunc (.func f') first captured => f == f' && first.isEmpty && chkAL caps captured.toList
  | .mm false l, .call { callee := .builtin .min, args, .. } => chkAL l args.toList
  | .mm true l, .call { callee := .builtin .max, args, .. } => chkAL l args.toList
  | _, _ => false

def chkR (P : Program) : SOp → Op → Bool
  | .ld x size agg, .load t y => chkA x y && sizeIs P t size && aggIs P t agg
  | .b2s x, .convert s d y => chkA x y && (match P.underlying s, P.underlying d with
      | some (.slice el), some .string => (match P.underlying el with | some (.int .u8) => true | _ => false)
      | _, _ => false)
  | _, _ => false

def chkX (P : Program) : SOp → Op → Bool
  | .len sl x, .call { callee := .builtin .len, args, argTypes } => match args.toList with
    | [y] => chkA x y && (match argTypes[0]? with | some t => (match P.underlying t, sl with | some .string, false | some (.slice _), true => true | _, _ => false) | none => false)
    | _ => false
  | .ia x i k, .indexAddr t y j => chkA x y && chkA i j && (match P.underlying t with
      | some (.slice el) => sizeIs P el k
      | _ => false)
  | .iaa x i k len, .indexAddr t y j => chkA x y && chkA i j && (match P.underlying t with
      | some (.array n el) => n == len && sizeIs P el k
      | _ => false)
  | .slc k x lo hi, .slice t y lo' hi' none => chkA x y && chkOA lo lo' && chkOA hi hi' && (match P.underlying t with | some (.slice el) => sizeIs P el k | _ => false)
  | _, _ => false

def chkWX (P : Program) (s : SOp) (o : Op) : Bool := chkW P s o || chkX P s o
end Go.V
