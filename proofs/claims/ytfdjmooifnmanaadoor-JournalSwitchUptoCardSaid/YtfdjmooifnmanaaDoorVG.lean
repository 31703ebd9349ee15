/- Renaming: a callee's names among the caller's, a state's names among those of another one. -/
import Derived.Test.YtfdjmooifnmanaaDoorVM
namespace Go.V

mutual
def nlS (m : Nat) : SV → Bool
  | .ptr n _ => Nat.blt n m
  | .elp n _ _ _ => Nat.blt n m
  | .ref n => Nat.blt n m
  | .agg l => nlL m l
  | .tup l => nlL m l
  | .fn _ l => nlL m l
  | .ifc _ s => nlS m s
  | _ => true
def nlL (m : Nat) : List SV → Bool
  | [] => true
  | s :: l => nlS m s && nlL m l
end
def nlE (m : Nat) : Env → Bool
  | [] => true
  | (_, v) :: r => nlS m v && nlE m r
def nlO (m : Nat) : List SO → Bool
  | [] => true
  | o :: r => (match o with
    | .cells l _ => nlL m l
    | .abs ns _ => ns.all (Nat.blt · m)
    | _ => true) && nlO m r

structure SLe (a b : SV) : Prop where
  h : ∀ R ρ v, Den R ρ a v → Den R ρ b v
structure OLe (a b : SO) : Prop where
  h : ∀ R ρ v h, SODen R ρ v a h → SODen R ρ v b h
theorem SLe.rfl {a : SV} : SLe a a := ⟨fun _ _ _ h => h⟩
theorem OLe.rfl {a : SO} : OLe a a := ⟨fun _ _ _ _ h => h⟩
theorem SLe.of {a b : SV} (h : a = b) : SLe a b := h ▸ SLe.rfl
theorem OLe.of {a b : SO} (h : a = b) : OLe a b := h ▸ OLe.rfl
theorem OLe.gone {a : SO} : OLe a .gone := ⟨fun _ _ _ _ _ => trivial⟩
theorem SLe.nil {E : Type} {d : E} {k : Nat} {enc : E → List SV} : SLe .nils (.ro E d k enc []) := ⟨fun _ _ _ h => by cases h; exact .roN⟩


/-- the caller's name of a callee's name; new ones come behind the caller's -/
def sgn : List Nat → Nat → Nat → Nat
  | [], base, n => base + n
  | x :: _, _, 0 => x
  | _ :: r, base, n + 1 => sgn r base n

mutual
def renS (f : Nat → Nat) : SV → SV
  | .ptr n off => .ptr (f n) off
  | .elp n i k off => .elp (f n) i k off
  | .ref n => .ref (f n)
  | .agg l => .agg (renL f l)
  | .tup l => .tup (renL f l)
  | .fn g l => .fn g (renL f l)
  | .ifc t s => .ifc t (renS f s)
  | .int k n => .int k n
  | .bool b => .bool b
  | .str s => .str s
  | .nilp => .nilp
  | .nils => .nils
  | .nili => .nili
  | .ro E d k enc xs => .ro E d k enc xs
  | .roe E d k enc xs i off => .roe E d k enc xs i off
  | .gp g off => .gp g off
  | .val v => .val v
  | .unk => .unk
def renL (f : Nat → Nat) : List SV → List SV
  | [] => []
  | s :: l => renS f s :: renL f l
end

def renO (f : Nat → Nat) : SO → SO
  | .cells l t => .cells (renL f l) t
  | .abs ns A => .abs (ns.map f) A
  | .gone => .gone
  | .list c xs => .list c xs
  | .arr c xs => .arr c xs

def plug (f : Nat → Nat) : List SO → List Nat → List SO → List SO
  | H, [], r => H ++ r.map (renO f)
  | H, s :: σ, o :: r => plug f (setO H s (renO f o)) σ r
  | H, _ :: _, [] => H

def forceL (l : List SV) (K : List SV → Prop) : Prop :=
  match l with
  | [] => K []
  | s :: r => forceS s fun s => forceL r fun r => K (s :: r)
def forceNs (l : List Nat) (K : List Nat → Prop) : Prop :=
  match l with
  | [] => K []
  | n :: r => forceN n fun n => forceNs r fun r => K (n :: r)
theorem forceNs_iff : ∀ {l : List Nat} {K : List Nat → Prop}, forceNs l K ↔ K l
  | [], _ => Iff.rfl
  | n :: r, K => by unfold forceNs; rw [forceN_iff]; exact forceNs_iff
def forceO (o : SO) (K : SO → Prop) : Prop :=
  match o with
  | .gone => K .gone
  | .cells l t => forceL l fun l => K (.cells l t)
  | .list c xs => K (.list c xs)
  | .arr c xs => K (.arr c xs)
  | .abs ns A => forceNs ns fun ns => K (.abs ns A)
def forceH : List SO → (List SO → Prop) → Prop
  | [], K => K []
  | o :: r, K => forceO o fun o => forceH r fun r => K (o :: r)
theorem forceL_iff : ∀ {l : List SV} {K : List SV → Prop}, forceL l K ↔ K l
  | [], _ => Iff.rfl
  | s :: r, K => by unfold forceL; rw [forceS_iff]; exact forceL_iff
theorem forceO_iff {o : SO} {K : SO → Prop} : forceO o K ↔ K o := by
  cases o <;> first | exact Iff.rfl | exact forceL_iff | exact forceNs_iff
theorem forceH_iff : ∀ {H : List SO} {K : List SO → Prop}, forceH H K ↔ K H
  | [], _ => Iff.rfl
  | o :: r, K => by unfold forceH; rw [forceO_iff]; exact forceH_iff

section
variable {R : Hp} {F : Fr} {ρ ρl : List Value} {H : List SO} {w : World}

theorem sgn_lt : ∀ {σ : List Nat} {base n : Nat}, n < σ.length → σ[n]? = some (sgn σ base n)
  | [], _, _, h => by simp at h
  | x :: _, _, 0, _ => by simp [sgn]
  | _ :: r, base, n + 1, h => by simpa [sgn] using sgn_lt (σ := r) (base := base) (n := n) (by simpa using h)
theorem sgn_ge : ∀ {σ : List Nat} {base n : Nat}, σ.length ≤ n → sgn σ base n = base + (n - σ.length)
  | [], _, _, _ => by simp [sgn]
  | x :: r, base, 0, h => by simp at h
  | x :: r, base, n + 1, h => by simp [sgn, sgn_ge (σ := r) (base := base) (n := n) (by simpa using h)]

mutual
theorem den_ren {f : Nat → Nat} (hf : ∀ (n : Nat) (x : Value), ρl[n]? = some x → ρ[f n]? = some x) : ∀ {s : SV} {v : Value}, Den R ρl s v → Den R ρ (renS f s) v
  | .int _ _, _, h => by cases h; exact .int _ _
  | .bool _, _, h => by cases h; exact .bool _
  | .str _, _, h => by cases h; exact .str _
  | .nilp, _, h => by cases h; exact .nilp
  | .nils, _, h => by cases h; exact .nils
  | .nili, _, h => by cases h; exact .nili
  | .ptr _ _, _, h => by cases h with | ptr h => exact .ptr (hf _ _ h)
  | .elp _ _ _ _, _, h => by
    cases h with
    | elpS h => exact .elpS (hf _ _ h)
    | elpP h => exact .elpP (hf _ _ h)
  | .ref _, _, h => by cases h with | ref h h1 => exact .ref (hf _ _ h) h1
  | .agg l, _, h => by
    obtain ⟨vs, rfl, hl⟩ := den_agg h
    have := denL_ren hf hl
    exact .agg this.1 this.2
  | .tup l, _, h => by
    obtain ⟨vs, rfl, hl⟩ := den_tup h
    have := denL_ren hf hl
    exact .tup this.1 this.2
  | .fn g l, _, h => by
    cases h with
    | fn h1 h2 =>
      have := denL_ren hf ⟨h1, h2⟩
      exact .fn this.1 this.2
  | .ifc t s, _, h => by cases h with | ifc h => exact .ifc (den_ren hf h)
  | .ro _ _ _ _ _, _, h => h.closed rfl _
  | .roe _ _ _ _ _ _ _, _, h => h.closed rfl _
  | .gp _ _, _, h => h.closed rfl _
  | .val _, _, h => by cases h; exact .val _
  | .unk, _, h => by cases h; exact .unk _
theorem denL_ren {f : Nat → Nat} (hf : ∀ (n : Nat) (x : Value), ρl[n]? = some x → ρ[f n]? = some x) : ∀ {l : List SV} {vs : List Value}, DenL R ρl l vs → DenL R ρ (renL f l) vs
  | [], vs, h => by rw [h.nil_inv]; exact .nil
  | s :: l, vs, h => by
    obtain ⟨v, vs', rfl, h1, h2⟩ := h.cons_inv
    exact .cons (den_ren hf h1) (denL_ren hf h2)
end

mutual
theorem den_unren {f : Nat → Nat} {m : Nat} (hf : ∀ (n : Nat) (x : Value), n < m → ρ[f n]? = some x → ρl[n]? = some x) : ∀ {s : SV} {v : Value}, nlS m s = true → Den R ρ (renS f s) v → Den R ρl s v
  | .int _ _, _, _, h => by cases h; exact .int _ _
  | .bool _, _, _, h => by cases h; exact .bool _
  | .str _, _, _, h => by cases h; exact .str _
  | .nilp, _, _, h => by cases h; exact .nilp
  | .nils, _, _, h => by cases h; exact .nils
  | .nili, _, _, h => by cases h; exact .nili
  | .ptr _ _, _, hn, h => by cases h with | ptr h => exact .ptr (hf _ _ (Nat.le_of_ble_eq_true hn) h)
  | .elp _ _ _ _, _, hn, h => by
    cases h with
    | elpS h => exact .elpS (hf _ _ (Nat.le_of_ble_eq_true hn) h)
    | elpP h => exact .elpP (hf _ _ (Nat.le_of_ble_eq_true hn) h)
  | .ref _, _, hn, h => by cases h with | ref h h1 => exact .ref (hf _ _ (Nat.le_of_ble_eq_true hn) h) h1
  | .agg l, _, hn, h => by
    obtain ⟨vs, rfl, hl⟩ := den_agg h
    have := denL_unren hf hn hl
    exact .agg this.1 this.2
  | .tup l, _, hn, h => by
    obtain ⟨vs, rfl, hl⟩ := den_tup h
    have := denL_unren hf hn hl
    exact .tup this.1 this.2
  | .fn g l, _, hn, h => by
    cases h with
    | fn h1 h2 =>
      have := denL_unren hf hn ⟨h1, h2⟩
      exact .fn this.1 this.2
  | .ifc t s, _, hn, h => by cases h with | ifc h => exact .ifc (den_unren hf hn h)
  | .ro _ _ _ _ _, _, _, h => Den.closed rfl h _
  | .roe _ _ _ _ _ _ _, _, _, h => Den.closed rfl h _
  | .gp _ _, _, _, h => Den.closed rfl h _
  | .val _, _, _, h => by cases h; exact .val _
  | .unk, _, _, h => by cases h; exact .unk _
theorem denL_unren {f : Nat → Nat} {m : Nat} (hf : ∀ (n : Nat) (x : Value), n < m → ρ[f n]? = some x → ρl[n]? = some x) : ∀ {l : List SV} {vs : List Value}, nlL m l = true → DenL R ρ (renL f l) vs → DenL R ρl l vs
  | [], vs, _, h => by rw [show vs = [] from h.nil_inv]; exact .nil
  | s :: l, vs, hn, h => by
    simp only [nlL, Bool.and_eq_true] at hn
    obtain ⟨v, vs', rfl, h1, h2⟩ := DenL.cons_inv h
    exact .cons (den_unren hf hn.1 h1) (denL_unren hf hn.2 h2)
end

theorem so_ren {f : Nat → Nat} (hf : ∀ (n : Nat) (x : Value), ρl[n]? = some x → ρ[f n]? = some x) {o : SO} {v : Value} {h : Hp} (hd : SODen R ρl v o h) : SODen R ρ v (renO f o) h := by
  cases o with
  | gone => trivial
  | cells l => obtain ⟨b, t, vs, e1, e2, e3, e4⟩ := hd; exact ⟨b, t, vs, e1, e2, denL_ren hf e3, e4⟩
  | list c xs => exact hd
  | arr c xs => exact hd
  | abs ns A =>
    obtain ⟨vs, e1, e2⟩ := hd
    refine ⟨vs, ?_, e2⟩
    rw [← e1, List.map_map]
    apply List.map_congr_left
    intro n hn
    obtain ⟨i, hi⟩ := List.getElem?_of_mem hn
    have h3 : (vs.map some)[i]? = some (ρl[n]?) := by rw [← e1]; simp [hi]
    simp at h3
    obtain ⟨x, hx, he⟩ := h3
    simp only [Function.comp]
    rw [← he, hf n x he.symm]

theorem so_unren {f : Nat → Nat} {m : Nat} (hf : ∀ (n : Nat) (x : Value), n < m → ρ[f n]? = some x → ρl[n]? = some x) {o : SO} {v : Value} {h : Hp}
    (hn : (match o with | .cells l _ => nlL m l | .abs ns _ => ns.all (Nat.blt · m) | _ => true) = true) (hd : SODen R ρ v (renO f o) h) : SODen R ρl v o h := by
  cases o with
  | gone => trivial
  | cells l => obtain ⟨b, t, vs, e1, e2, e3, e4⟩ := hd; exact ⟨b, t, vs, e1, e2, denL_unren hf hn e3, e4⟩
  | list c xs => exact hd
  | arr c xs => exact hd
  | abs ns A =>
    obtain ⟨vs, e1, e2⟩ := hd
    refine ⟨vs, ?_, e2⟩
    rw [← e1, List.map_map]
    apply List.map_congr_left
    intro n hnm
    have hlt : n < m := Nat.le_of_ble_eq_true (List.all_eq_true.1 hn n hnm)
    obtain ⟨i, hi⟩ := List.getElem?_of_mem hnm
    have h3 : (vs.map some)[i]? = some (ρ[f n]?) := by rw [← e1, List.map_map]; simp [hi]
    simp at h3
    obtain ⟨x, hx, he⟩ := h3
    simp only [Function.comp]
    rw [← he, hf n x hlt he.symm]

theorem plug_len {f : Nat → Nat} : ∀ (σ : List Nat) (H r : List SO), σ.length ≤ r.length → (plug f H σ r).length = H.length + (r.length - σ.length)
  | [], H, r, _ => by simp [plug]
  | s :: σ, H, [], h => by simp at h
  | s :: σ, H, o :: r, h => by simp only [plug]; rw [plug_len σ _ r (by simpa using h), setO_eq]; simp

theorem plug_new {f : Nat → Nat} : ∀ (σ : List Nat) (H r : List SO) (n : Nat), σ.length ≤ r.length → (plug f H σ r)[H.length + n]? = (r[σ.length + n]?).map (renO f)
  | [], H, r, n, _ => by
    simp only [plug]
    rw [List.getElem?_append_right (by omega)]
    simp
  | s :: σ, H, [], n, h => by simp at h
  | s :: σ, H, o :: r, n, h => by
    simp only [plug]
    have := plug_new (f := f) σ (setO H s (renO f o)) r n (by simpa using h)
    rw [setO_eq, List.length_set] at this
    rw [setO_eq, this, List.length_cons, show σ.length + 1 + n = (σ.length + n) + 1 by omega, List.getElem?_cons_succ]

theorem plug_old {f : Nat → Nat} : ∀ (σ : List Nat) (H r : List SO) (n : Nat), σ.length ≤ r.length → n ∉ σ → n < H.length → (plug f H σ r)[n]? = H[n]?
  | [], H, r, n, _, _, hn => by simp [plug, List.getElem?_append_left hn]
  | s :: σ, H, [], n, h, _, _ => by simp at h
  | s :: σ, H, o :: r, n, h, hns, hn => by
    simp only [plug]
    have h1 : n ≠ s := fun e => hns (e ▸ List.mem_cons_self)
    rw [plug_old (f := f) σ (setO H s (renO f o)) r n (by simpa using h) (fun hm => hns (List.mem_cons_of_mem _ hm)) (by rw [setO_eq, List.length_set]; exact hn), setO_eq, List.getElem?_set_ne (Ne.symm h1)]

theorem plug_at {f : Nat → Nat} : ∀ (σ : List Nat) (H r : List SO) (i n : Nat), σ.length ≤ r.length → σ.Nodup → σ[i]? = some n → n < H.length → (plug f H σ r)[n]? = (r[i]?).map (renO f)
  | [], H, r, i, n, _, _, hi, _ => by simp at hi
  | s :: σ, H, [], i, n, h, _, _, _ => by simp at h
  | s :: σ, H, o :: r, i, n, h, hd, hi, hn => by
    simp only [plug]
    obtain ⟨hs, hd⟩ := List.nodup_cons.1 hd
    cases i with
    | zero =>
      simp at hi; subst hi
      rw [plug_old σ _ r s (by simpa using h) hs (by rw [setO_eq, List.length_set]; exact hn), setO_eq, List.getElem?_set_self hn]
      simp
    | succ i =>
      rw [plug_at σ _ r i n (by simpa using h) hd (by simpa using hi) (by rw [setO_eq, List.length_set]; exact hn)]
      simp

/-- which of the callee's names a caller's name is -/
theorem idx_of : ∀ {σ : List Nat}, σ.Nodup → ∀ {i j n : Nat}, σ[i]? = some n → σ[j]? = some n → i = j
  | [], _, i, j, n, h, _ => by simp at h
  | s :: σ, hd, 0, 0, n, _, _ => rfl
  | s :: σ, hd, 0, j + 1, n, h1, h2 => by
    simp at h1 h2; subst h1
    exact absurd (List.mem_of_getElem? h2) (List.nodup_cons.1 hd).1
  | s :: σ, hd, i + 1, 0, n, h1, h2 => by
    simp at h1 h2; subst h2
    exact absurd (List.mem_of_getElem? h1) (List.nodup_cons.1 hd).1
  | s :: σ, hd, i + 1, j + 1, n, h1, h2 => by
    have := idx_of (List.nodup_cons.1 hd).2 (i := i) (j := j) (by simpa using h1) (by simpa using h2)
    omega
end

/-- the callee's objects, found among the caller's -/
def sel : List Nat → (Nat → Nat) → List SO → List SO → Prop
  | [], _, _, [] => True
  | s :: σ, f, H, o :: r => nthO H s = renO f o ∧ sel σ f H r
  | _, _, _, _ => False

theorem sel_len : ∀ {σ : List Nat} {f : Nat → Nat} {H Hl : List SO}, sel σ f H Hl → σ.length = Hl.length
  | [], _, _, [], _ => rfl
  | _ :: σ, _, _, _ :: r, h => by simp [sel_len h.2]
  | [], _, _, _ :: _, h => h.elim
  | _ :: _, _, _, [], h => h.elim
theorem sel_get : ∀ {σ : List Nat} {f : Nat → Nat} {H Hl : List SO}, sel σ f H Hl → ∀ {i n : Nat} {o : SO}, σ[i]? = some n → Hl[i]? = some o → nthO H n = renO f o
  | [], _, _, [], _, i, n, o, h, _ => by simp at h
  | _ :: σ, _, _, _ :: r, h, 0, n, o, h1, h2 => by simp at h1 h2; subst h1; subst h2; exact h.1
  | _ :: σ, _, _, _ :: r, h, i + 1, n, o, h1, h2 => sel_get h.2 (by simpa using h1) (by simpa using h2)
  | [], _, _, _ :: _, h, _, _, _, _, _ => h.elim
  | _ :: _, _, _, [], h, _, _, _, _, _ => h.elim

def okSel (m : Nat) (base : Nat) : List Nat → Bool
  | [] => true
  | s :: σ => Nat.blt s base && !(σ.contains s) && okSel m base σ
theorem okSel_nodup {m base : Nat} : ∀ {σ : List Nat}, okSel m base σ = true → σ.Nodup ∧ ∀ s ∈ σ, s < base
  | [], _ => ⟨List.nodup_nil, fun _ h => by cases h⟩
  | s :: σ, h => by
    simp only [okSel, Bool.and_eq_true, Bool.not_eq_true'] at h
    obtain ⟨h1, h2⟩ := okSel_nodup h.2
    refine ⟨List.nodup_cons.2 ⟨by have := h.1.2; simpa using this, h1⟩, fun x hx => ?_⟩
    rcases List.mem_cons.1 hx with rfl | hx
    · exact Nat.le_of_ble_eq_true h.1.1
    · exact h2 x hx


section
variable {R : Hp} {F : Fr} {ρ ρ0 : List Value} {H : List SO} {w : World}
theorem nlE_look {m : Nat} : ∀ {e : Env}, nlE m e = true → ∀ t, nlS m (look e t) = true
  | [], _, _ => rfl
  | (_, _) :: _, h, t => by
    simp only [nlE, Bool.and_eq_true] at h
    rw [look_cons]
    split
    · exact h.1
    · exact nlE_look h.2 t

theorem nlO_get {m : Nat} : ∀ {H : List SO}, nlO m H = true → ∀ (n : Nat) (o : SO), H[n]? = some o → (match o with | .cells l _ => nlL m l | .abs ns _ => ns.all (Nat.blt · m) | _ => true) = true
  | [], _, n, o, h => by simp at h
  | x :: H, h, n, o, ho => by
    simp only [nlO, Bool.and_eq_true] at h
    cases n with
    | zero => simp at ho; subst ho; exact h.1
    | succ n => exact nlO_get h.2 n o (by simpa using ho)


def renE (f : Nat → Nat) : Env → Env
  | [] => []
  | (s, v) :: r => (s, renS f v) :: renE f r

theorem renE_look {f : Nat → Nat} : ∀ (e : Env) (t : Nat), look (renE f e) t = renS f (look e t)
  | [], _ => rfl
  | (s, v) :: l, t => by
    simp only [renE]
    rw [look_cons, look_cons, renE_look l t]
    split <;> rfl

/-- the kept objects, under their new names -/
def LeR (f : Nat → Nat) (H : List SO) : List Nat → List SO → Prop
  | [], [] => True
  | s :: σ, o :: r => VAnd (OLe (nthO H s) (renO f o)) (LeR f H σ r)
  | _, _ => False

def idPre : Nat → Nat → List Nat → Bool
  | 0, _, _ => true
  | m + 1, i, s :: σ => Nat.beq s i && idPre m (i + 1) σ
  | _ + 1, _, [] => false
def okR (m0 n : Nat) (σ : List Nat) : Bool := okSel 0 n σ && idPre m0 0 σ

theorem leR_get {f : Nat → Nat} : ∀ {σ : List Nat} {H' : List SO}, LeR f H σ H' → σ.length = H'.length ∧ ∀ (i : Nat) (o' : SO), H'[i]? = some o' → ∃ s, σ[i]? = some s ∧ OLe (nthO H s) (renO f o')
  | [], [], _ => ⟨rfl, fun i o h => by simp at h⟩
  | s :: σ, o :: r, h => by
    obtain ⟨h1, h2⟩ := leR_get h.r
    refine ⟨by simp [h1], fun i x hx => ?_⟩
    cases i with
    | zero => simp at hx; subst hx; exact ⟨s, rfl, h.l⟩
    | succ i => simpa using h2 i x (by simpa using hx)
  | [], _ :: _, h => h.elim
  | _ :: _, [], h => h.elim

theorem idPre_get : ∀ {m i : Nat} {σ : List Nat}, idPre m i σ = true → ∀ j, j < m → σ[j]? = some (i + j)
  | 0, _, _, _, j, hj => by omega
  | m + 1, i, s :: σ, h, j, hj => by
    simp only [idPre, Bool.and_eq_true] at h
    have h1 := Nat.eq_of_beq_eq_true h.1
    cases j with
    | zero => simp [h1]
    | succ j =>
      have := idPre_get h.2 j (by omega)
      simp [this]; omega
  | _ + 1, _, [], h, _, _ => by simp [idPre] at h

theorem leR_ok {σ : List Nat} {H' : List SO} (hx : Ext ρ0 ρ) (hst : St ρ R F H w) (lo : LeR (sgn σ 0) H σ H') (ok : okR ρ0.length (lenO H) σ = true) (hno : nlO (lenO H') H' = true) :
    ∃ ρ', Ext ρ0 ρ' ∧ St ρ' R F H' w ∧ ∀ (n : Nat) (x : Value), n < H'.length → ρ[sgn σ 0 n]? = some x → ρ'[n]? = some x := by
  obtain ⟨hs, hst⟩ := hst
  rw [lenO_eq] at ok hno
  simp only [okR, Bool.and_eq_true] at ok
  obtain ⟨hnd, hlt⟩ := okSel_nodup ok.1
  obtain ⟨hlen, hget⟩ := leR_get lo
  have hval : ∀ s ∈ σ, ∃ v, ρ[s]? = some v := fun s hs' => ⟨_, List.getElem?_eq_getElem (by rw [hst.len]; exact hlt s hs')⟩
  let ρ' : List Value := σ.map fun s => ρ.getD s undef
  have hρ' : ∀ (i s : Nat), σ[i]? = some s → ρ'[i]? = ρ[s]? := fun i s hi => by
    obtain ⟨v, hv⟩ := hval s (List.mem_of_getElem? hi)
    simp only [ρ']
    rw [List.getElem?_map, hi, hv]
    simp [hv]
  have hback : ∀ (n : Nat) (x : Value), n < H'.length → ρ[sgn σ 0 n]? = some x → ρ'[n]? = some x := fun n x hn hxx => by
    rw [hρ' n _ (sgn_lt (by rw [hlen]; exact hn))]; exact hxx
  refine ⟨ρ', fun n v hv => ?_, ⟨fun i => match σ[i]? with | some s => hs s | none => emp, ?_⟩, hback⟩
  · have hn : n < ρ0.length := (List.getElem?_eq_some_iff.1 hv).1
    have := idPre_get ok.2 n hn
    rw [Nat.zero_add] at this
    rw [hρ' n n this]; exact hx n v hv
  · refine { len := by simp [ρ', hlen], den := fun i o u hi hu => ?_, apart := fun i j hij b o1 o2 g1 g2 => ?_, own := fun i b o hb => ?_, apR := fun i b o1 o2 g1 g2 => ?_, apF := fun i b o1 o2 g1 g2 => ?_, subR := hst.subR, subF := hst.subF, apRF := hst.apRF, io := hst.io }
    · obtain ⟨s, hsi, hle⟩ := hget i o hi
      simp only [hsi]
      rw [hρ' i s hsi] at hu
      have hl : s < H.length := hlt s (List.mem_of_getElem? hsi)
      have hn : nthO H s = H[s] := by rw [nthO_eq]; simp [hl]
      refine so_unren hback (nlO_get hno i o hi) (hle.h _ _ _ _ ?_)
      rw [hn]
      exact hst.den s _ u (List.getElem?_eq_getElem hl) hu
    · cases hi : σ[i]? with
      | none => simp only [hi] at g1; exact g1
      | some s =>
        cases hj : σ[j]? with
        | none => simp only [hj] at g2; exact g2
        | some t =>
          simp only [hi] at g1; simp only [hj] at g2
          exact hst.apart s t (fun e => hij (idx_of hnd hi (e ▸ hj))) b o1 o2 g1 g2
    · cases hi : σ[i]? with
      | none => simp only [hi] at hb; exact hb.elim
      | some s => simp only [hi] at hb; exact hst.own s b o hb
    · cases hi : σ[i]? with
      | none => simp only [hi] at g1; exact g1
      | some s => simp only [hi] at g1; exact hst.apR s b o1 o2 g1 g2
    · cases hi : σ[i]? with
      | none => simp only [hi] at g1; exact g1
      | some s => simp only [hi] at g1; exact hst.apF s b o1 o2 g1 g2
end
end Go.V
