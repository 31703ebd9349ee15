/- Handy forms: functions that answer; states and results that are met to the sign. -/
import Derived.Test.YtfdjmooifnmanaaDoorVQ
import Derived.IntWalk
namespace Go.V

def pick : List Nat → List SO → List SO
  | [], _ => []
  | s :: σ, H => nthO H s :: pick σ H
def renH (f : Nat → Nat) : List SO → List SO
  | [] => []
  | o :: r => renO f o :: renH f r
theorem sel_of_pick {f : Nat → Nat} {H : List SO} : ∀ {σ : List Nat} {Hl : List SO}, pick σ H = renH f Hl → sel σ f H Hl
  | [], [], _ => trivial
  | s :: σ, o :: r, h => by
    simp only [pick, renH, List.cons.injEq] at h
    exact ⟨h.1, sel_of_pick h.2⟩
  | [], _ :: _, h => by simp [pick, renH] at h
  | _ :: _, [], h => by simp [pick, renH] at h
theorem leR_of_pick {f : Nat → Nat} {H : List SO} : ∀ {σ : List Nat} {Hl : List SO}, pick σ H = renH f Hl → LeR f H σ Hl
  | [], [], _ => trivial
  | s :: σ, o :: r, h => by
    simp only [pick, renH, List.cons.injEq] at h
    exact ⟨.of h.1, leR_of_pick h.2⟩
  | [], _ :: _, h => by simp [pick, renH] at h
  | _ :: _, [], h => by simp [pick, renH] at h

/-- A FUNCTION THAT ANSWERS. -/
structure Fun (P : Program) (G : Glob) (f : FuncId) (args : List SV) (H : List SO) (v : SV) (H' : List SO) : Prop where
  con : ∀ {K Kp : SV → List SO → Prop}, K v H' → Con P G f args H K Kp

section
variable {P : Program} {G : Glob} {f : FuncId} {args args' : List SV} {H Hl H0 H1 H2 H3 : List SO} {K Kp : SV → List SO → Prop} {v v0 : SV} {m0 : Nat}

theorem Fun.of (h : Con P G f args H (fun v1 H1 => v1 = v ∧ H1 = H0) (fun _ _ => False)) : Fun P G f args H v H0 :=
  ⟨fun k => h.mono (fun _ _ h => by obtain ⟨rfl, rfl⟩ := h; exact k) (fun _ _ h => h.elim)⟩

/-- a call -/
theorem Fun.call (h : Fun P G f args Hl v H1) (σ : List Nat) (k : forceS (renS (sgn σ (lenO H)) v) fun v => forceH (plug (sgn σ (lenO H)) H σ H1) fun H => K v H)
    (hargs : renL (sgn σ (lenO H)) args = args' := by rfl) (hsel : pick σ H = renH (sgn σ (lenO H)) Hl := by rfl) (hok : (okSel 0 (lenO H) σ && nlL (lenO Hl) args && nlO (lenO Hl) Hl) = true := by rfl) : Con P G f args' H K Kp :=
  Con.frame (h.con (K := fun v1 H2 => v1 = v ∧ H2 = H1) (Kp := fun _ _ => False) ⟨rfl, rfl⟩) σ hargs (sel_of_pick hsel) hok (fun _ _ h => by obtain ⟨rfl, rfl⟩ := h; exact k) (fun _ _ h => h.elim)

/-- the end of a function -/
theorem VRet.fin (σ : List Nat) (hv : v = renS (sgn σ 0) v0 := by rfl) (hH : pick σ H = renH (sgn σ 0) H0 := by rfl) (ok : (okR m0 (lenO H) σ && nlS (lenO H0) v0 && nlO (lenO H0) H0) = true := by rfl) :
    VRet m0 v H (fun v1 H1 => v1 = v0 ∧ H1 = H0) := .mk σ v0 H0 (.of hv) (leR_of_pick hH) ok ⟨rfl, rfl⟩

/-- the same contract, what lies there seen otherwise -/
theorem Fun.via (H1 : List SO) (he : HEnt H H1) (h : Fun P G f args H1 v H2) (H3 : List SO) (hb : HEnt H2 H3) (σ : List Nat) (hv : v = renS (sgn σ 0) v0 := by rfl) (hH : pick σ H3 = renH (sgn σ 0) H0 := by rfl)
    (ok : (okR (lenO H) (lenO H3) σ && nlS (lenO H0) v0 && nlO (lenO H0) H0) = true := by rfl) : Fun P G f args H v0 H0 :=
  .of (Con.post (Con.ghost H1 he (h.con (K := fun v1 H4 => v1 = v ∧ H4 = H2) (Kp := fun _ _ => False) ⟨rfl, rfl⟩)) (fun _ _ h => by obtain ⟨rfl, rfl⟩ := h; exact .ghost H3 hb (.fin σ hv hH ok)) (fun _ _ h => h.elim))

theorem Fun.eq (h : Fun P G f args H v H1) (hv : v = v0 := by rfl) (hH : H1 = H0 := by rfl) : Fun P G f args H v0 H0 := by subst hv hH; exact h

/-- at the end several objects are packed into one -/
theorem VRet.shut (n : Nat) (σ ns : List Nat) (L : List SO) (h : VRet m0 v (setO (gones σ H) n (pack ns L)) K) (hsel : pick (n :: σ) H = renH (sgn (n :: (σ ++ ns)) 0) L := by rfl)
    (hok : (okSel 0 (lenO H) (n :: σ) && ns.all (Nat.blt · (lenO H)) && nlO (lenO L + ns.length) L) = true := by rfl) : VRet m0 v H K :=
  .ghost _ (HEnt.close n σ ns L (sel_of_pick hsel) hok .rfl rfl) h
/-- a cell that holds no list, as one that holds an empty list of its own -/
theorem VRet.nilc (n i : Nat) (c : Codec) {l : List SV} {t : Option TypeId} (hn : nthO H n = .cells l t) (hi : nthS l i = .nils) (h : VRet m0 v (setO H n (.cells (spliceS l i [.ref (lenO H)]) t) ++ [.list c []]) K) : VRet m0 v H K :=
  .ghost _ (HEnt.nilCell n i c hn hi rfl) h

def SLeL : List SV → List SV → Prop
  | [], [] => True
  | a :: r, b :: r' => SLe a b ∧ SLeL r r'
  | _, _ => False
theorem SLeL.den {R : Hp} {ρ : List Value} : ∀ {a b : List SV} {vs : List Value}, SLeL a b → DenL R ρ a vs → DenL R ρ b vs
  | [], [], _, _, h => h
  | a :: r, b :: r', _, h, hd => by
    obtain ⟨v, vs', rfl, h1, h2⟩ := DenL.cons_inv hd
    exact DenL.cons (h.1.h _ _ _ h1) (SLeL.den h.2 h2)
  | [], _ :: _, _, h, _ => h.elim
  | _ :: _, [], _, h, _ => h.elim
/-- arguments seen as weaker ones -/
theorem Con.weak (args' : List SV) (hl : SLeL args args') (h : Con P G f args' H K Kp) : Con P G f args H K Kp :=
  ⟨fun ρ R F w vals hG hd hst => h.run ρ R F w vals hG (hl.den hd) hst⟩

def getE (e : Env) : Env → Env
  | [] => []
  | (s, _) :: r => (s, look e s) :: getE e r
theorem leE_of_get {g : Nat → Nat} {e : Env} : ∀ {e' : Env}, getE e e' = renE g e' → LeE e (renE g e')
  | [], _ => trivial
  | (s, v) :: r, h => by
    simp only [getE, renE, List.cons.injEq, Prod.mk.injEq, true_and] at h
    exact ⟨.of h.1, leE_of_get h.2⟩

/-- a loop's head is met -/
theorem VGo.eq {e e' : Env} {H H' : List SO} (σ : List Nat) (he : getE e e' = renE (sgn σ 0) e' := by rfl) (hH : pick σ H = renH (sgn σ 0) H' := by rfl) (ok : (okR m0 (lenO H) σ && nlE (lenO H') e' && nlO (lenO H') H') = true := by rfl) : VGo m0 e H e' H' :=
  .le (.mk σ (leE_of_get he) (leR_of_pick hH) ok)

/-- a loop's relation, over what meets p -/
theorem VLoop.on {vcb : Env → List SO → (SX → Env → List SO → Prop) → Prop} {e : Env} {K : SX → Env → List SO → Prop} {ι : Type} (p : ι → Prop) (I : ι → Env) (J : ι → List SO) (μ : ι → Nat) (g0 : ι) (hp : p g0) (h0 : VGo m0 e H (I g0) (J g0))
    (step : ∀ g, p g → vcb (I g) (J g) fun x e' H' => match x with
      | .normal => ∃ g' : {g // p g}, μ g'.1 < μ g ∧ VGo m0 e' H' (I g'.1) (J g'.1)
      | x => K x e' H') : VLoop m0 vcb e H K := .mk {g // p g} (fun g => I g.1) (fun g => J g.1) (fun g => μ g.1) ⟨g0, hp⟩ h0 (fun g => step g.1 g.2)

theorem VIf.pos {b : Bool} {p q : Prop} (hb : b = true) (h : p) : VIf b p q := ⟨fun _ => h, fun h => (by rw [hb] at h; cases h)⟩
theorem VIf.neg {b : Bool} {p q : Prop} (hb : b = false) (h : q) : VIf b p q := ⟨fun h => (by rw [hb] at h; cases h), fun _ => h⟩
theorem VIf.d {c : Prop} [Decidable c] {p q : Prop} (t : c → p) (f : ¬ c → q) : VIf (decide c) p q := ⟨fun h => t (of_decide_eq_true h), fun h => f (of_decide_eq_false h)⟩
theorem VIf.nd {c : Prop} [Decidable c] {p q : Prop} (t : ¬ c → p) (f : c → q) : VIf (!decide c) p q := ⟨fun h => t (by simpa using h), fun h => f (by simpa using h)⟩
theorem VIf.dt {c : Prop} [Decidable c] {p q : Prop} (hc : c) (h : p) : VIf (decide c) p q := .pos (decide_eq_true hc) h
theorem VIf.df {c : Prop} [Decidable c] {p q : Prop} (hc : ¬ c) (h : q) : VIf (decide c) p q := .neg (decide_eq_false hc) h
theorem VIf.ndt {c : Prop} [Decidable c] {p q : Prop} (hc : ¬ c) (h : p) : VIf (!decide c) p q := .pos (by simpa using hc) h
theorem VIf.ndf {c : Prop} [Decidable c] {p q : Prop} (hc : c) (h : q) : VIf (!decide c) p q := .neg (by simpa using hc) h
theorem VHyp.go {p q : Prop} (h : p → q) : VHyp p q := ⟨h⟩

theorem w64 {n : Int} (h : -9223372036854775808 ≤ n ∧ n ≤ 9223372036854775807) : IntKind.i64.wrap n = n := IntWalk.i64_in _ (by omega)
theorem wu64 {n : Int} (h : 0 ≤ n ∧ n ≤ 18446744073709551615) : IntKind.u64.wrap n = n := IntWalk.u64_in _ h
theorem wu32 {n : Int} (h : 0 ≤ n ∧ n ≤ 4294967295) : IntKind.u32.wrap n = n := IntWalk.u32_in _ h
theorem wu8 {n : Int} (h : 0 ≤ n ∧ n ≤ 255) : IntKind.u8.wrap n = n := IntWalk.u8_in _ h
theorem wdiv {n k : Nat} (h : n ≤ 9223372036854775807) : IntKind.i64.wrap ((n : Int).tdiv (k : Int)) = ((n / k : Nat) : Int) := by
  rw [← Int.ofNat_tdiv]
  have := Nat.div_le_self n k
  generalize n / k = q at *
  exact w64 (by omega)
theorem wdiv512 {n : Nat} (h : n ≤ 9223372036854775807) : IntKind.i64.wrap ((n : Int).tdiv 512) = ((n / 512 : Nat) : Int) := wdiv (k := 512) h
theorem wdiv2 {n : Nat} (h : n ≤ 9223372036854775807) : IntKind.i64.wrap ((n : Int).tdiv 2) = ((n / 2 : Nat) : Int) := wdiv (k := 2) h
theorem tmod_zero {n k : Nat} (h : n % k = 0) : (n : Int).tmod (k : Int) = 0 := by rw [← Int.ofNat_tmod, h]; rfl
theorem tmod_pos {n k : Nat} (h : ¬ n % k = 0) : ¬ (n : Int).tmod (k : Int) = 0 := by rw [← Int.ofNat_tmod]; omega
end
end Go.V
