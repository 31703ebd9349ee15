/- Code over symbolic states: what is to be shown of it, and that this is enough. -/
import Derived.Test.YtfdjmooifnmanaaDoorVG
namespace Go.V

inductive SX where
  | normal
  | ret
  | exit (n : Nat)

inductive SCode : Type 1 where
  | skip
  | reg (drw : Bool) (bef : List (List Nat)) (r : SR) (keep : Option (List Nat))
  | seq (a b : SCode)
  | cond (c : SA) (a b : SCode)
  | block (id : Nat) (b : SCode)
  | loop (b : SCode)
  | exit (id : Nat)
  | ret
  | bad

def pruneK (e : Env) : List Nat → Env → (Env → Prop) → Prop
  | [], acc, K => K acc
  | k :: r, acc, K => forceS (look e k) fun v => match v with
    | .unk => pruneK e r acc K
    | v => pruneK e r ((k, v) :: acc) K

def pruneO (keep : Option (List Nat)) (e : Env) (K : Env → Prop) : Prop :=
  match keep with
  | none => K e
  | some ks => pruneK e ks [] K

def LeE (e : Env) : Env → Prop
  | [] => True
  | (s, v) :: r => VAnd (SLe (look e s) v) (LeE e r)
/-- one state covers another one: σ are the kept names -/
inductive VLe (m0 : Nat) (e : Env) (H : List SO) (e' : Env) (H' : List SO) : Prop where
  | mk (σ : List Nat) (le : LeE e (renE (sgn σ 0) e')) (lo : LeR (sgn σ 0) H σ H') (ok : (okR m0 (lenO H) σ && nlE (lenO H') e' && nlO (lenO H') H') = true)

def frzE (n : Nat) (r : SV) : Env → Env
  | [] => []
  | (s, v) :: l => (s, frzS n r v) :: frzE n r l

/-- one state is covered by another one, behind ghost steps -/
inductive VGo (m0 : Nat) : Env → List SO → Env → List SO → Prop where
  | le {e e' : Env} {H H' : List SO} (h : VLe m0 e H e' H') : VGo m0 e H e' H'
  | ghost {e e' : Env} {H H' : List SO} (H2 : List SO) (he : HEnt H H2) (h : VGo m0 e H2 e' H') : VGo m0 e H e' H'
  | freeze {e e' : Env} {H H' : List SO} (n : Nat) (c : Codec) (xs : List c.E) (hn : nthO H n = .list c xs) (h : VGo m0 (frzE n (.ro c.E c.dflt c.k c.enc xs) e) (setO H n .gone) e' H') : VGo m0 e H e' H'
  | nil {e e' : Env} {H H' : List SO} (s : Nat) (c : Codec) (hl : look e s = .nils) (h : VGo m0 ((s, .ref (lenO H)) :: e) (H ++ [.list c []]) e' H') : VGo m0 e H e' H'

inductive VLoop (m0 : Nat) (vcb : Env → List SO → (SX → Env → List SO → Prop) → Prop) (e : Env) (H : List SO) (K : SX → Env → List SO → Prop) : Prop where
  | mk (ι : Type) (I : ι → Env) (J : ι → List SO) (μ : ι → Nat) (g0 : ι) (h0 : VGo m0 e H (I g0) (J g0))
      (step : ∀ g, vcb (I g) (J g) fun x e' H' => match x with
        | .normal => ∃ g', μ g' < μ g ∧ VGo m0 e' H' (I g') (J g')
        | x => K x e' H')

def vc (P : Program) (G : Glob) (m0 : Nat) (Kp : SV → List SO → Prop) : SCode → Env → List SO → (SX → Env → List SO → Prop) → Prop
  | .skip, e, H, K => K .normal e H
  | .reg _ _ r keep, e, H, K => vcR P G r e H (fun e H => pruneO keep e fun e => K .normal e H) Kp
  | .seq a b, e, H, K => vc P G m0 Kp a e H fun x e H => match x with
    | .normal => vc P G m0 Kp b e H K
    | x => K x e H
  | .cond c a b, e, H, K =>
    match evA e c with
    | .bool v => VIf v (vc P G m0 Kp a e H K) (vc P G m0 Kp b e H K)
    | .val (.bool true) => vc P G m0 Kp a e H K
    | .val (.bool false) => vc P G m0 Kp b e H K
    | _ => False
  | .block id b, e, H, K => vc P G m0 Kp b e H fun x e H => match x with
    | .exit n => bif Nat.beq n id then K .normal e H else K (.exit n) e H
    | x => K x e H
  | .loop b, e, H, K => VLoop m0 (fun e H K => vc P G m0 Kp b e H K) e H K
  | .exit n, e, H, K => K (.exit n) e H
  | .ret, e, H, K => K .ret e H
  | .bad, _, _, _ => False

def chkC (P : Program) (N : Nat) : SCode → Code → Bool
  | .skip, .skip => true
  | .reg drw bef r _, .region _ ops drw' => drw == drw' && chkSR P N ops r &&
      (bif drw then Region.noSelect ops && befOK ops bef && slotsOK ops bef && ctOK ops bef r.ct true [] [] && (ops.all fun o => match o.dst with | some d => decide (d < N) | none => true) else linOK ops.size 0 r.ct)
  | .seq a b, .seq a' b' => chkC P N a a' && chkC P N b b'
  | .cond c a b, .cond c' a' b' => chkA c c' && chkC P N a a' && chkC P N b b'
  | .block id b, .block id' b' => id == id' && chkC P N b b'
  | .loop b, .loop b' => chkC P N b b'
  | .exit n, .exit n' => n == n'
  | .ret, .ret => true
  | .bad, _ => true
  | _, _ => false

section
variable {P : Program} {N : Nat} {D : List Deferred} {F : Fr} {G : Glob} {ρ0 : List Value} {R0 : Hp}

def LQ (N : Nat) (D : List Deferred) (ρ0 : List Value) (R0 : Hp) (F : Fr) (G : Glob) (K : SX → Env → List SO → Prop) (Kp : SV → List SO → Prop) : Exit → Act → World → Prop
  | .normal, a, w => ∃ ρ R e H, Ext ρ0 ρ ∧ HLe R0 R ∧ G.g R ∧ EnvOK N D R ρ e a ∧ St ρ R F H w ∧ K .normal e H
  | .ret, a, w => ∃ ρ R e H, Ext ρ0 ρ ∧ HLe R0 R ∧ G.g R ∧ EnvOK N D R ρ e a ∧ St ρ R F H w ∧ K .ret e H
  | .exit n, a, w => ∃ ρ R e H, Ext ρ0 ρ ∧ HLe R0 R ∧ G.g R ∧ EnvOK N D R ρ e a ∧ St ρ R F H w ∧ K (.exit n) e H
  | .panic ch, a, w => a.defers = D ∧ ∃ ρ R H v sv, Ext ρ0 ρ ∧ HLe R0 R ∧ St ρ R F H w ∧ Den R ρ sv v ∧ Kp sv H ∧ ch = [{ v, recovered := false }]
  | _, _, _ => False

theorem prune_ok {R : Hp} {ρ : List Value} {e : Env} {a : Act} (he : EnvOK N D R ρ e a) {K : Env → Prop} : ∀ (ks : List Nat) (acc : Env), EnvOK N D R ρ acc a → pruneK e ks acc K → ∃ e', EnvOK N D R ρ e' a ∧ K e'
  | [], acc, ha, h => ⟨acc, ha, h⟩
  | k :: r, acc, ha, h => by
    have h := forceS_iff.1 h
    split at h
    · exact prune_ok he r acc ha h
    · exact prune_ok he r _ (ha.more (he.den k)) h

theorem pruneO_ok {R : Hp} {ρ : List Value} {e : Env} {a : Act} (he : EnvOK N D R ρ e a) {keep : Option (List Nat)} {K : Env → Prop} (h : pruneO keep e K) : ∃ e', EnvOK N D R ρ e' a ∧ K e' := by
  cases keep with
  | none => exact ⟨e, he, h⟩
  | some ks => exact prune_ok he ks [] ⟨he.size, fun t => .unk _, he.defers⟩ h

theorem leE_look {R : Hp} {ρ : List Value} {e : Env} {a : Act} (he : EnvOK N D R ρ e a) : ∀ {e' : Env}, LeE e e' → EnvOK N D R ρ e' a
  | [], _ => ⟨he.size, fun _ => .unk _, he.defers⟩
  | (s, _) :: _, h => (leE_look he h.r).more (h.l.h _ _ _ (he.den s))

theorem VLe.ok {R : Hp} {ρ : List Value} {w : World} {e e' : Env} {a : Act} {H H' : List SO} (h : VLe ρ0.length e H e' H') (hx : Ext ρ0 ρ) (he : EnvOK N D R ρ e a) (hst : St ρ R F H w) :
    ∃ ρ', Ext ρ0 ρ' ∧ EnvOK N D R ρ' e' a ∧ St ρ' R F H' w := by
  obtain ⟨σ, le, lo, ok⟩ := h
  simp only [Bool.and_eq_true] at ok
  obtain ⟨ρ', h1, h2, h3⟩ := leR_ok hx hst lo ok.1.1 ok.2
  refine ⟨ρ', h1, ⟨he.size, fun t => ?_, he.defers⟩, h2⟩
  have hne := ok.1.2
  rw [lenO_eq] at hne
  have := (leE_look he le).den t
  rw [renE_look] at this
  exact den_unren h3 (nlE_look hne t) this

theorem frzE_look {n : Nat} {r : SV} : ∀ (e : Env) (t : Nat), look (frzE n r e) t = frzS n r (look e t)
  | [], _ => rfl
  | (s, v) :: l, t => by
    simp only [frzE]
    rw [look_cons, look_cons, frzE_look l t]
    split <;> rfl

theorem VGo.ok {e e' : Env} {a : Act} {H H' : List SO} {m0 : Nat} (h : VGo m0 e H e' H') : ∀ {ρ0 : List Value} {R : Hp} {ρ : List Value} {w : World}, ρ0.length = m0 → Ext ρ0 ρ → EnvOK N D R ρ e a → St ρ R F H w →
    ∃ ρ' R', Ext ρ0 ρ' ∧ HLe R R' ∧ EnvOK N D R' ρ' e' a ∧ St ρ' R' F H' w := by
  induction h with
  | le h =>
    rintro ρ0 R ρ w rfl hx he hst
    obtain ⟨ρ', h1, h2, h3⟩ := h.ok hx he hst
    exact ⟨ρ', R, h1, HLe.refl _, h2, h3⟩
  | ghost H2 hg _ ih =>
    rintro ρ0 R ρ w hl hx he hst
    obtain ⟨ρ', R', h1, h2, h3⟩ := hg ρ R F w hst
    obtain ⟨ρ2, R2, g1, g2, g3, g4⟩ := ih hl (hx.trans h1) (he.mono h2 h1) h3
    exact ⟨ρ2, R2, g1, h2.trans g2, g3, g4⟩
  | freeze n c xs hn _ ih =>
    rintro ρ0 R ρ w hl hx he hst
    obtain ⟨R', h1, h2, h3⟩ := hst.freeze hn
    obtain ⟨ρ2, R2, g1, g2, g3, g4⟩ := ih hl hx ⟨he.size, fun t => by rw [frzE_look]; exact den_frz (he.den t) h1 h3, he.defers⟩ h2
    exact ⟨ρ2, R2, g1, h1.trans g2, g3, g4⟩
  | nil s c hl _ ih =>
    rintro ρ0 R ρ w hlen hx he hst
    obtain ⟨hs, hst⟩ := hst
    have hd := he.den s
    rw [hl] at hd
    rename_i H _ _
    have hnew : (ρ ++ [Value.slice none 0 0])[lenO H]? = some (Value.slice none 0 0) := by rw [lenO_eq, ← hst.len]; simp
    have h3 := hst.alloc (w' := w) (h' := emp) (o' := .list c []) (v := .slice none 0 0) (fun _ _ => rfl) (fun _ _ h => h.elim) (.inl ⟨rfl, rfl⟩)
    have he' := (he.mono (HLe.refl R) (Ext.append ρ [Value.slice none 0 0])).more (slot := s) (s := .ref (lenO H)) (by
      generalize a.tmps.getD s undef = u at hd
      cases hd
      exact .ref hnew rfl)
    exact ih hlen (hx.trans (Ext.append _ _)) he' h3

/-- a loop whose relation speaks of something that stands in no slot -/
theorem wp_loop_ghost {Q : Exit → Act → World → Prop} {c : Code} {ι : Type} (I : ι → Act → World → Prop) (μ : ι → Nat)
    (round : ∀ g a w, I g a w → c.wp P (Exit.then (fun a' w' => ∃ g', μ g' < μ g ∧ I g' a' w') Q) a w) : ∀ g a w, I g a w → (Code.loop c).wp P Q a w := by
  intro g a w h₀ b k cs
  have key : ∀ n g a w, μ g = n → I g a w →
      ∃ e a' w', Q e a' w' ∧ Arrives P (lone (b.at a (.code c :: .inLoop c :: k)) cs w) b k cs e a' w' := by
    intro n
    induction n using Nat.strongRecOn with
    | _ n ih =>
      intro g a w hn hI
      obtain ⟨e, a₁, w₁, hq, harr⟩ := round g a w hI b (.inLoop c :: k) cs
      cases e with
      | normal =>
        obtain ⟨g', hlt, hI₁⟩ := hq
        obtain ⟨e₂, a₂, w₂, hq₂, harr₂⟩ := ih (μ g') (hn ▸ hlt) g' a₁ w₁ rfl hI₁
        exact ⟨e₂, a₂, w₂, hq₂, .of_steps (Steps.trans harr (.one step_inLoop)) harr₂⟩
      | exit id => exact ⟨_, a₁, w₁, hq, .pass (x := .inLoop c) rfl (fun _ _ => .inl (by simp)) harr⟩
      | goto l => exact ⟨_, a₁, w₁, hq, .pass (x := .inLoop c) rfl (fun _ _ => .inl (by simp)) harr⟩
      | ret => exact ⟨_, a₁, w₁, hq, .pass (x := .inLoop c) rfl (fun _ _ => .inl (by simp)) harr⟩
      | panic ch => exact ⟨_, a₁, w₁, hq, .pass (x := .inLoop c) rfl (fun _ _ => .inl (by simp)) harr⟩
      | outgrown => exact ⟨_, a₁, w₁, hq, .pass (x := .inLoop c) rfl (fun _ _ => .inl (by simp)) harr⟩
  obtain ⟨e, a', w', hq, harr⟩ := key _ g a w rfl h₀
  exact ⟨e, a', w', hq, .of_steps (.one step_loop) harr⟩

theorem LQ.panicAct {K : SX → Env → List SO → Prop} {Kp : SV → List SO → Prop} (c : List PanicEntry) (a a' : Act) (w : World) (hd : a.defers = a'.defers) (h : LQ N D ρ0 R0 F G K Kp (.panic c) a w) : LQ N D ρ0 R0 F G K Kp (.panic c) a' w :=
  ⟨hd ▸ h.1, h.2⟩

/-- WHAT IS SHOWN OF THE SYMBOLIC CODE HOLDS OF THE CODE. -/
theorem vc_ok (hm : P.follows .mixedOrders = true) {Kp : SV → List SO → Prop} : ∀ (sc : SCode) (c : Code), chkC P N sc c = true → ∀ (K : SX → Env → List SO → Prop) (e : Env) (H : List SO) (ρ : List Value) (R : Hp) (a : Act) (w : World),
    Ext ρ0 ρ → HLe R0 R → G.g R → EnvOK N D R ρ e a → St ρ R F H w → vc P G ρ0.length Kp sc e H K → c.wp P (LQ N D ρ0 R0 F G K Kp) a w := by
  intro sc
  induction sc with
  | skip =>
    intro c hc K e H ρ R a w h1 h2 hG he hst h
    cases c <;> simp only [chkC] at hc <;> first | (cases hc; done) | skip
    exact wp_skip ⟨ρ, R, e, H, h1, h2, hG, he, hst, h⟩
  | reg drw bef r keep =>
    intro c hc K e H ρ R a w h1 h2 hG he hst h
    cases c <;> simp only [chkC] at hc <;> first | (cases hc; done) | skip
    rename_i id ops drw'
    simp only [Bool.and_eq_true, beq_iff_eq] at hc
    obtain ⟨⟨rfl, hsr⟩, hc⟩ := hc
    have hw : ∀ w : World, St ρ R F H w → wpC P ops (LQ N D ρ0 R0 F G K Kp) r.ct a w := fun w hst =>
      vcR_ok (ρ0 := ρ) (R0 := R) (K := fun e H => pruneO keep e fun e => K .normal e H) (Kp := Kp)
        (fun ρ' R' e' H' a' w' g1 g2 g3 g4 g5 => by
          obtain ⟨e2, he2, hk⟩ := pruneO_ok g3 g5
          exact ⟨ρ', R', e2, H', h1.trans g1, h2.trans g2, G.mono _ _ g2 hG, he2, g4, hk⟩)
        (fun ρ' R' H' a' w' v sv g1 g2 g3 g4 g5 g6 => ⟨g3, ρ', R', H', v, sv, h1.trans g1, h2.trans g2, g4, g5, g6, rfl⟩)
        r e H ρ R a w hsr (Ext.refl _) (HLe.refl _) hG he hst h
    cases drw with
    | true =>
      simp only [cond_true, Bool.and_eq_true] at hc
      obtain ⟨⟨⟨⟨hns, hb⟩, hsl⟩, hok⟩, hdst⟩ := hc
      refine wp_region_ct r.ct hm hns hb hsl hok (fun k d hd => ?_) (fun c a a' w hd h => LQ.panicAct c a a' w hd h) (hw _ (hst.world rfl))
      unfold dstOf at hd
      cases ho : ops[k]? with
      | none => simp [ho] at hd
      | some o =>
        simp [ho] at hd
        have := Array.all_eq_true_iff_forall_mem.1 hdst o (Array.mem_of_getElem? ho)
        rw [hd] at this
        rw [he.size]; simpa using this
    | false =>
      simp only [cond_false] at hc
      exact wp_region_lin r.ct hc (hw w hst)
  | seq x y ihx ihy =>
    intro c hc K e H ρ R a w h1 h2 hG he hst h
    cases c <;> simp only [chkC] at hc <;> first | (cases hc; done) | skip
    simp only [Bool.and_eq_true] at hc
    refine wp_seq (wp_mono (ihx _ hc.1 _ e H ρ R a w h1 h2 hG he hst h) fun ex a' w' hq => ?_)
    cases ex with
    | normal => obtain ⟨ρ', R', e', H', g1, g2, g3, g4, g5, g6⟩ := hq; exact ihy _ hc.2 K e' H' ρ' R' a' w' g1 g2 g3 g4 g5 g6
    | exit id => exact hq
    | goto l => exact hq
    | ret => exact hq
    | panic ch => exact hq
    | outgrown => exact hq
  | cond x y z ihy ihz =>
    intro c hc K e H ρ R a w h1 h2 hG he hst h
    cases c <;> simp only [chkC] at hc <;> first | (cases hc; done) | skip
    rename_i x' y' z'
    simp only [Bool.and_eq_true] at hc
    have hd := chkA_den he hc.1.1
    have hev : ∀ b, Act.eval a x' = .bool b → (if b then y' else z').wp P (LQ N D ρ0 R0 F G K Kp) a w → (Code.cond x' y' z').wp P (LQ N D ρ0 R0 F G K Kp) a w := fun b hb h => wp_cond hb h
    simp only [vc] at h
    split at h
    · rename_i v hx; rw [hx] at hd
      generalize hv : a.eval x' = u at hd
      cases hd
      rcases h.run with ⟨rfl, h'⟩ | ⟨rfl, h'⟩
      · exact hev _ hv (ihy _ hc.1.2 K e H ρ R a w h1 h2 hG he hst h')
      · exact hev _ hv (ihz _ hc.2 K e H ρ R a w h1 h2 hG he hst h')
    · rename_i hx; rw [hx] at hd
      generalize hv : a.eval x' = u at hd
      cases hd
      exact hev _ hv (ihy _ hc.1.2 K e H ρ R a w h1 h2 hG he hst h)
    · rename_i hx; rw [hx] at hd
      generalize hv : a.eval x' = u at hd
      cases hd
      exact hev _ hv (ihz _ hc.2 K e H ρ R a w h1 h2 hG he hst h)
    · cases h
  | block id x ihx =>
    intro c hc K e H ρ R a w h1 h2 hG he hst h
    cases c <;> simp only [chkC] at hc <;> first | (cases hc; done) | skip
    rename_i id' x'
    simp only [Bool.and_eq_true, beq_iff_eq] at hc
    obtain ⟨rfl, hc⟩ := hc
    refine wp_block (wp_mono (ihx _ hc _ e H ρ R a w h1 h2 hG he hst h) fun ex a' w' hq => ?_)
    cases ex with
    | normal => exact hq
    | exit n =>
      obtain ⟨ρ', R', e', H', g1, g2, g3, g4, g5, g6⟩ := hq
      simp only [Exit.inBlock]
      simp only at g6
      by_cases hn : n = id
      · subst hn
        simp only [Nat.beq_refl, cond_true] at g6
        simp only [if_true]
        exact ⟨ρ', R', e', H', g1, g2, g3, g4, g5, g6⟩
      · have : Nat.beq n id = false := by
          cases hb : Nat.beq n id
          · rfl
          · exact absurd (Nat.eq_of_beq_eq_true hb) hn
        simp only [this, cond_false] at g6
        simp only [hn, if_false]
        exact ⟨ρ', R', e', H', g1, g2, g3, g4, g5, g6⟩
    | goto l => exact hq
    | ret => exact hq
    | panic ch => exact hq
    | outgrown => exact hq
  | loop x ihx =>
    intro c hc K e H ρ R a w h1 h2 hG he hst h
    cases c <;> simp only [chkC] at hc <;> first | (cases hc; done) | skip
    obtain ⟨ι, I, J, μ, g0, h0, step⟩ := h
    obtain ⟨ρ', R', e1, e0, e2, e3⟩ := h0.ok rfl h1 he hst
    refine wp_loop_ghost (ι := ι) (fun g a w => ∃ ρ R, Ext ρ0 ρ ∧ HLe R0 R ∧ G.g R ∧ EnvOK N D R ρ (I g) a ∧ St ρ R F (J g) w) μ (fun g a w hI => ?_) g0 a w ⟨ρ', R', e1, h2.trans e0, G.mono _ _ e0 hG, e2, e3⟩
    obtain ⟨ρ2, R2, k1, k2, k3, k4, k5⟩ := hI
    refine wp_mono (ihx _ hc _ (I g) (J g) ρ2 R2 a w k1 k2 k3 k4 k5 (step g)) fun ex a' w' hq => ?_
    cases ex with
    | normal =>
      obtain ⟨ρ3, R3, e3, H3, g1, g2, g3, g4, g5, ⟨g', hlt, hle⟩⟩ := hq
      obtain ⟨ρ4, R4, q1, q0, q2, q3⟩ := hle.ok rfl g1 g4 g5
      exact ⟨g', hlt, ρ4, R4, q1, g2.trans q0, G.mono _ _ q0 g3, q2, q3⟩
    | exit n => exact hq
    | goto l => exact hq
    | ret => exact hq
    | panic ch => exact hq
    | outgrown => exact hq
  | exit n =>
    intro c hc K e H ρ R a w h1 h2 hG he hst h
    cases c <;> simp only [chkC] at hc <;> first | (cases hc; done) | skip
    have := eq_of_beq hc
    subst this
    exact wp_exit ⟨ρ, R, e, H, h1, h2, hG, he, hst, h⟩
  | ret =>
    intro c hc K e H ρ R a w h1 h2 hG he hst h
    cases c <;> simp only [chkC] at hc <;> first | (cases hc; done) | skip
    exact wp_ret ⟨ρ, R, e, H, h1, h2, hG, he, hst, h⟩
  | bad => intro c hc K e H ρ R a w h1 h2 hG he hst h; exact h.elim
end
end Go.V
