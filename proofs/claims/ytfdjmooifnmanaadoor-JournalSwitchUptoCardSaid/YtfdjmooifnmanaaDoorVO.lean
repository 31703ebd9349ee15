/- Functions: a contract out of the symbolic code; a contract used at a call. -/
import Derived.Test.YtfdjmooifnmanaaDoorVN
namespace Go.V

inductive RS where
  | t (n : Nat)
  | c (n size : Nat) (agg : Bool)

def resV (e : Env) (H : List SO) : List RS → (List SV → Prop) → Prop
  | [], K => K []
  | .t n :: r, K => forceS (look e n) fun v => resV e H r fun l => K (v :: l)
  | .c n size agg :: r, K =>
    match look e n with
    | .ptr m off =>
      match nthO H m with
      | .cells l _ => loadC size agg l off fun v => resV e H r fun l => K (v :: l)
      | _ => False
    | _ => False

def tupV : List SV → SV
  | [v] => v
  | l => .tup l

/-- what a call ends in: the result and the heap may be covered by simpler ones, behind ghost steps -/
inductive VRet (m0 : Nat) : SV → List SO → (SV → List SO → Prop) → Prop where
  | mk {v : SV} {H : List SO} {K : SV → List SO → Prop} (σ : List Nat) (v' : SV) (H' : List SO) (hv : SLe v (renS (sgn σ 0) v')) (lo : LeR (sgn σ 0) H σ H') (ok : (okR m0 (lenO H) σ && nlS (lenO H') v' && nlO (lenO H') H') = true) (k : K v' H') : VRet m0 v H K
  | now {v : SV} {H : List SO} {K : SV → List SO → Prop} (k : K v H) : VRet m0 v H K
  | ghost {v : SV} {H : List SO} {K : SV → List SO → Prop} (H2 : List SO) (he : HEnt H H2) (h : VRet m0 v H2 K) : VRet m0 v H K
  | freeze {v : SV} {H : List SO} {K : SV → List SO → Prop} (n : Nat) (c : Codec) (xs : List c.E) (hn : nthO H n = .list c xs) (h : VRet m0 (frzS n (.ro c.E c.dflt c.k c.enc xs) v) (setO H n .gone) K) : VRet m0 v H K

def chkRS (P : Program) : List RS → List ResultVar → Bool
  | [], [] => true
  | .t n :: r, .tmp m :: q => n == m && chkRS P r q
  | .c n size agg :: r, .cell m t :: q => n == m && sizeIs P t size && aggIs P t agg && chkRS P r q
  | _, _ => false

def envOf : Nat → List SV → Env
  | _, [] => []
  | n, v :: r => (n, v) :: envOf (n + 1) r

structure VFun (P : Program) (G : Glob) (N : Nat) (sc : SCode) (rs : List RS) (args : List SV) (H : List SO) (K Kp : SV → List SO → Prop) : Prop where
  h : forceN (lenO H) fun m0 => vc P G m0 (fun v H' => VRet m0 v H' Kp) sc (envOf 0 args) H fun x e H' => match x with
    | .exit _ => False
    | _ => resV e H' rs fun l => VRet m0 (tupV l) H' K

section
variable {P : Program} {N : Nat} {D : List Deferred} {R : Hp} {F : Fr} {ρ : List Value} {e : Env} {a : Act} {H : List SO} {w : World} {G : Glob}

theorem envOf_look : ∀ (l : List SV) (n t : Nat), look (envOf n l) t = if n ≤ t then l.getD (t - n) .unk else .unk
  | [], n, t => by simp [envOf, look]
  | v :: r, n, t => by
    simp only [envOf]
    rw [look_cons, envOf_look r (n + 1) t]
    by_cases h : n = t
    · subst h; simp
    · by_cases h2 : n ≤ t
      · have e : t - n = (t - (n + 1)) + 1 := by omega
        have h3 : n + 1 ≤ t := by omega
        simp [h, h2, h3, e]
      · have h3 : ¬ n + 1 ≤ t := by omega
        simp [h, h2, h3]

def resF (a : Act) : ResultVar → Sem Value
  | .tmp t => pure (a.tmps.getD t undef)
  | .cell ad t => do loadVar t (← asAddr (a.tmps.getD ad undef))

theorem resV_ok (he : EnvOK N D R ρ e a) (hst : St ρ R F H w) : ∀ (rs : List RS) (q : List ResultVar) {K : List SV → Prop}, chkRS P rs q = true → resV e H rs K →
    ∃ l vs, (q.mapM (resF a)).run P w = .ok vs w ∧ DenL R ρ l vs ∧ K l
  | [], [], K, _, h => ⟨[], [], by simp, .nil, h⟩
  | .t n :: rs, .tmp m :: q, K, hc, h => by
    simp only [chkRS, Bool.and_eq_true, beq_iff_eq] at hc
    obtain ⟨rfl, hc⟩ := hc
    have h := forceS_iff.1 h
    obtain ⟨l, vs, h1, h2, h3⟩ := resV_ok he hst rs q hc h
    exact ⟨_, a.tmps.getD n undef :: vs, by simp only [List.mapM_cons, resF, Sem.run_bind, Sem.run_pure, Result.andThen_ok, h1], .cons (he.den n) h2, h3⟩
  | .c n size agg :: rs, .cell m t :: q, K, hc, h => by
    simp only [chkRS, Bool.and_eq_true, beq_iff_eq] at hc
    obtain ⟨⟨⟨rfl, hsz⟩, hag⟩, hc⟩ := hc
    have hd := he.den n
    simp only [resV] at h
    split at h
    · rename_i m off hl; rw [hl] at hd
      split at h
      · rename_i l hn
        obtain ⟨hs, hst'⟩ := hst
        obtain ⟨v, hv, hso⟩ := hst'.get hn (by simp)
        obtain ⟨b, ty, vs, rfl, hh, hl, _⟩ := hso
        generalize hvx : a.tmps.getD n undef = vx at hd
        cases hd with
        | ptr hn' =>
          rw [hv] at hn'; cases hn'
          have hw := hst'.own m b _ (by rw [hh]; exact ⟨rfl, rfl⟩)
          obtain ⟨u, su, r1, r2, r3⟩ := loadC_ok (P := P) (b := b) (o := 0) (Ext.refl ρ) hsz hag hl (fun j v hj => by rw [cell_of_heap hw, Nat.zero_add]; simpa using hj) h
          obtain ⟨l', vs', h1, h2, h3⟩ := resV_ok he ⟨hs, hst'⟩ rs q hc r3
          have r1' : (loadVar t ⟨b, 0 + off, none⟩).run P w = .ok u w := r1
          exact ⟨_, u :: vs', by simp only [List.mapM_cons, resF, hvx, asAddr, Sem.run_bind, Sem.run_pure, Result.andThen_ok, r1', h1], .cons r2 h2, h3⟩
      · cases h
    · cases h
  | [], _ :: _, _, hc, _ => by simp [chkRS] at hc
  | .t _ :: _, [], _, hc, _ => by simp [chkRS] at hc
  | .c _ _ _ :: _, [], _, hc, _ => by simp [chkRS] at hc
  | .t _ :: _, .cell _ _ :: _, _, hc, _ => by simp [chkRS] at hc
  | .c _ _ _ :: _, .tmp _ :: _, _, hc, _ => by simp [chkRS] at hc

theorem den_tupV {l : List SV} {vs : List Value} (h : DenL R ρ l vs) : Den R ρ (tupV l) (if h : vs.toArray.size = 1 then vs.toArray[0] else .tuple vs.toArray) := by
  cases l with
  | nil => have := h.nil_inv; subst this; exact den_undef
  | cons v r =>
    obtain ⟨u, us, rfl, h1, h2⟩ := h.cons_inv
    cases r with
    | nil => have := h2.nil_inv; subst this; simpa [tupV] using h1
    | cons v2 r2 =>
      obtain ⟨u2, us2, rfl, h3, h4⟩ := h2.cons_inv
      have : ¬ ((u :: u2 :: us2).toArray.size = 1) := by simp
      rw [dif_neg this]
      exact .tup h.1 h.2

theorem vret_ok {v : SV} {m0 : Nat} {K : SV → List SO → Prop} (h : VRet m0 v H K) : ∀ {ρ0 ρ : List Value} {R : Hp} {u : Value}, ρ0.length = m0 → Ext ρ0 ρ → St ρ R F H w → Den R ρ v u →
    ∃ ρ' R' H' v', Ext ρ0 ρ' ∧ HLe R R' ∧ St ρ' R' F H' w ∧ Den R' ρ' v' u ∧ K v' H' := by
  induction h with
  | mk σ v' H' hv lo ok k =>
    rintro ρ0 ρ R u rfl hx hst hd
    simp only [Bool.and_eq_true] at ok
    obtain ⟨ρ', h1, h2, h3⟩ := leR_ok hx hst lo ok.1.1 ok.2
    have hnv := ok.1.2
    rw [lenO_eq] at hnv
    exact ⟨ρ', R, H', v', h1, HLe.refl _, h2, den_unren h3 hnv (hv.h _ _ _ hd), k⟩
  | now k =>
    rintro ρ0 ρ R u rfl hx hst hd
    exact ⟨ρ, R, _, _, hx, HLe.refl _, hst, hd, k⟩
  | ghost H2 he _ ih =>
    rintro ρ0 ρ R u hl hx hst hd
    obtain ⟨ρ', R', h1, h2, h3⟩ := he ρ R F w hst
    obtain ⟨ρ2, R2, H3, v3, g1, g2, g3, g4, g5⟩ := ih hl (hx.trans h1) h3 (hd.mono h2 h1)
    exact ⟨ρ2, R2, H3, v3, g1, h2.trans g2, g3, g4, g5⟩
  | freeze n c xs hn _ ih =>
    rintro ρ0 ρ R u hl hx hst hd
    obtain ⟨R', h1, h2, h3⟩ := hst.freeze hn
    obtain ⟨ρ2, R2, H3, v3, g1, g2, g3, g4, g5⟩ := ih hl hx h2 (den_frz hd h1 h3)
    exact ⟨ρ2, R2, H3, v3, g1, h1.trans g2, g3, g4, g5⟩

/-- A CONTRACT OUT OF THE SYMBOLIC CODE. -/
theorem con_of_vc {f : FuncId} {fn : Func} {c : Code} (hm : P.follows .mixedOrders = true) (hf : P.funcs[f]? = some fn) (hb : fn.body = some c) {sc : SCode} {rs : List RS} {args : List SV} {K Kp : SV → List SO → Prop}
    (hc : (chkC P (max fn.ntmps args.length) sc c && chkRS P rs fn.results.toList) = true) (h : VFun P G (max fn.ntmps args.length) sc rs args H K Kp) : Con P G f args H K Kp := by
  refine ⟨fun ρ R F w vals hG hd hst => ?_⟩
  simp only [Bool.and_eq_true] at hc
  have hlen : lenO H = ρ.length := by obtain ⟨hs, hst⟩ := hst; rw [lenO_eq, hst.len]
  have hargs : vals.length = args.length := hd.1.symm
  refine calls_of_wp hf hb ?_
  have he : EnvOK (max fn.ntmps args.length) [] R ρ (envOf 0 args) { tmps := vals.toArray ++ Array.replicate (fn.ntmps - vals.toArray.size) undef, defers := [] } := by
    refine ⟨by simp [hargs]; omega, fun t => ?_, rfl⟩
    rw [envOf_look]
    simp only [Nat.zero_le, if_true, Nat.sub_zero]
    by_cases ht : t < args.length
    · obtain ⟨v, h1, h2⟩ := hd.get ht
      have : (vals.toArray ++ Array.replicate (fn.ntmps - vals.toArray.size) undef).getD t undef = v := by
        have h2 : t < vals.toArray.size := by simp [hargs, ht]
        rw [Array.getD_eq_getD_getElem?, Array.getElem?_append_left h2]
        simp [h1]
      rw [this]; exact h2
    · have : args.getD t SV.unk = .unk := by simp [List.getElem?_eq_none (show args.length ≤ t by omega)]
      rw [this]; exact .unk _
  have hv := forceN_iff.1 h.h
  rw [hlen] at hv
  refine wp_mono (vc_ok (ρ0 := ρ) (R0 := R) hm sc c hc.1 _ (envOf 0 args) H ρ R _ w (Ext.refl _) (HLe.refl _) hG he hst hv) fun ex a' w' hq => ?_
  have fin : ∀ (hq : ∃ ρ' R' e' H', Ext ρ ρ' ∧ HLe R R' ∧ G.g R' ∧ EnvOK (max fn.ntmps args.length) [] R' ρ' e' a' ∧ St ρ' R' F H' w' ∧ resV e' H' rs fun l => VRet ρ.length (tupV l) H' K),
      a'.defers = [] ∧ ∃ v, (results fn a'.tmps).run P w' = .ok v w' ∧ (∃ ρ' R' H', Ext ρ ρ' ∧ HLe R R' ∧ St ρ' R' F H' w' ∧
        ((∃ v' sv, Ending.returned v = .returned v' ∧ Den R' ρ' sv v' ∧ K sv H') ∨ (∃ v' sv, Ending.returned v = .panicked [{ v := v', recovered := false }] ∧ Den R' ρ' sv v' ∧ Kp sv H'))) := by
    rintro ⟨ρ', R', e', H', g1, g2, g3, g4, g5, g6⟩
    obtain ⟨l, vs, r1, r2, r3⟩ := resV_ok g4 g5 rs fn.results.toList hc.2 g6
    obtain ⟨ρ2, R2, H2, v2, q1, q0, q2, q3, q4⟩ := vret_ok r3 rfl g1 g5 (den_tupV r2)
    refine ⟨g4.defers, _, ?_, ρ2, R2, H2, q1, g2.trans q0, q2, .inl ⟨_, v2, rfl, q3, q4⟩⟩
    have r1' : (fn.results.mapM (resF a')).run P w' = .ok vs.toArray w' := by
      rw [Array.mapM_eq_mapM_toList, Sem.run_map, r1]; rfl
    have e2 : results fn a'.tmps = (fn.results.mapM (resF a') >>= fun vs => pure (if h : vs.size = 1 then vs[0] else .tuple vs)) := by
      unfold results
      congr 1
    rw [e2, Sem.run_bind, r1']
    rfl
  cases ex with
  | normal => exact fin hq
  | ret => exact fin hq
  | exit n => obtain ⟨_, _, _, _, _, _, _, _, _, hf⟩ := hq; exact hf.elim
  | panic ch =>
    obtain ⟨hdf, ρ', R', H', v, sv, g1, g2, g3, g4, g5, rfl⟩ := hq
    obtain ⟨ρ2, R2, H2, v2, q1, q0, q2, q3, q4⟩ := vret_ok g5 rfl g1 g3 g4
    exact ⟨hdf, ρ2, R2, H2, q1, g2.trans q0, q2, .inr ⟨v, v2, rfl, q3, q4⟩⟩
  | goto l => exact (show False from hq).elim
  | outgrown => exact (show False from hq).elim
end
end Go.V
