/- Functions that defer one call, which turns nothing where the function comes to its end. -/
import Derived.Test.YtfdjmooifnmanaaDoorVZ
import Derived.Defers
namespace Go.V

structure VFunD (P : Program) (G : Glob) (s : Nat) (sA sB : SCode) (rs : List RS) (args : List SV) (H : List SO) (K : SV → List SO → Prop) : Prop where
  h : forceN (lenO H) fun m0 => vc P G m0 (fun _ _ => False) sA (envOf 0 args) H fun x e H => match x with
    | .normal => vc P G m0 (fun _ _ => False) sB ((s, .unk) :: e) H fun x e H' => match x with
      | .exit _ => False
      | _ => resV e H' rs fun l => VRet m0 (tupV l) H' K
    | _ => False

theorem con_of_vcD {P : Program} {G : Glob} {H : List SO} {f : FuncId} {fn : Func} {A Dc B : Code} (hm : P.follows .mixedOrders = true) (hf : P.funcs[f]? = some fn) (hb : fn.body = some (.seq A (.seq Dc B))) {sA sB : SCode} {rs : List RS} {args : List SV} {K Kp : SV → List SO → Prop}
    {g : FuncId} {cap dargs : Act → Array Value} {vs : Act → Array Value} {s : Nat} {fv : Fn} {wv : Act → Value}
    (hc : (chkC P (max fn.ntmps args.length) sA A && chkC P (max fn.ntmps args.length) sB B && chkRS P rs fn.results.toList) = true)
    (hD : ∀ (Q : Exit → Act → World → Prop) (a : Act) (w : World), a.tmps.size = max fn.ntmps args.length → Q .normal (({ a with defers := { target := .fn fv (cap a), args := dargs a } :: a.defers } : Act).put (some s) (wv a)) w → Dc.wp P Q a w)
    (hi : ∀ (a : Act) (w : World), (invoke (.fn fv (cap a)) (dargs a)).run P w = .ok (.enter g (vs a)) w)
    (hg : ∀ (a : Act) (w : World), CallsD P g (vs a) .returning w fun e u' w' => (∃ v, e = .returned v) ∧ u' = .returning ∧ w' = w)
    (_hs : s < max fn.ntmps args.length)
    (h : VFunD P G s sA sB rs args H K) : Con P G f args H K Kp := by
  refine ⟨fun ρ R F w vals hG hd hst => ?_⟩
  simp only [Bool.and_eq_true] at hc
  have hlen : lenO H = ρ.length := by obtain ⟨hs, hst⟩ := hst; rw [lenO_eq, hst.len]
  have hargs : vals.length = args.length := hd.1.symm
  refine calls_of_wp_defers hf hb ?_
  have he : EnvOK (max fn.ntmps args.length) [] R ρ (envOf 0 args) { tmps := vals.toArray ++ Array.replicate (fn.ntmps - vals.toArray.size) undef, defers := [] } := by
    refine ⟨by simp [hargs]; omega, fun t => ?_, rfl⟩
    rw [envOf_look]
    simp only [Nat.zero_le, if_true, Nat.sub_zero]
    by_cases ht : t < args.length
    · obtain ⟨v, h1, h2⟩ := hd.get ht
      have : (vals.toArray ++ Array.replicate (fn.ntmps - vals.toArray.size) undef).getD t undef = v := by
        have h2 : t < vals.toArray.size := by simp [hargs, ht]
        rw [Array.getD_eq_getD_getElem?, Array.getElem?_append_left h2]
        simp [h1]
      rw [this]; exact h2
    · have : args.getD t SV.unk = .unk := by simp [List.getElem?_eq_none (show args.length ≤ t by omega)]
      rw [this]; exact .unk _
  have hv := forceN_iff.1 h.h
  rw [hlen] at hv
  refine wp_seq (wp_mono (vc_ok (ρ0 := ρ) (R0 := R) hm sA A hc.1.1 _ (envOf 0 args) H ρ R _ w (Ext.refl _) (HLe.refl _) hG he hst hv) fun ex a' w' hq => ?_)
  cases ex with
  | normal =>
    obtain ⟨ρ', R', e', H', g1, g2, g3, g4, g5, g6⟩ := hq
    refine wp_seq (hD _ a' w' g4.size ?_)
    have he2 : EnvOK (max fn.ntmps args.length) [{ target := .fn fv (cap a'), args := dargs a' }] R' ρ' ((s, .unk) :: e') (({ a' with defers := { target := .fn fv (cap a'), args := dargs a' } :: a'.defers } : Act).put (some s) (wv a')) := by
      refine ⟨by simp [Act.put, g4.size], fun t => ?_, by show _ :: a'.defers = _; rw [g4.defers]⟩
      rw [look_cons]
      by_cases hst : s = t
      · simp only [hst, if_true]; exact .unk _
      · simp only [hst, if_false]
        have : (({ a' with defers := { target := .fn fv (cap a'), args := dargs a' } :: a'.defers } : Act).put (some s) (wv a')).tmps.getD t undef = a'.tmps.getD t undef := by
          simp [Act.put, Array.getD_eq_getD_getElem?, Array.getElem?_setIfInBounds_ne hst]
        rw [this]; exact g4.den t
    refine wp_mono (vc_ok (ρ0 := ρ) (R0 := R) hm sB B hc.1.2 _ _ H' ρ' R' _ w' g1 g2 g3 he2 g5 g6) fun ex a2 w2 hq => ?_
    have fin : (∃ ρ' R' e' H2, Ext ρ ρ' ∧ HLe R R' ∧ G.g R' ∧ EnvOK (max fn.ntmps args.length) [{ target := .fn fv (cap a'), args := dargs a' }] R' ρ' e' a2 ∧ St ρ' R' F H2 w2 ∧ resV e' H2 rs fun l => VRet ρ.length (tupV l) H2 K) →
        Leaves P fn a2.tmps (fun en w' => ∃ ρ' R' H', Ext ρ ρ' ∧ HLe R R' ∧ St ρ' R' F H' w' ∧ ((∃ v sv, en = .returned v ∧ Den R' ρ' sv v ∧ K sv H') ∨ (∃ v sv, en = .panicked [{ v, recovered := false }] ∧ Den R' ρ' sv v ∧ Kp sv H'))) a2.defers .returning w2 := by
      rintro ⟨ρ3, R3, e3, H3, k1, k2, k3, k4, k5, k6⟩
      rw [k4.defers]
      refine leaves_cons (by simp) (hi a' w2) ((hg a' w2).mono ?_)
      rintro e u' w3 ⟨⟨v, rfl⟩, rfl, rfl⟩
      obtain ⟨l, vs, r1, r2, r3⟩ := resV_ok k4 k5 rs fn.results.toList hc.2 k6
      obtain ⟨ρ2, R2, H2, v2, q1, q0, q2, q3, q4⟩ := vret_ok r3 rfl k1 k5 (den_tupV r2)
      refine ⟨_, ?_, ρ2, R2, H2, q1, k2.trans q0, q2, .inl ⟨_, v2, rfl, q3, q4⟩⟩
      have r1' : (fn.results.mapM (resF a2)).run P w3 = .ok vs.toArray w3 := by
        rw [Array.mapM_eq_mapM_toList, Sem.run_map, r1]; rfl
      have e2 : results fn a2.tmps = (fn.results.mapM (resF a2) >>= fun vs => pure (if h : vs.size = 1 then vs[0] else .tuple vs)) := by
        unfold results
        congr 1
      rw [e2, Sem.run_bind, r1']
      rfl
    cases ex with
    | normal => exact fin hq
    | ret => exact fin hq
    | exit n => obtain ⟨ρ', R', e', H', g1, g2, g3, g4, g5, g6⟩ := hq; exact g6.elim
    | panic ch => obtain ⟨_, ρ', R', H', v, sv, g1, g2, g3, g4, g5, rfl⟩ := hq; exact g5.elim
    | goto l => exact (show False from hq).elim
    | outgrown => exact (show False from hq).elim
  | ret => obtain ⟨ρ', R', e', H', g1, g2, g3, g4, g5, g6⟩ := hq; exact g6.elim
  | exit n => obtain ⟨ρ', R', e', H', g1, g2, g3, g4, g5, g6⟩ := hq; exact g6.elim
  | panic ch => obtain ⟨_, ρ', R', H', v, sv, g1, g2, g3, g4, g5, rfl⟩ := hq; exact g5.elim
  | goto l => exact (show False from hq).elim
  | outgrown => exact (show False from hq).elim

def chkTmps : List Nat → List Operand → Bool
  | [], [] => true
  | n :: r, .tmp m :: q => n == m && chkTmps r q
  | _, _ => false
theorem chkTmps_eq : ∀ {l : List Nat} {q : List Operand}, chkTmps l q = true → q = l.map .tmp
  | [], [], _ => rfl
  | n :: r, .tmp m :: q, h => by
    simp only [chkTmps, Bool.and_eq_true, beq_iff_eq] at h
    rw [chkTmps_eq h.2, h.1]; rfl
/-- a region that makes a closure and defers its call -/
def chkDef (P : Program) (c : Code) (s : Nat) (g : FuncId) (caps : List Nat) : Bool := calleeOK P g && match c with
  | .region _ ops false => match ops.toList with
    | [⟨some d, .makeFunc (.func g') first caps', _, _, _, none⟩, ⟨none, .defer ⟨.value (.tmp d'), args, _⟩, _, _, _, none⟩] => d == s && d' == s && g' == g && first.isEmpty && args.isEmpty && chkTmps caps caps'.toList
    | _ => false
  | _ => false

theorem chkDef_ok {P : Program} {c : Code} {s : Nat} {g : FuncId} {caps : List Nat} (h : chkDef P c s g caps = true) (Q : Exit → Act → World → Prop) (a : Act) (w : World) (hs : s < a.tmps.size)
    (hq : Q .normal (({ a with defers := { target := .fn (.func g) (caps.map fun n => a.tmps.getD n undef).toArray, args := #[] } :: a.defers } : Act).put (some s) (.func (.func g) #[] (caps.map fun n => a.tmps.getD n undef).toArray)) w) : c.wp P Q a w := by
  unfold chkDef at h
  simp only [Bool.and_eq_true] at h
  obtain ⟨_, h⟩ := h
  split at h
  · rename_i ops
    split at h
    · rename_i d g' first caps' t1 p1 e1 d' args at1 t2 p2 e2 ho
      simp only [Bool.and_eq_true, beq_iff_eq, Array.isEmpty_iff] at h
      obtain ⟨⟨⟨⟨⟨rfl, rfl⟩, rfl⟩, rfl⟩, rfl⟩, hcaps⟩ := h
      have hops : ops = #[⟨some d', .makeFunc (.func g') #[] caps', t1, p1, e1, none⟩, ⟨none, .defer ⟨.value (.tmp d'), #[], at1⟩, t2, p2, e2, none⟩] := by
        apply Array.ext'; exact ho
      subst hops
      have hcap : caps'.map a.eval = (caps.map fun n => a.tmps.getD n undef).toArray := by
        apply Array.ext'
        simp only [Array.toList_map, chkTmps_eq hcaps, List.map_map]
        rfl
      rw [← hcap] at hq
      refine wp_region ?_
      show wpOps P _ Q [0, 1] a w
      have hev : ((a.put (some d') (.func (.func g') #[] (caps'.map a.eval))).tmps.getD d' undef) = .func (.func g') #[] (caps'.map a.eval) := by
        simp [Act.put, Array.getD_eq_getD_getElem?, hs]
      have hr : (execOp (Act.eval (a.put (some d') (.func (.func g') #[] (caps'.map a.eval)))) ⟨none, .defer ⟨.value (.tmp d'), #[], at1⟩, t2, p2, e2, none⟩).run P w = .ok (.defer { target := .fn (.func g') (caps'.map a.eval), args := #[] }) w := by
        simp [execOp, resolve, Act.eval, hev, Deferred.ofValue]
      have key : ∀ r, r = Result.ok (.defer { target := .fn (.func g') (caps'.map a.eval), args := #[] }) w → Oper.upon P ⟨none, .defer ⟨.value (.tmp d'), #[], at1⟩, t2, p2, e2, none⟩ (a.put (some d') (.func (.func g') #[] (caps'.map a.eval))) (wpOps P #[⟨some d', .makeFunc (.func g') #[] caps', t1, p1, e1, none⟩, ⟨none, .defer ⟨.value (.tmp d'), #[], at1⟩, t2, p2, e2, none⟩] Q []) Q r := by
        rintro _ rfl
        exact hq
      have hr0 : (execOp a.eval ⟨some d', .makeFunc (.func g') #[] caps', t1, p1, e1, none⟩).run P w = .ok (.value (.func (.func g') #[] (caps'.map a.eval))) w := by
        simp [execOp, Instr.makeFunc]
      have key0 : ∀ r, r = Result.ok (.value (.func (.func g') #[] (caps'.map a.eval))) w → Oper.upon P ⟨some d', .makeFunc (.func g') #[] caps', t1, p1, e1, none⟩ a (wpOps P #[⟨some d', .makeFunc (.func g') #[] caps', t1, p1, e1, none⟩, ⟨none, .defer ⟨.value (.tmp d'), #[], at1⟩, t2, p2, e2, none⟩] Q [1]) Q r := by
        rintro _ rfl
        exact .inl (key _ hr)
      exact .inl (key0 _ hr0)
    · cases h
  · cases h

theorem invoke_ok {P : Program} {g : FuncId} (hcl : calleeOK P g = true) (cap : Array Value) (w : World) : (invoke (.fn (.func g) cap) #[]).run P w = .ok (.enter g cap) w := by
  unfold calleeOK at hcl
  split at hcl
  · rename_i fn hfn
    simp only [Bool.and_eq_true, Bool.not_eq_true', beq_eq_false_iff_ne, ne_eq] at hcl
    have hb : fn.body.isNone = false := by cases hb : fn.body <;> simp_all
    simp only [invoke, callFunc, Sem.run_bind, run_program, Result.andThen_ok, hfn]
    simp [hcl.2]
    intro h0; simp [h0] at hb
  · cases hcl

/-- the parts of a body: what is ahead of the deferring region, that region, and what is behind it -/
def codeA : Code → Code | .seq a _ => a | c => c
def codeD : Code → Code | .seq _ (.seq d _) => d | c => c
def codeB : Code → Code | .seq _ (.seq _ b) => b | c => c
def SCode.A : SCode → SCode | .seq a _ => a | c => c
def SCode.B : SCode → SCode | .seq _ (.seq _ b) => b | c => c

/-- A FUNCTION THAT DEFERS ONE CLOSURE, WHICH IS IDLE WHERE THE BODY COMES TO ITS END. -/
theorem con_defer {P : Program} {G : Glob} {H : List SO} {f : FuncId} {fn : Func} (hm : P.follows .mixedOrders = true) (hf : P.funcs[f]? = some fn) {sc : SCode} {rs : List RS} {args : List SV} {K Kp : SV → List SO → Prop} {g : FuncId} {caps : List Nat} {s : Nat}
    (hb : fn.body = some (.seq (codeA (fn.body.getD .skip)) (.seq (codeD (fn.body.getD .skip)) (codeB (fn.body.getD .skip)))))
    (hc : (chkC P (max fn.ntmps args.length) sc.A (codeA (fn.body.getD .skip)) && chkC P (max fn.ntmps args.length) sc.B (codeB (fn.body.getD .skip)) && chkRS P rs fn.results.toList) = true)
    (hd : chkDef P (codeD (fn.body.getD .skip)) s g caps = true) (hs : s < max fn.ntmps args.length)
    (hg : ∀ (vs : Array Value) (w : World), vs.size = caps.length → CallsD P g vs .returning w fun e u' w' => (∃ v, e = .returned v) ∧ u' = .returning ∧ w' = w)
    (h : VFunD P G s sc.A sc.B rs args H K) : Con P G f args H K Kp :=
  con_of_vcD hm hf hb (g := g) (cap := fun a => (caps.map fun n => a.tmps.getD n undef).toArray) (dargs := fun _ => #[]) (vs := fun a => (caps.map fun n => a.tmps.getD n undef).toArray) (s := s) (fv := .func g) (wv := fun a => .func (.func g) #[] (caps.map fun n => a.tmps.getD n undef).toArray) hc
    (fun Q a w hsz hq => chkDef_ok hd Q a w (by rw [hsz]; exact hs) hq) (fun a w => invoke_ok (by simp only [chkDef, Bool.and_eq_true] at hd; exact hd.1) _ w) (fun a w => hg _ w (by simp)) hs h
end Go.V
