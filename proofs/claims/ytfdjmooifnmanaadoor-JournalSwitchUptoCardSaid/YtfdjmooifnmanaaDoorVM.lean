/- Regions: one order, symbolically. -/
import Derived.Test.YtfdjmooifnmanaaDoorVL4
import Derived.Test.YtfdjmooifnmanaaDoorVB3
namespace Go.V

structure SI : Type 1 where
  d : Option Nat
  g : Option (Nat × Bool)
  s : SOp

inductive SR : Type 1 where
  | done
  | stop
  | w (i : Nat) (si : SI) (r : SR)
  | rd (i : Nat) (si : SI) (r : SR)
  | l (i : Nat) (si : SI) (pend : List (Nat × SI)) (r alt : SR)

def SR.ct : SR → CT
  | .done => .done
  | .stop => .stop
  | .w i _ r => .w i r.ct
  | .rd i _ r => .rd i r.ct
  | .l i _ pend r alt => .l i (pend.map (·.1)) r.ct alt.ct

def puts (e : Env) (d : Option Nat) (v : SV) : Env :=
  match d with
  | some d => (d, v) :: e
  | none => e

def guardV (e : Env) (g : Option (Nat × Bool)) (Ky Kn : Env → Prop) : Prop :=
  match g with
  | none => Ky e
  | some (slot, want) =>
    match look e slot with
    | .val (.bool true) => bif want then Ky e else Kn e
    | .val (.bool false) => bif want then Kn e else Ky e
    | .bool b => VIf b (bif want then Ky ((slot, .val (.bool true)) :: e) else Kn ((slot, .val (.bool true)) :: e)) (bif want then Kn ((slot, .val (.bool false)) :: e) else Ky ((slot, .val (.bool false)) :: e))
    | .tup [] => Kn e
    | _ => False

structure VSame (v u : SV) : Prop where
  h : v = u
  ex : exactS u = true
structure VUndef (v : SV) : Prop where
  h : v = .tup []

def pend1 (G : Glob) (e : Env) (H : List SO) (si : SI) : Prop :=
  match si.d with
  | none => False
  | some d =>
    match si.g with
    | none => opR G si.s e H fun v => VSame v (look e d)
    | some (slot, want) =>
      match look e slot with
      | .val (.bool true) => bif want then opR G si.s e H fun v => VSame v (look e d) else VUndef (look e d)
      | .val (.bool false) => bif want then VUndef (look e d) else opR G si.s e H fun v => VSame v (look e d)
      | .tup [] => VUndef (look e d)
      | _ => False

def pendV (G : Glob) (e : Env) (H : List SO) : List (Nat × SI) → Prop → Prop
  | [], k => k
  | p :: r, k => VAnd (pend1 G e H p.2) (pendV G e H r k)

def vcR (P : Program) (G : Glob) : SR → Env → List SO → (Env → List SO → Prop) → (SV → List SO → Prop) → Prop
  | .done, e, H, K, _ => K e H
  | .stop, _, _, _, _ => True
  | .w _ si r, e, H, K, Kp => guardV e si.g (fun e => opWX G si.s e H fun v => vcR P G r (puts e si.d v) H K Kp) (fun e => vcR P G r (puts e si.d (.tup [])) H K Kp)
  | .rd _ si r, e, H, K, Kp => guardV e si.g (fun e => opR G si.s e H fun v => vcR P G r (puts e si.d v) H K Kp) (fun e => vcR P G r (puts e si.d (.tup [])) H K Kp)
  | .l _ si pend r .stop, e, H, K, Kp =>
    guardV e si.g (fun e => opL P G si.s e H (fun v H => pendV G (puts e si.d v) H pend (vcR P G r (puts e si.d v) H K Kp)) Kp) (fun e => pendV G (puts e si.d (.tup [])) H pend (vcR P G r (puts e si.d (.tup [])) H K Kp))
  | .l _ si pend r alt, e, H, K, Kp =>
    VAnd (guardV e si.g (fun e => opL P G si.s e H (fun v H => pendV G (puts e si.d v) H pend (vcR P G r (puts e si.d v) H K Kp)) Kp) (fun e => pendV G (puts e si.d (.tup [])) H pend (vcR P G r (puts e si.d (.tup [])) H K Kp)))
      (vcR P G alt e H K Kp)

def chkG (ops : Array Oper) (o : Oper) (g : Option (Nat × Bool)) : Bool :=
  match o.guard, g with
  | none, none => true
  | some (j, want), some (slot, want') => want == want' && (ops[j]?).bind (·.dst) == some slot
  | _, _ => false

def chkD (N : Nat) (o : Oper) (d : Option Nat) : Bool := o.dst == d && (match d with | some d => decide (d < N) | none => true)

def chkSI (N : Nat) (ops : Array Oper) (ck : SOp → Op → Bool) (i : Nat) (si : SI) : Bool :=
  match ops[i]? with
  | some o => chkG ops o si.g && chkD N o si.d && ck si.s o.op
  | none => false

def chkSR (P : Program) (N : Nat) (ops : Array Oper) : SR → Bool
  | .done => true
  | .stop => true
  | .w i si r => chkSI N ops (chkWX P) i si && chkSR P N ops r
  | .rd i si r => chkSI N ops (chkR P) i si && chkSR P N ops r
  | .l i si pend r alt => chkSI N ops (chkL P) i si && pend.all (fun p => chkSI N ops (chkR P) p.1 p.2) && chkSR P N ops r && chkSR P N ops alt

section
variable {P : Program} {N : Nat} {D : List Deferred} {R : Hp} {F : Fr} {ρ : List Value} {e : Env} {a : Act} {H : List SO} {w : World} {G : Glob} {ops : Array Oper}

theorem EnvOK.puts {o : Oper} {d : Option Nat} {s : SV} {v : Value} (h : EnvOK N D R ρ e a) (hd : chkD N o d = true) (hv : Den R ρ s v) : EnvOK N D R ρ (puts e d s) (a.put o.dst v) := by
  simp only [chkD, Bool.and_eq_true, beq_iff_eq] at hd
  obtain ⟨hd1, hd2⟩ := hd
  rw [hd1]
  cases d with
  | none => exact h
  | some d => exact h.put (by simpa using hd2) hv

theorem look_cons (s : Nat) (v : SV) (e : Env) (t : Nat) : look ((s, v) :: e) t = if s = t then v else look e t := by
  simp only [look]
  by_cases h : s = t
  · subst h; simp [Nat.beq_refl]
  · have : Nat.beq s t = false := by
      cases hb : Nat.beq s t
      · rfl
      · exact absurd (Nat.eq_of_beq_eq_true hb) h
    simp [this, h]

theorem EnvOK.more {slot : Nat} {s : SV} (h : EnvOK N D R ρ e a) (hv : Den R ρ s (a.tmps.getD slot undef)) : EnvOK N D R ρ ((slot, s) :: e) a :=
  ⟨h.size, fun t => by rw [look_cons]; split <;> first | (rename_i e; subst e; exact hv) | exact h.den t, h.defers⟩

theorem den_undef : Den R ρ (.tup []) undef := .tup (vs := []) rfl fun i s v h => by simp at h

theorem guard_ok (he : EnvOK N D R ρ e a) {o : Oper} {g : Option (Nat × Bool)} (hc : chkG ops o g = true) {Ky Kn : Env → Prop} (h : guardV e g Ky Kn) :
    ∃ e', EnvOK N D R ρ e' a ∧ ((Region.wanted o (yielded ops a.tmps) = true ∧ Ky e') ∨ (Region.wanted o (yielded ops a.tmps) = false ∧ Kn e')) := by
  unfold chkG at hc
  split at hc
  · rename_i hg
    exact ⟨e, he, .inl ⟨by simp [Region.wanted, hg], h⟩⟩
  · rename_i j want slot want' hg
    simp only [Bool.and_eq_true, beq_iff_eq] at hc
    obtain ⟨rfl, hslot⟩ := hc
    have hd := he.den slot
    have hyield : ∀ b, a.tmps.getD slot undef = .bool b → yielded ops a.tmps j = some b := by
      intro b hb
      have : a.tmps[slot]? = some (.bool b) := by
        cases h : a.tmps[slot]? with
        | none => simp [h, undef] at hb
        | some x => simp [h] at hb; rw [hb]
      simp [yielded, hslot, this]
    have hwant : ∀ b, a.tmps.getD slot undef = .bool b → Region.wanted o (yielded ops a.tmps) = (b == want) := by
      intro b hb
      simp [Region.wanted, hg, hyield b hb]
    unfold guardV at h
    simp only at h
    split at h
    · rename_i hl; rw [hl] at hd
      generalize hv : a.tmps.getD slot undef = v at hd
      cases hd
      cases want with
      | true => exact ⟨e, he, .inl ⟨hwant _ hv, h⟩⟩
      | false => exact ⟨e, he, .inr ⟨hwant _ hv, h⟩⟩
    · rename_i hl; rw [hl] at hd
      generalize hv : a.tmps.getD slot undef = v at hd
      cases hd
      cases want with
      | true => exact ⟨e, he, .inr ⟨hwant _ hv, h⟩⟩
      | false => exact ⟨e, he, .inl ⟨hwant _ hv, h⟩⟩
    · rename_i b hl; rw [hl] at hd
      generalize hv : a.tmps.getD slot undef = v at hd
      cases hd
      rcases h.run with ⟨rfl, h'⟩ | ⟨rfl, h'⟩
      · have he' : EnvOK N D R ρ ((slot, .val (.bool true)) :: e) a := he.more (by rw [hv]; exact .val _)
        cases want with
        | true => exact ⟨_, he', .inl ⟨hwant _ hv, h'⟩⟩
        | false => exact ⟨_, he', .inr ⟨hwant _ hv, h'⟩⟩
      · have he' : EnvOK N D R ρ ((slot, .val (.bool false)) :: e) a := he.more (by rw [hv]; exact .val _)
        cases want with
        | true => exact ⟨_, he', .inr ⟨hwant _ hv, h'⟩⟩
        | false => exact ⟨_, he', .inl ⟨hwant _ hv, h'⟩⟩
    · rename_i hl; rw [hl] at hd
      obtain ⟨vs, hv, hl2⟩ := den_tup hd
      have := hl2.nil_inv; subst this
      refine ⟨e, he, .inr ⟨?_, h⟩⟩
      have hy : yielded ops a.tmps j = none := by
        simp only [yielded, hslot, Option.bind_some]
        cases h : a.tmps[slot]? with
        | none => rfl
        | some x => simp [h] at hv; rw [hv]
      simp [Region.wanted, hg, hy]
    · cases h
  · cases hc

theorem pend1_ok (hG : G.g R) (he : EnvOK N D R ρ e a) {hs : Nat → Hp} (hst : StW ρ R F H w hs) {o : Oper} {si : SI} (hg : chkG ops o si.g = true) (hd : chkD N o si.d = true) (hc : chkR P si.s o.op = true) (h : pend1 G e H si) :
    YA P ops o (dstVal o a) a w := by
  simp only [chkD, Bool.and_eq_true, beq_iff_eq] at hd
  unfold pend1 at h
  split at h
  · cases h
  · rename_i d hsd
    have hdst : o.dst = some d := hd.1.trans hsd
    have hdv : dstVal o a = a.tmps.getD d undef := by simp [dstVal, hdst]
    have yes : opR G si.s e H (fun v => VSame v (look e d)) → Region.wanted o (yielded ops a.tmps) = true → YA P ops o (dstVal o a) a w := by
      intro h hw
      obtain ⟨v, sv, h1, h2, ⟨rfl, hex⟩⟩ := opR_ok hG he hst hc h
      refine .inl ⟨hw, ?_⟩
      rw [hdv, ← Den.exact hex h2 (he.den d)]; exact h1
    have no : VUndef (look e d) → Region.wanted o (yielded ops a.tmps) = false → YA P ops o (dstVal o a) a w := by
      intro h hw
      have := he.den d
      rw [h.h] at this
      obtain ⟨vs, hv, hl⟩ := den_tup this
      have := hl.nil_inv; subst this
      exact .inr ⟨hw, by rw [hdv, hv]; rfl⟩
    split at h
    · rename_i hsg
      rw [hsg] at hg
      unfold chkG at hg
      cases hog : o.guard with
      | none => exact yes h (by simp [Region.wanted, hog])
      | some x => rw [hog] at hg; cases hg
    · rename_i slot want hsg
      have hcase : ∀ Ky Kn : Env → Prop, guardV e (some (slot, want)) Ky Kn → ∃ e', EnvOK N D R ρ e' a ∧ ((Region.wanted o (yielded ops a.tmps) = true ∧ Ky e') ∨ (Region.wanted o (yielded ops a.tmps) = false ∧ Kn e')) :=
        fun Ky Kn hh => guard_ok he (by rw [← hsg]; exact hg) hh
      split at h
      · rename_i hl
        cases want with
        | true =>
          obtain ⟨_, _, h' | h'⟩ := hcase (fun _ => True) (fun _ => False) (by simp only [guardV, hl]; trivial)
          · exact yes h h'.1
          · exact h'.2.elim
        | false =>
          obtain ⟨_, _, h' | h'⟩ := hcase (fun _ => False) (fun _ => True) (by simp only [guardV, hl]; trivial)
          · exact h'.2.elim
          · exact no h h'.1
      · rename_i hl
        cases want with
        | true =>
          obtain ⟨_, _, h' | h'⟩ := hcase (fun _ => False) (fun _ => True) (by simp only [guardV, hl]; trivial)
          · exact h'.2.elim
          · exact no h h'.1
        | false =>
          obtain ⟨_, _, h' | h'⟩ := hcase (fun _ => True) (fun _ => False) (by simp only [guardV, hl]; trivial)
          · exact yes h h'.1
          · exact h'.2.elim
      · rename_i hl
        obtain ⟨_, _, h' | h'⟩ := hcase (fun _ => False) (fun _ => True) (by simp only [guardV, hl])
        · exact h'.2.elim
        · exact no h h'.1
      · cases h

theorem pendV_ok {K : Prop} : ∀ {pend : List (Nat × SI)}, pendV G e H pend K → (∀ p ∈ pend, pend1 G e H p.2) ∧ K
  | [], h => ⟨fun _ hp => (by cases hp), h⟩
  | p :: r, h => by
    obtain ⟨h1, h2⟩ := h
    obtain ⟨g1, g2⟩ := pendV_ok h2
    refine ⟨fun q hq => ?_, g2⟩
    rcases List.mem_cons.1 hq with rfl | hq
    · exact h1
    · exact g1 q hq

theorem chkSI_some {ck : SOp → Op → Bool} {i : Nat} {si : SI} (h : chkSI N ops ck i si = true) : ∃ o, ops[i]? = some o ∧ chkG ops o si.g = true ∧ chkD N o si.d = true ∧ ck si.s o.op = true := by
  unfold chkSI at h
  split at h
  · rename_i o ho
    simp only [Bool.and_eq_true] at h
    exact ⟨o, ho, h.1.1, h.1.2, h.2⟩
  · cases h

theorem vcR_ok {Q : Exit → Act → World → Prop} {K : Env → List SO → Prop} {Kp : SV → List SO → Prop} {ρ0 : List Value} {R0 : Hp}
    (hQn : ∀ ρ R e H a w, Ext ρ0 ρ → HLe R0 R → EnvOK N D R ρ e a → St ρ R F H w → K e H → Q .normal a w)
    (hQp : ∀ ρ R H a w v sv, Ext ρ0 ρ → HLe R0 R → a.defers = D → St ρ R F H w → Den R ρ sv v → Kp sv H → Q (.panic [{ v, recovered := false }]) a w) :
    ∀ (r : SR) (e : Env) (H : List SO) (ρ : List Value) (R : Hp) (a : Act) (w : World), chkSR P N ops r = true → Ext ρ0 ρ → HLe R0 R → G.g R → EnvOK N D R ρ e a → St ρ R F H w → vcR P G r e H K Kp → wpC P ops Q r.ct a w := by
  intro r
  induction r with
  | done => intro e H ρ R a w _ h1 h2 _ he hst h; exact hQn ρ R e H a w h1 h2 he hst h
  | stop => intro e H ρ R a w _ _ _ _ _ _ _; trivial
  | w i si r ih =>
    intro e H ρ R a w hc h1 h2 hG he hst h
    simp only [chkSR, Bool.and_eq_true] at hc
    obtain ⟨o, ho, hg, hd, hck⟩ := chkSI_some hc.1
    simp only [vcR] at h
    obtain ⟨e', he', hcase⟩ := guard_ok he hg h
    rcases hcase with ⟨hw, hk⟩ | ⟨hw, hk⟩
    · obtain ⟨hs, hst'⟩ := hst
      obtain ⟨v, sv, g1, g2, g3⟩ := opWX_ok hG he' hst' hck hk
      exact ⟨o, v, ho, fun w' => .inl ⟨hw, g1 w'⟩, ih _ _ _ _ _ _ hc.2 h1 h2 hG (he'.puts hd g2) ⟨hs, hst'⟩ g3⟩
    · exact ⟨o, undef, ho, fun w' => .inr ⟨hw, rfl⟩, ih _ _ _ _ _ _ hc.2 h1 h2 hG (he'.puts hd den_undef) hst hk⟩
  | rd i si r ih =>
    intro e H ρ R a w hc h1 h2 hG he hst h
    simp only [chkSR, Bool.and_eq_true] at hc
    obtain ⟨o, ho, hg, hd, hck⟩ := chkSI_some hc.1
    simp only [vcR] at h
    obtain ⟨e', he', hcase⟩ := guard_ok he hg h
    rcases hcase with ⟨hw, hk⟩ | ⟨hw, hk⟩
    · obtain ⟨hs, hst'⟩ := hst
      obtain ⟨v, sv, g1, g2, g3⟩ := opR_ok hG he' hst' hck hk
      exact ⟨o, v, ho, .inl ⟨hw, g1⟩, ih _ _ _ _ _ _ hc.2 h1 h2 hG (he'.puts hd g2) ⟨hs, hst'⟩ g3⟩
    · exact ⟨o, undef, ho, .inr ⟨hw, rfl⟩, ih _ _ _ _ _ _ hc.2 h1 h2 hG (he'.puts hd den_undef) hst hk⟩
  | l i si pend r alt ihr iha =>
    intro e H ρ R a w hc h1 h2 hG he hst h
    simp only [chkSR, Bool.and_eq_true] at hc
    obtain ⟨⟨⟨hc1, hcp⟩, hcr⟩, hca⟩ := hc
    obtain ⟨o, ho, hg, hd, hck⟩ := chkSI_some hc1
    have both : guardV e si.g (fun e => opL P G si.s e H (fun v H => pendV G (puts e si.d v) H pend (vcR P G r (puts e si.d v) H K Kp)) Kp) (fun e => pendV G (puts e si.d (.tup [])) H pend (vcR P G r (puts e si.d (.tup [])) H K Kp)) ∧ wpC P ops Q alt.ct a w := by
      cases alt with
      | stop => exact ⟨h, trivial⟩
      | _ => exact ⟨h.l, iha _ _ _ _ _ _ hca h1 h2 hG he hst h.r⟩
    refine ⟨?_, both.2⟩
    have pendY : ∀ (e : Env) (H : List SO) (ρ : List Value) (R : Hp) (a : Act) (w : World), G.g R → EnvOK N D R ρ e a → St ρ R F H w → (∀ p ∈ pend, pend1 G e H p.2) →
        ∀ j ∈ pend.map (·.1), ∀ oj, ops[j]? = some oj → YA P ops oj (dstVal oj a) a w := by
      intro e H ρ R a w hG he hst hp j hj oj hoj
      obtain ⟨p, hpm, rfl⟩ := List.mem_map.1 hj
      obtain ⟨o', ho', hg', hd', hck'⟩ := chkSI_some (List.all_eq_true.1 hcp p hpm)
      rw [hoj] at ho'; cases ho'
      obtain ⟨hs, hst'⟩ := hst
      exact pend1_ok hG he hst' hg' hd' hck' (hp p hpm)
    obtain ⟨e', he', hcase⟩ := guard_ok he hg both.1
    unfold wpOp
    simp only [ho]
    rcases hcase with ⟨hw, hk⟩ | ⟨hw, hk⟩
    · simp only [hw, if_true]
      refine .inl (opL_ok hG he' hst hck hk _ _ (fun ρ' R' H' w' v sv g1 g2 g3 g4 g5 => ?_) (fun ρ' R' H' w' v sv g1 g2 g3 g4 g5 => hQp _ _ _ _ _ _ _ (h1.trans g1) (h2.trans g2) he'.defers g3 g4 g5))
      have hen := (he'.mono g2 g1).puts hd g4
      obtain ⟨p1, p2⟩ := pendV_ok g5
      exact ⟨pendY _ _ _ _ _ _ (G.mono _ _ g2 hG) hen g3 p1, ihr _ _ _ _ _ _ hcr (h1.trans g1) (h2.trans g2) (G.mono _ _ g2 hG) hen g3 p2⟩
    · simp only [hw, Bool.false_eq_true, if_false]
      have hen := he'.puts hd (den_undef (R := R) (ρ := ρ))
      obtain ⟨p1, p2⟩ := pendV_ok hk
      exact ⟨pendY _ _ _ _ _ _ hG hen hst p1, ihr _ _ _ _ _ _ hcr h1 h2 hG hen hst p2⟩
end
end Go.V
