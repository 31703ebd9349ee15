/- Ghost steps: a heap seen otherwise; several objects seen as one. -/
import Derived.Test.YtfdjmooifnmanaaDoorVP
namespace Go.V

section
variable {P : Program} {G : Glob} {f : FuncId} {args : List SV} {H H' : List SO} {K Kp : SV → List SO → Prop}

theorem Con.ghost (H' : List SO) (he : HEnt H H') (h : Con P G f args H' K Kp) : Con P G f args H K Kp := ⟨fun ρ R F w vals hG hd hst => by
  obtain ⟨ρ', R', e1, r1, s1⟩ := he ρ R F w hst
  refine (h.run ρ' R' F w vals (G.mono _ _ r1 hG) (hd.mono r1 e1) s1).mono fun en w' hc => ?_
  obtain ⟨ρ2, R2, H2, g1, g2, g3, g4⟩ := hc
  exact ⟨ρ2, R2, H2, e1.trans g1, r1.trans g2, g3, g4⟩⟩

/-- what lies there is one of several things -/
theorem Con.cases {ι : Type} (Hs : ι → List SO) (he : ∀ (ρ : List Value) (R : Hp) (F : Fr) (w : World), St ρ R F H w → ∃ i, St ρ R F (Hs i) w) (h : ∀ i, Con P G f args (Hs i) K Kp) : Con P G f args H K Kp := ⟨fun ρ R F w vals hG hd hst => by
  obtain ⟨i, hi⟩ := he ρ R F w hst
  exact (h i).run ρ R F w vals hG hd hi⟩

/-- a list that is handed on, and nobody writes any more -/
theorem Con.freeze (n : Nat) (c : Codec) (xs : List c.E) (hn : nthO H n = .list c xs) (h : Con P G f (frzL n (.ro c.E c.dflt c.k c.enc xs) args) (setO H n .gone) K Kp) : Con P G f args H K Kp := ⟨fun ρ R F w vals hG hd hst => by
  obtain ⟨R', r1, s1, d1⟩ := hst.freeze hn
  refine (h.run ρ R' F w vals (G.mono _ _ r1 hG) (denL_frz hd r1 d1) s1).mono fun en w' hc => ?_
  obtain ⟨ρ2, R2, H2, g1, g2, g3, g4⟩ := hc
  exact ⟨ρ2, R2, H2, g1, r1.trans g2, g3, g4⟩⟩

/-- ghost steps behind a call -/
theorem Con.post {K' Kp' : SV → List SO → Prop} (h : Con P G f args H K' Kp') (hk : ∀ v H1, K' v H1 → VRet (lenO H) v H1 K) (hkp : ∀ v H1, Kp' v H1 → VRet (lenO H) v H1 Kp) : Con P G f args H K Kp :=
  ⟨fun ρ R F w vals hG hd hst => (h.run ρ R F w vals hG hd hst).mono fun en w' hc => by
    obtain ⟨ρ2, R2, H2, g1, g2, g3, g4⟩ := hc
    have hl : ρ.length = lenO H := by obtain ⟨hs, hst⟩ := hst; rw [lenO_eq, hst.len]
    rcases g4 with ⟨v, sv, e1, e2, e3⟩ | ⟨v, sv, e1, e2, e3⟩
    · obtain ⟨ρ3, R3, H3, v3, x1, x2, x3, x4, x5⟩ := vret_ok (hk _ _ e3) hl g1 g3 e2
      exact ⟨ρ3, R3, H3, x1, g2.trans x2, x3, .inl ⟨v, v3, e1, x4, x5⟩⟩
    · obtain ⟨ρ3, R3, H3, v3, x1, x2, x3, x4, x5⟩ := vret_ok (hkp _ _ e3) hl g1 g3 e2
      exact ⟨ρ3, R3, H3, x1, g2.trans x2, x3, .inr ⟨v, v3, e1, x4, x5⟩⟩⟩

/-- what lies there is seen otherwise, and at the end as it was -/
theorem Con.open' (H' : List SO) (he : HEnt H H') (h : Con P G f args H' (fun v H1 => VRet (lenO H) v H1 K) (fun v H1 => VRet (lenO H) v H1 Kp)) : Con P G f args H K Kp :=
  Con.post (Con.ghost H' he h) (fun _ _ h => h) (fun _ _ h => h)

/-- an empty list in the place of nothing -/
theorem HEnt.newNil (H : List SO) (c : Codec) : HEnt H (H ++ [.list c []]) := fun ρ R _ _ ⟨_, hst⟩ =>
  ⟨ρ ++ [.slice none 0 0], R, Ext.append _ _, HLe.refl _, hst.alloc (h' := emp) (fun _ _ => rfl) (fun _ _ h => h.elim) (.inl ⟨rfl, rfl⟩)⟩

theorem HEnt.set {n : Nat} {o : SO} (h : OLe (nthO H n) o) : HEnt H (setO H n o) := fun ρ R F w ⟨hs, hst⟩ => by
  refine ⟨ρ, R, Ext.refl _, HLe.refl _, hs, { hst with len := by rw [hst.len, setO_eq, List.length_set], den := fun m o' u hm hu => ?_ }⟩
  rw [setO_eq] at hm
  by_cases e : m = n
  · subst e
    have hlt : m < H.length := by
      have := (List.getElem?_eq_some_iff.1 hm).1
      simpa using this
    rw [List.getElem?_set_self hlt] at hm
    cases hm
    have hn : nthO H m = H[m] := by rw [nthO_eq]; simp [hlt]
    exact h.h _ _ _ _ (by rw [hn]; exact hst.den m _ u (List.getElem?_eq_getElem hlt) hu)
  · rw [List.getElem?_set_ne (Ne.symm e)] at hm
    exact hst.den m o' u hm hu
end

/-- one of two things -/
def orP (A B : Pred) : Pred where
  p ns v R h := A.p ns v R h ∨ B.p ns v R h
  mono ns v R R' h hR := Or.imp (A.mono ns v R R' h hR) (B.mono ns v R R' h hR)
theorem OLe.or1 {ns : List Nat} {A B : Pred} : OLe (.abs ns A) (.abs ns (orP A B)) := ⟨fun _ _ _ _ ⟨vs, h1, h2⟩ => ⟨vs, h1, .inl h2⟩⟩
theorem OLe.or2 {ns : List Nat} {A B : Pred} : OLe (.abs ns B) (.abs ns (orP A B)) := ⟨fun _ _ _ _ ⟨vs, h1, h2⟩ => ⟨vs, h1, .inr h2⟩⟩
theorem St.or {H : List SO} {R : Hp} {F : Fr} {ρ : List Value} {w : World} {n : Nat} {ns : List Nat} {A B : Pred} (hst : St ρ R F H w) (hn : nthO H n = .abs ns (orP A B)) :
    ∃ b : Bool, St ρ R F (setO H n (.abs ns (bif b then A else B))) w := by
  obtain ⟨hs, hst⟩ := hst
  obtain ⟨v, hv, hso⟩ := hst.get hn (by simp)
  obtain ⟨vs, h1, h2⟩ := hso
  have key : ∀ o, SODen R ρ v o (hs n) → St ρ R F (setO H n o) w := fun o ho => by
    refine ⟨hs, { hst with len := by rw [hst.len, setO_eq, List.length_set], den := fun m o' u hm hu => ?_ }⟩
    rw [setO_eq] at hm
    by_cases e : m = n
    · subst e
      have hlt : m < H.length := by
        have := (List.getElem?_eq_some_iff.1 hm).1
        simpa using this
      rw [List.getElem?_set_self hlt] at hm
      cases hm
      rw [hv] at hu; cases hu
      exact ho
    · rw [List.getElem?_set_ne (Ne.symm e)] at hm
      exact hst.den m o' u hm hu
  rcases h2 with h2 | h2
  · exact ⟨true, key _ ⟨vs, h1, h2⟩⟩
  · exact ⟨false, key _ ⟨vs, h1, h2⟩⟩

/-- SEVERAL OBJECTS AS ONE: L's first one is its head; L may speak, behind its own names, of names of others ('ns'). -/
def packPred (L : List SO) : Pred where
  p ns v R h := ∃ (ρi : List Value) (hs : Nat → Hp), ρi.length = L.length ∧ ρi[0]? = some v ∧
    (∀ (n : Nat) (o : SO) (u : Value), L[n]? = some o → ρi[n]? = some u → SODen R (ρi ++ ns) u o (hs n)) ∧
    (∀ m n, m ≠ n → Disj (hs m) (hs n)) ∧ (∀ n b o, hs n b o → h b o)
  mono := fun _ _ _ _ _ hR ⟨ρi, hs, h1, h2, h3, h4, h5⟩ => ⟨ρi, hs, h1, h2, fun n o u a b => (h3 n o u a b).mono hR (Ext.refl _), h4, h5⟩

def pack (ns : List Nat) (L : List SO) : SO := .abs ns (packPred L)

/-- a packed object is opened: its parts but the head come behind the others -/
def openO (H : List SO) (n : Nat) (ns : List Nat) (L : List SO) : List SO :=
  plug (sgn (n :: (List.range' H.length (L.length - 1) ++ ns)) 0) H [n] L

section
variable {H : List SO} {R : Hp} {F : Fr} {ρ : List Value} {w : World}

theorem sgn_append_left : ∀ {a b : List Nat} {base n : Nat}, n < a.length → sgn (a ++ b) base n = a.getD n 0
  | [], _, _, _, h => by simp at h
  | x :: a, b, base, 0, _ => by simp [sgn]
  | x :: a, b, base, n + 1, h => by simp [sgn, sgn_append_left (a := a) (b := b) (base := base) (n := n) (by simpa using h)]

theorem HEnt.unpack {n : Nat} {ns : List Nat} {L : List SO} (hn : nthO H n = pack ns L) (hL : 0 < L.length) : HEnt H (openO H n ns L) := fun ρ R F w ⟨hs, hst⟩ => by
  obtain ⟨v, hv, hso⟩ := hst.get hn (by simp [pack])
  obtain ⟨vs, hvs, ρi, hi, h1, h2, h3, h4, h5⟩ := hso
  have hnl : n < H.length := (List.getElem?_eq_some_iff.1 (nthO_some hn (by simp [pack]))).1
  have hvl : vs.length = ns.length := by have := congrArg List.length hvs; simpa using this.symm
  -- names
  let σ : List Nat := n :: (List.range' H.length (L.length - 1) ++ ns)
  let ρ' : List Value := ρ ++ ρi.drop 1
  have hρl : ρ'.length = H.length + (L.length - 1) := by simp [ρ', hst.len, h1]
  have hσ : ∀ (i : Nat) (x : Value), (ρi ++ vs)[i]? = some x → ρ'[sgn σ 0 i]? = some x := by
    intro i x hx
    cases i with
    | zero =>
      have : (ρi ++ vs)[0]? = ρi[0]? := by rw [List.getElem?_append_left (by omega)]
      rw [this, h2] at hx; cases hx
      exact Ext.append _ _ _ _ hv
    | succ i =>
      show ρ'[sgn (List.range' H.length (L.length - 1) ++ ns) 0 i]? = some x
      by_cases hi1 : i + 1 < L.length
      · rw [sgn_append_left (by simp; omega)]
        have : (List.range' H.length (L.length - 1)).getD i 0 = H.length + i := by
          simp [List.getD, show i < L.length - 1 by omega]
        rw [this]
        simp only [ρ']
        rw [List.getElem?_append_right (by rw [hst.len]; omega), hst.len, Nat.add_sub_cancel_left, List.getElem?_drop, Nat.add_comm 1 i]
        rw [List.getElem?_append_left (by omega)] at hx
        exact hx
      · have hb : (ρi ++ vs)[i + 1]? = vs[i + 1 - L.length]? := by rw [List.getElem?_append_right (by omega), h1]
        rw [hb] at hx
        have hlt : i + 1 - L.length < ns.length := by rw [← hvl]; exact (List.getElem?_eq_some_iff.1 hx).1
        have hs2 : sgn (List.range' H.length (L.length - 1) ++ ns) 0 i = ns.getD (i + 1 - L.length) 0 := by
          have e := sgn_lt (σ := List.range' H.length (L.length - 1) ++ ns) (base := 0) (n := i) (by simp; omega)
          rw [List.getElem?_append_right (by simp; omega)] at e
          simp only [List.length_range'] at e
          rw [show i - (L.length - 1) = i + 1 - L.length by omega] at e
          simp [List.getD, e]
        rw [hs2]
        have hnsx : ns[i + 1 - L.length]? = some (ns.getD (i + 1 - L.length) 0) := by simp [hlt]
        have e2 : (ns.map (ρ[·]?))[i + 1 - L.length]? = (vs.map some)[i + 1 - L.length]? := by rw [hvs]
        rw [List.getElem?_map, List.getElem?_map, hnsx, hx] at e2
        simp only [Option.map_some, Option.some.injEq] at e2
        exact Ext.append _ _ _ _ e2
  refine ⟨ρ', R, Ext.append _ _, HLe.refl _, ?_⟩
  have hplen := plug_len (f := sgn σ 0) [n] H L (by simp; omega)
  have hin : ∀ i b o, hi i b o → hs n b o := fun i b o h => h5 i b o h
  let at' : Nat → Hp := fun m => if m = n then hi 0 else if m < H.length then hs m else hi (m - H.length + 1)
  have inn : ∀ m, (m = n ∨ H.length ≤ m) → ∃ i, at' m = hi i ∧ (∀ m', (m' = n ∨ H.length ≤ m') → ∀ i', at' m' = hi i' → i' = (if m' = n then 0 else m' - H.length + 1) → True) := fun m hm => by
    by_cases e : m = n
    · exact ⟨0, by simp [at', e], fun _ _ _ _ _ => trivial⟩
    · exact ⟨m - H.length + 1, by
        have : ¬ m < H.length := by rcases hm with h | h <;> omega
        simp [at', e, this], fun _ _ _ _ _ => trivial⟩
  have c3 : ∀ m, (m = n ∧ at' m = hi 0) ∨ (m ≠ n ∧ m < H.length ∧ at' m = hs m) ∨ (m ≠ n ∧ H.length ≤ m ∧ at' m = hi (m - H.length + 1)) := fun m => by
    by_cases e : m = n
    · exact .inl ⟨e, by simp [at', e]⟩
    · by_cases hl : m < H.length
      · exact .inr (.inl ⟨e, hl, by simp [at', e, hl]⟩)
      · exact .inr (.inr ⟨e, by omega, by simp [at', e, hl]⟩)
  refine ⟨at', { len := ?_, den := fun m o u hm hu => ?_, apart := fun m k hmk b o1 o2 g1 g2 => ?_, own := fun m b o hb => ?_, apR := fun m b o1 o2 g1 g2 => ?_, apF := fun m b o1 o2 g1 g2 => ?_, subR := hst.subR, subF := hst.subF, apRF := hst.apRF, io := hst.io }⟩
  · show ρ'.length = (plug (sgn σ 0) H [n] L).length
    rw [hρl, hplen]; simp
  · have hm : (plug (sgn σ 0) H [n] L)[m]? = some o := hm
    rcases c3 m with ⟨rfl, ha⟩ | ⟨e, hl, ha⟩ | ⟨e, hl, ha⟩
    · rw [ha]
      rw [plug_at [m] H L 0 m (by simp; omega) (by simp) rfl hnl] at hm
      obtain ⟨o0, q1, rfl⟩ := Option.map_eq_some_iff.1 hm
      have hu' : u = v := by
        have := Ext.append ρ (ρi.drop 1) _ _ hv
        have hu2 : (ρ ++ ρi.drop 1)[m]? = some u := hu
        rw [this] at hu2; exact (Option.some.inj hu2).symm
      subst hu'
      exact so_ren hσ (h3 0 o0 u q1 h2)
    · rw [ha]
      rw [plug_old [n] H L m (by simp; omega) (by simpa using e) hl] at hm
      have hu2 : ρ[m]? = some u := by
        have : (ρ ++ ρi.drop 1)[m]? = some u := hu
        rw [List.getElem?_append_left (by rw [hst.len]; exact hl)] at this; exact this
      exact (hst.den m o u hm hu2).mono (HLe.refl _) (Ext.append _ _)
    · rw [ha]
      have hm' : (plug (sgn σ 0) H [n] L)[H.length + (m - H.length)]? = some o := by rw [show H.length + (m - H.length) = m by omega]; exact hm
      rw [plug_new [n] H L (m - H.length) (by simp; omega)] at hm'
      obtain ⟨o0, q1, rfl⟩ := Option.map_eq_some_iff.1 hm'
      simp only [List.length_cons, List.length_nil] at q1
      have q2 : (ρi)[m - H.length + 1]? = some u := by
        have : (ρ ++ ρi.drop 1)[m]? = some u := hu
        rw [List.getElem?_append_right (by rw [hst.len]; omega), hst.len, List.getElem?_drop] at this
        rw [Nat.add_comm]; exact this
      have q1' : L[m - H.length + 1]? = some o0 := by rw [Nat.add_comm]; simpa using q1
      exact so_ren hσ (h3 _ o0 u q1' q2)
  · rcases c3 m with ⟨e, ha⟩ | ⟨e, hl, ha⟩ | ⟨e, hl, ha⟩ <;> rcases c3 k with ⟨e', ha'⟩ | ⟨e', hl', ha'⟩ | ⟨e', hl', ha'⟩ <;> rw [ha] at g1 <;> rw [ha'] at g2
    · exact hmk (e.trans e'.symm)
    · exact hst.apart n k (fun x => e' x.symm) b o1 o2 (hin _ _ _ g1) g2
    · exact h4 _ _ (by omega) b o1 o2 g1 g2
    · exact hst.apart m n e b o1 o2 g1 (hin _ _ _ g2)
    · exact hst.apart m k hmk b o1 o2 g1 g2
    · exact hst.apart m n e b o1 o2 g1 (hin _ _ _ g2)
    · exact h4 _ _ (by omega) b o1 o2 g1 g2
    · exact hst.apart n k (fun x => e' x.symm) b o1 o2 (hin _ _ _ g1) g2
    · exact h4 _ _ (by omega) b o1 o2 g1 g2
  · rcases c3 m with ⟨e, ha⟩ | ⟨e, hl, ha⟩ | ⟨e, hl, ha⟩ <;> rw [ha] at hb
    · exact hst.own n b o (hin _ _ _ hb)
    · exact hst.own m b o hb
    · exact hst.own n b o (hin _ _ _ hb)
  · rcases c3 m with ⟨e, ha⟩ | ⟨e, hl, ha⟩ | ⟨e, hl, ha⟩ <;> rw [ha] at g1
    · exact hst.apR n b o1 o2 (hin _ _ _ g1) g2
    · exact hst.apR m b o1 o2 g1 g2
    · exact hst.apR n b o1 o2 (hin _ _ _ g1) g2
  · rcases c3 m with ⟨e, ha⟩ | ⟨e, hl, ha⟩ | ⟨e, hl, ha⟩ <;> rw [ha] at g1
    · exact hst.apF n b o1 o2 (hin _ _ _ g1) g2
    · exact hst.apF m b o1 o2 g1 g2
    · exact hst.apF n b o1 o2 (hin _ _ _ g1) g2

def gones : List Nat → List SO → List SO
  | [], H => H
  | n :: r, H => gones r (setO H n .gone)

theorem gones_get : ∀ (l : List Nat) (H : List SO) (m : Nat), (gones l H)[m]? = if m ∈ l then (H[m]?).map (fun _ => .gone) else H[m]?
  | [], H, m => by simp [gones]
  | n :: r, H, m => by
    simp only [gones]
    rw [gones_get r, setO_eq]
    by_cases h1 : m ∈ r
    · simp only [h1, if_true, List.mem_cons, or_true]
      rw [List.getElem?_set]
      split
      · rename_i h; subst h
        split
        · rename_i h2; simp [h2]
        · rename_i h2; simp [List.getElem?_eq_none (Nat.le_of_not_lt h2)]
      · rfl
    · simp only [h1, if_false, List.mem_cons, or_false]
      by_cases h2 : m = n
      · subst h2
        simp only [if_true]
        rw [List.getElem?_set]
        simp only [if_true]
        split
        · rename_i h3; simp [h3]
        · rename_i h3; simp [List.getElem?_eq_none (Nat.le_of_not_lt h3)]
      · simp only [h2, if_false]
        rw [List.getElem?_set_ne (Ne.symm h2)]
theorem gones_len : ∀ (l : List Nat) (H : List SO), (gones l H).length = H.length
  | [], _ => rfl
  | n :: r, H => by simp only [gones]; rw [gones_len r, setO_eq, List.length_set]

/-- several objects are packed into one: σ are their names, the head's first -/
theorem HEnt.packed {n : Nat} {σ ns : List Nat} {L : List SO} (hsel : sel (n :: σ) (sgn (n :: (σ ++ ns)) 0) H L) (hok : okSel 0 (lenO H) (n :: σ) = true) (hns : (ns.all (Nat.blt · (lenO H))) = true)
    (hnl : nlO (lenO L + ns.length) L = true) : HEnt H (setO (gones σ H) n (pack ns L)) := fun ρ R F w ⟨hs, hst⟩ => by
  rw [lenO_eq] at hok hns hnl
  obtain ⟨hnd, hlt⟩ := okSel_nodup hok
  have hlen := sel_len hsel
  have hval : ∀ s, s < H.length → ∃ v, ρ[s]? = some v := fun s hs' => ⟨_, List.getElem?_eq_getElem (by rw [hst.len]; exact hs')⟩
  refine ⟨ρ, R, Ext.refl _, HLe.refl _, fun m => if m = n then (fun b o => ∃ (i : Nat) (s : Nat), (n :: σ)[i]? = some s ∧ hs s b o) else if m ∈ σ then emp else hs m, ?_⟩
  have hn : n < H.length := hlt n List.mem_cons_self
  let ρi : List Value := (n :: σ).map fun s => ρ.getD s undef
  have hρi : ∀ (i s : Nat), (n :: σ)[i]? = some s → ρi[i]? = ρ[s]? := fun i s hi => by
    obtain ⟨v, hv⟩ := hval s (hlt s (List.mem_of_getElem? hi))
    simp only [ρi]
    rw [List.getElem?_map, hi, hv]
    simp [hv]
  let vs : List Value := ns.map fun s => ρ.getD s undef
  have hnsl : ∀ s ∈ ns, s < H.length := fun s hs' => Nat.le_of_ble_eq_true (List.all_eq_true.1 hns s hs')
  have hvs : ns.map (ρ[·]?) = vs.map some := by
    simp only [vs, List.map_map]
    apply List.map_congr_left
    intro s hs'
    obtain ⟨v, hv⟩ := hval s (hnsl s hs')
    simp [hv]
  have hback : ∀ (i : Nat) (x : Value), i < L.length + ns.length → ρ[sgn (n :: (σ ++ ns)) 0 i]? = some x → (ρi ++ vs)[i]? = some x := by
    intro i x hi hx
    have hli : i < (n :: (σ ++ ns)).length := by simp at hlen ⊢; omega
    have e := sgn_lt (σ := n :: (σ ++ ns)) (base := 0) hli
    by_cases h1 : i < L.length
    · rw [List.getElem?_append_left (by simp [ρi]; simp at hlen; omega)]
      have e2 : (n :: σ)[i]? = some (sgn (n :: (σ ++ ns)) 0 i) := by
        rw [← e, show n :: (σ ++ ns) = (n :: σ) ++ ns from rfl, List.getElem?_append_left (by omega)]
      rw [hρi i _ e2]; exact hx
    · rw [List.getElem?_append_right (by simp [ρi]; simp at hlen; omega)]
      have e2 : ns[i - L.length]? = some (sgn (n :: (σ ++ ns)) 0 i) := by
        rw [← e, show n :: (σ ++ ns) = (n :: σ) ++ ns from rfl, List.getElem?_append_right (by omega), hlen]
      have : ρi.length = L.length := by simp [ρi]; simpa using hlen
      rw [this]
      simp only [vs]
      rw [List.getElem?_map, e2]
      simp [hx]
  have hsetlen : (setO (gones σ H) n (pack ns L)).length = H.length := by rw [setO_eq, List.length_set, gones_len]
  refine { len := by rw [hst.len, hsetlen], den := fun m o u hm hu => ?_, apart := fun m k hmk b o1 o2 g1 g2 => ?_, own := fun m b o hb => ?_, apR := fun m b o1 o2 g1 g2 => ?_, apF := fun m b o1 o2 g1 g2 => ?_, subR := hst.subR, subF := hst.subF, apRF := hst.apRF, io := hst.io }
  · rw [setO_eq] at hm
    by_cases e : m = n
    · subst e
      rw [List.getElem?_set_self (by rw [gones_len]; exact hn)] at hm
      cases hm
      simp only [if_true]
      refine ⟨vs, hvs, ρi, fun i => match (m :: σ)[i]? with | some s => hs s | none => emp, by simp [ρi]; simpa using hlen, ?_, fun i o' u' hi hu' => ?_, fun i j hij b o1 o2 g1 g2 => ?_, fun i b o hb => ?_⟩
      · rw [hρi 0 m rfl]; exact hu
      · have hil : i < (m :: σ).length := by rw [hlen]; exact (List.getElem?_eq_some_iff.1 hi).1
        have hsi : (m :: σ)[i]? = some (m :: σ)[i] := List.getElem?_eq_getElem hil
        simp only [hsi]
        rw [hρi i _ hsi] at hu'
        have hnn := sel_get hsel hsi hi
        have hl : (m :: σ)[i] < H.length := hlt _ (List.getElem_mem hil)
        have hHn : H[(m :: σ)[i]]? = some (renO (sgn (m :: (σ ++ ns)) 0) o') := by
          rw [nthO_eq] at hnn
          simp only [List.getD_eq_getElem?_getD, List.getElem?_eq_getElem hl, Option.getD_some] at hnn
          rw [List.getElem?_eq_getElem hl, hnn]
        exact so_unren hback (nlO_get hnl i o' hi) (hst.den _ _ _ hHn hu')
      · cases hi : (m :: σ)[i]? with
        | none => simp only [hi] at g1; exact g1
        | some s =>
          cases hj : (m :: σ)[j]? with
          | none => simp only [hj] at g2; exact g2
          | some t =>
            simp only [hi] at g1; simp only [hj] at g2
            exact hst.apart s t (fun e => hij (idx_of hnd hi (e ▸ hj))) b o1 o2 g1 g2
      · cases hi : (m :: σ)[i]? with
        | none => simp only [hi] at hb; exact hb.elim
        | some s => simp only [hi] at hb; exact ⟨i, s, hi, hb⟩
    · rw [List.getElem?_set_ne (Ne.symm e), gones_get] at hm
      by_cases h1 : m ∈ σ
      · simp only [h1, if_true] at hm
        obtain ⟨_, _, rfl⟩ := Option.map_eq_some_iff.1 hm
        trivial
      · simp only [h1, if_false] at hm
        simp only [e, h1, if_false]
        exact hst.den m o u hm hu
  · split at g1 <;> split at g2
    · rename_i e1 e2; exact hmk (e1.trans e2.symm)
    · rename_i e1 e2
      split at g2
      · exact g2
      · rename_i e3
        obtain ⟨i, s, hi, g1⟩ := g1
        refine hst.apart s k (fun e => ?_) b o1 o2 g1 g2
        subst e
        rcases List.mem_cons.1 (List.mem_of_getElem? hi) with h | h
        · exact e2 h
        · exact e3 h
    · rename_i e1 e2
      split at g1
      · exact g1
      · rename_i e3
        obtain ⟨i, s, hi, g2⟩ := g2
        refine hst.apart m s (fun e => ?_) b o1 o2 g1 g2
        subst e
        rcases List.mem_cons.1 (List.mem_of_getElem? hi) with h | h
        · exact e1 h
        · exact e3 h
    · split at g1
      · exact g1
      · split at g2
        · exact g2
        · exact hst.apart m k hmk b o1 o2 g1 g2
  · split at hb
    · obtain ⟨i, s, hi, hb⟩ := hb; exact hst.own s b o hb
    · split at hb
      · exact hb.elim
      · exact hst.own m b o hb
  · split at g1
    · obtain ⟨i, s, hi, g1⟩ := g1; exact hst.apR s b o1 o2 g1 g2
    · split at g1
      · exact g1
      · exact hst.apR m b o1 o2 g1 g2
  · split at g1
    · obtain ⟨i, s, hi, g1⟩ := g1; exact hst.apF s b o1 o2 g1 g2
    · split at g1
      · exact g1
      · exact hst.apF m b o1 o2 g1 g2

/-- several objects are packed into one, and that is seen as o -/
theorem HEnt.close (n : Nat) (σ ns : List Nat) (L : List SO) {o : SO} {H' : List SO} (hsel : sel (n :: σ) (sgn (n :: (σ ++ ns)) 0) H L)
    (hok : (okSel 0 (lenO H) (n :: σ) && ns.all (Nat.blt · (lenO H)) && nlO (lenO L + ns.length) L) = true) (hle : OLe (pack ns L) o) (he : setO (gones σ H) n o = H') : HEnt H H' := by
  simp only [Bool.and_eq_true] at hok
  have h1 := HEnt.packed hsel hok.1.1 hok.1.2 hok.2
  have hn : n < (gones σ H).length := by
    rw [gones_len]
    have := hok.1.1
    simp only [okSel, Bool.and_eq_true] at this
    have := Nat.le_of_ble_eq_true this.1.1
    rwa [lenO_eq] at this
  have e : nthO (setO (gones σ H) n (pack ns L)) n = pack ns L := by rw [nthO_eq, setO_eq]; simp [hn]
  have h2 := HEnt.set (H := setO (gones σ H) n (pack ns L)) (n := n) (o := o) (by rw [e]; exact hle)
  rw [show setO (setO (gones σ H) n (pack ns L)) n o = H' by rw [← he]; simp only [setO_eq, List.set_set]] at h2
  exact h1.trans h2

theorem denL_same {l : List SV} {vs : List Value} {i : Nat} {s : SV} (hl : DenL R ρ l vs) (hi : i < l.length) (hs : ∀ v, vs[i]? = some v → Den R ρ s v) : DenL R ρ (spliceS l i [s]) vs := by
  obtain ⟨v, hv, _⟩ := hl.get hi
  have h := DenL.splice (off := i) hl (.cons (hs v hv) .nil) (by simp; omega)
  have hlt : i < vs.length := by rw [← hl.1]; exact hi
  have e : vs.take i ++ [v] ++ vs.drop (i + [v].length) = vs := by
    have e1 : v = vs[i] := by rw [List.getElem?_eq_getElem hlt] at hv; exact (Option.some.inj hv).symm
    rw [e1]
    simp
  rw [e] at h
  exact h

theorem nthS_some {l : List SV} {i : Nat} {s : SV} (hi : nthS l i = s) (h : i < l.length) : l[i]? = some s := by
  rw [nthS_eq, List.getD_eq_getElem?_getD, List.getElem?_eq_getElem h] at hi
  rw [List.getElem?_eq_getElem h]; exact congrArg some hi

/-- a cell that holds no list, as one that holds an empty list of its own -/
theorem HEnt.nilCell (n i : Nat) (c : Codec) {l : List SV} {t : Option TypeId} {H' : List SO} (hn : nthO H n = .cells l t) (hi : nthS l i = .nils) (he : setO H n (.cells (spliceS l i [.ref (lenO H)]) t) ++ [.list c []] = H') : HEnt H H' := fun ρ R F w ⟨hs, hst⟩ => by
  subst he
  have hil : i < l.length := by
    by_cases h : i < l.length
    · exact h
    · rw [nthS_eq] at hi; simp [List.getElem?_eq_none (show l.length ≤ i by omega)] at hi
  have hnl : n < H.length := (List.getElem?_eq_some_iff.1 (nthO_some hn (by simp))).1
  have hnew : (ρ ++ [Value.slice none 0 0])[H.length]? = some (Value.slice none 0 0) := by rw [← hst.len]; simp
  refine ⟨ρ ++ [.slice none 0 0], R, Ext.append _ _, HLe.refl _, fun m => if m = H.length then emp else hs m, { len := by simp [hst.len, setO_eq], den := fun m o u hm hu => ?_, apart := fun m k hmk b o1 o2 g1 g2 => ?_, own := fun m b o hb => ?_, apR := fun m b o1 o2 g1 g2 => ?_, apF := fun m b o1 o2 g1 g2 => ?_, subR := hst.subR, subF := hst.subF, apRF := hst.apRF, io := hst.io }⟩
  · by_cases e : m = H.length
    · subst e
      rw [List.getElem?_append_right (by rw [setO_eq, List.length_set]; exact Nat.le_refl _)] at hm
      simp [setO_eq] at hm; subst hm
      rw [hnew] at hu; cases hu
      exact .inl ⟨rfl, rfl⟩
    · have hlt : m < H.length := by have := (List.getElem?_eq_some_iff.1 hm).1; simp [setO_eq] at this; omega
      rw [List.getElem?_append_left (by rw [setO_eq, List.length_set]; exact hlt), setO_eq] at hm
      have hu' : ρ[m]? = some u := by rw [List.getElem?_append_left (by rw [hst.len]; exact hlt)] at hu; exact hu
      simp only [e, if_false]
      by_cases e2 : m = n
      · subst e2
        rw [List.getElem?_set_self hlt] at hm; cases hm
        obtain ⟨b, ty, vs, rfl, h2, h3, h4⟩ := hst.den m _ u (nthO_some hn (by simp)) hu'
        refine ⟨b, ty, vs, rfl, h2, ?_, h4⟩
        refine denL_same (h3.mono (HLe.refl _) (Ext.append _ _)) hil fun v hv => ?_
        have hd := h3.2 i _ v (nthS_some hi hil) hv
        cases hd
        rw [lenO_eq]
        exact .ref hnew rfl
      · rw [List.getElem?_set_ne (Ne.symm e2)] at hm
        exact (hst.den m o u hm hu').mono (HLe.refl _) (Ext.append _ _)
  · split at g1
    · exact g1
    · split at g2
      · exact g2
      · exact hst.apart m k hmk b o1 o2 g1 g2
  · split at hb
    · exact hb.elim
    · exact hst.own m b o hb
  · split at g1
    · exact g1
    · exact hst.apR m b o1 o2 g1 g2
  · split at g1
    · exact g1
    · exact hst.apF m b o1 o2 g1 g2

/-- a list's object goes over to a new name, and a cell that speaks of it with it -/
theorem HEnt.moveRef (n i j : Nat) {c : Codec} {xs : List c.E} {l : List SV} {t : Option TypeId} {H' : List SO} (hn : nthO H n = .cells l t) (hi : nthS l i = .ref j) (hj : nthO H j = .list c xs)
    (he : setO (setO H n (.cells (spliceS l i [.ref (lenO H)]) t)) j .gone ++ [.list c xs] = H') : HEnt H H' := fun ρ R F w ⟨hs, hst⟩ => by
  subst he
  have hil : i < l.length := by
    by_cases h : i < l.length
    · exact h
    · rw [nthS_eq] at hi; simp [List.getElem?_eq_none (show l.length ≤ i by omega)] at hi
  have hne : n ≠ j := fun e => by subst e; rw [hn] at hj; cases hj
  obtain ⟨x, hx, hso⟩ := hst.get hj (by simp)
  have hjl : j < H.length := (List.getElem?_eq_some_iff.1 (nthO_some hj (by simp))).1
  have hnew : (ρ ++ [x])[H.length]? = some x := by rw [← hst.len]; simp
  have hone : one x = true := by rcases hso with ⟨rfl, _⟩ | ⟨b, cap, arr, rfl, _⟩ <;> rfl
  refine ⟨ρ ++ [x], R, Ext.append _ _, HLe.refl _, fun m => if m = H.length then hs j else if m = j then emp else hs m, { len := by simp [hst.len, setO_eq], den := fun m o u hm hu => ?_, apart := fun m k hmk b o1 o2 g1 g2 => ?_, own := fun m b o hb => ?_, apR := fun m b o1 o2 g1 g2 => ?_, apF := fun m b o1 o2 g1 g2 => ?_, subR := hst.subR, subF := hst.subF, apRF := hst.apRF, io := hst.io }⟩
  · by_cases e : m = H.length
    · subst e
      rw [List.getElem?_append_right (by simp [setO_eq])] at hm
      simp [setO_eq] at hm; subst hm
      rw [hnew] at hu; cases hu
      simp only [if_true]
      exact hso.mono (HLe.refl _) (Ext.append _ _)
    · have hlt : m < H.length := by have := (List.getElem?_eq_some_iff.1 hm).1; simp [setO_eq] at this; omega
      rw [List.getElem?_append_left (by simp [setO_eq]; exact hlt), setO_eq, setO_eq] at hm
      have hu' : ρ[m]? = some u := by rw [List.getElem?_append_left (by rw [hst.len]; exact hlt)] at hu; exact hu
      simp only [e, if_false]
      by_cases e3 : m = j
      · subst e3
        rw [List.getElem?_set_self (by simpa using hlt)] at hm; cases hm; trivial
      · rw [List.getElem?_set_ne (Ne.symm e3)] at hm
        simp only [e3, if_false]
        by_cases e2 : m = n
        · subst e2
          rw [List.getElem?_set_self hlt] at hm; cases hm
          obtain ⟨b, ty, vs, rfl, h2, h3, h4⟩ := hst.den m _ u (nthO_some hn (by simp)) hu'
          refine ⟨b, ty, vs, rfl, h2, ?_, h4⟩
          refine denL_same (h3.mono (HLe.refl _) (Ext.append _ _)) hil fun v hv => ?_
          have hd := h3.2 i _ v (nthS_some hi hil) hv
          cases hd with
          | ref h1 h2 =>
            rw [hx] at h1; cases h1
            rw [lenO_eq]
            exact .ref hnew h2
        · rw [List.getElem?_set_ne (Ne.symm e2)] at hm
          exact (hst.den m o u hm hu').mono (HLe.refl _) (Ext.append _ _)
  · have c3 : ∀ m b o, (if m = H.length then hs j else if m = j then emp else hs m) b o → (m = H.length ∧ hs j b o) ∨ (m ≠ H.length ∧ m ≠ j ∧ hs m b o) := fun m b o h => by
      split at h
      · exact .inl ⟨‹_›, h⟩
      · split at h
        · exact h.elim
        · exact .inr ⟨‹_›, ‹_›, h⟩
    rcases c3 _ _ _ g1 with ⟨e1, h1⟩ | ⟨e1, f1, h1⟩ <;> rcases c3 _ _ _ g2 with ⟨e2, h2⟩ | ⟨e2, f2, h2⟩
    · exact hmk (e1.trans e2.symm)
    · exact hst.apart j k (Ne.symm f2) b o1 o2 h1 h2
    · exact hst.apart m j f1 b o1 o2 h1 h2
    · exact hst.apart m k hmk b o1 o2 h1 h2
  · split at hb
    · exact hst.own j b o hb
    · split at hb
      · exact hb.elim
      · exact hst.own m b o hb
  · split at g1
    · exact hst.apR j b o1 o2 g1 g2
    · split at g1
      · exact g1
      · exact hst.apR m b o1 o2 g1 g2
  · split at g1
    · exact hst.apF j b o1 o2 g1 g2
    · split at g1
      · exact g1
      · exact hst.apF m b o1 o2 g1 g2
end
end Go.V
