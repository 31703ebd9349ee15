/- A contract at a call: what it does not speak of. -/
import Derived.Test.YtfdjmooifnmanaaDoorVO
namespace Go.V

/-- A CONTRACT AT A CALL. -/
theorem Con.frame {P : Program} {G : Glob} {f : FuncId} {args : List SV} {Hl : List SO} {Kl Kpl : SV → List SO → Prop} (h : Con P G f args Hl Kl Kpl) (σ : List Nat) {args' : List SV} {H : List SO} {K Kp : SV → List SO → Prop}
    (hargs : renL (sgn σ (lenO H)) args = args') (hsel : sel σ (sgn σ (lenO H)) H Hl) (hok : (okSel 0 (lenO H) σ && nlL (lenO Hl) args && nlO (lenO Hl) Hl) = true)
    (hK : ∀ v H', Kl v H' → forceS (renS (sgn σ (lenO H)) v) fun v => forceH (plug (sgn σ (lenO H)) H σ H') fun H => K v H)
    (hKp : ∀ v H', Kpl v H' → forceS (renS (sgn σ (lenO H)) v) fun v => forceH (plug (sgn σ (lenO H)) H σ H') fun H => Kp v H) : Con P G f args' H K Kp := by
  refine ⟨fun ρ R F w vals hG hd hst => ?_⟩
  obtain ⟨hs, hst⟩ := hst
  simp only [Bool.and_eq_true] at hok
  obtain ⟨⟨hok, hna⟩, hnh⟩ := hok
  rw [lenO_eq] at hna hnh
  rw [lenO_eq] at *
  obtain ⟨hnd, hlt⟩ := okSel_nodup hok
  have hlen := sel_len hsel
  -- the callee's names' values
  have hval : ∀ s ∈ σ, ∃ v, ρ[s]? = some v := fun s hs' => by
    have : s < ρ.length := by rw [hst.len]; exact hlt s hs'
    exact ⟨_, List.getElem?_eq_getElem this⟩
  let ρl : List Value := σ.map fun s => ρ.getD s undef
  have hρl : ∀ (i n : Nat), σ[i]? = some n → ρl[i]? = ρ[n]? := fun i n hi => by
    obtain ⟨v, hv⟩ := hval n (List.mem_of_getElem? hi)
    simp [ρl, hi, hv]
  have hρlen : ρl.length = Hl.length := by simp [ρl, hlen]
  have hback : ∀ (n : Nat) (x : Value), n < Hl.length → ρ[sgn σ H.length n]? = some x → ρl[n]? = some x := fun n x hn hx => by
    rw [hρl n _ (sgn_lt (by omega))]; exact hx
  have hdl : DenL R ρl args vals := denL_unren hback hna (by rw [hargs]; exact hd)
  -- what the callee does not speak of
  let F' : Fr := { F with h := fun b o => F b o ∨ ∃ n, n ∉ σ ∧ n < H.length ∧ hs n b o }
  have hstl : St ρl R F' Hl w := by
    refine ⟨fun i => match σ[i]? with | some n => hs n | none => emp, ?_⟩
    refine { len := hρlen, den := fun i o v hi hv => ?_, apart := fun i j hij b o1 o2 h1 h2 => ?_, own := fun i b o hb => ?_, apR := fun i b o1 o2 h1 h2 => ?_, apF := fun i b o1 o2 h1 h2 => ?_, subR := hst.subR,
             subF := fun b o hb => ?_, apRF := fun b o1 o2 h1 h2 => ?_, io := hst.io }
    · have hil : i < σ.length := by rw [hlen]; exact (List.getElem?_eq_some_iff.1 hi).1
      have hsi : σ[i]? = some σ[i] := List.getElem?_eq_getElem hil
      rw [hρl i _ hsi] at hv
      simp only [hsi]
      have hn := sel_get hsel hsi hi
      have hHn : H[σ[i]]? = some (renO (sgn σ H.length) o) := by
        have hl : σ[i] < H.length := hlt _ (List.getElem_mem hil)
        rw [nthO_eq] at hn
        simp [hl] at hn
        rw [List.getElem?_eq_getElem hl, hn]
      exact so_unren hback (nlO_get hnh i o hi) (hst.den _ _ _ hHn hv)
    · cases hi : σ[i]? with
      | none => simp only [hi] at h1; exact h1
      | some n =>
        cases hj : σ[j]? with
        | none => simp only [hj] at h2; exact h2
        | some m =>
          simp only [hi] at h1; simp only [hj] at h2
          exact hst.apart n m (fun e => hij (idx_of hnd hi (e ▸ hj))) b o1 o2 h1 h2
    · cases hi : σ[i]? with
      | none => simp only [hi] at hb; exact hb.elim
      | some n => simp only [hi] at hb; exact hst.own n b o hb
    · cases hi : σ[i]? with
      | none => simp only [hi] at h1; exact h1
      | some n => simp only [hi] at h1; exact hst.apR n b o1 o2 h1 h2
    · cases hi : σ[i]? with
      | none => simp only [hi] at h1; exact h1
      | some n =>
        simp only [hi] at h1
        rcases h2 with h2 | ⟨m, hm, _, h2⟩
        · exact hst.apF n b o1 o2 h1 h2
        · exact hst.apart n m (fun e => hm (e ▸ List.mem_of_getElem? hi)) b o1 o2 h1 h2
    · rcases hb with hb | ⟨m, _, _, hb⟩
      · exact hst.subF b o hb
      · exact hst.own m b o hb
    · rcases h2 with h2 | ⟨m, _, _, h2⟩
      · exact hst.apRF b o1 o2 h1 h2
      · exact hst.apR m b o2 o1 h2 h1
  refine (h.run ρl R F' w vals hG hdl hstl).mono fun en w' hc => ?_
  obtain ⟨ρl', R', H', e1, e2, hst', hcase⟩ := hc
  obtain ⟨hs', hst'⟩ := hst'
  have hll : Hl.length ≤ H'.length := by
    rw [← hst'.len, ← hρlen]
    rcases Nat.lt_or_ge ρl'.length ρl.length with hlt' | hge
    · have h1 : ρl[ρl'.length]? = some ρl[ρl'.length] := List.getElem?_eq_getElem hlt'
      have h2 := e1 _ _ h1
      simp at h2
    · exact hge
  let ρ' : List Value := ρ ++ ρl'.drop Hl.length
  have hfw : ∀ (n : Nat) (x : Value), ρl'[n]? = some x → ρ'[sgn σ H.length n]? = some x := fun n x hx => by
    by_cases hn : n < σ.length
    · have hsn := sgn_lt (base := H.length) hn
      obtain ⟨v, hv⟩ := hval _ (List.mem_of_getElem? hsn)
      have h1 : ρl[n]? = some v := (hρl n _ hsn).trans hv
      have h2 := e1 _ _ h1
      rw [hx] at h2; cases h2
      exact Ext.append ρ _ _ _ hv
    · rw [sgn_ge (by omega)]
      have : ρ'[H.length + (n - σ.length)]? = (ρl'.drop Hl.length)[n - σ.length]? := by
        simp only [ρ']
        rw [List.getElem?_append_right (by rw [hst.len]; omega), hst.len, Nat.add_sub_cancel_left]
      rw [this, List.getElem?_drop, hlen.symm, show σ.length + (n - σ.length) = n by omega]
      exact hx
  have hplen := plug_len (f := sgn σ H.length) σ H H' (by omega)
  have hnew : St ρ' R' F (plug (sgn σ H.length) H σ H') w' := by
    -- where a name's blocks are now
    let at' : Nat → Hp := fun n => fun b o => (∃ i, σ[i]? = some n ∧ hs' i b o) ∨ (n ∉ σ ∧ n < H.length ∧ hs n b o) ∨ (H.length ≤ n ∧ hs' (n - H.length + σ.length) b o)
    have atS : ∀ i n, σ[i]? = some n → at' n = hs' i := fun i n hi => by
      funext b o
      apply propext
      constructor
      · rintro (⟨j, hj, h'⟩ | ⟨hn, _⟩ | ⟨hn, _⟩)
        · rw [idx_of hnd hi hj]; exact h'
        · exact (hn (List.mem_of_getElem? hi)).elim
        · have := hlt n (List.mem_of_getElem? hi); omega
      · exact fun h' => .inl ⟨i, hi, h'⟩
    have atO : ∀ n, n ∉ σ → n < H.length → at' n = hs n := fun n hn hl => by
      funext b o
      apply propext
      constructor
      · rintro (⟨j, hj, h'⟩ | ⟨_, _, h'⟩ | ⟨h', _⟩)
        · exact (hn (List.mem_of_getElem? hj)).elim
        · exact h'
        · omega
      · exact fun h' => .inr (.inl ⟨hn, hl, h'⟩)
    have atN : ∀ n, H.length ≤ n → at' n = hs' (n - H.length + σ.length) := fun n hn => by
      funext b o
      apply propext
      constructor
      · rintro (⟨j, hj, h'⟩ | ⟨_, h', _⟩ | ⟨_, h'⟩)
        · have := hlt n (List.mem_of_getElem? hj); omega
        · omega
        · exact h'
      · exact fun h' => .inr (.inr ⟨hn, h'⟩)
    have cases3 : ∀ n, (∃ i, σ[i]? = some n ∧ i < σ.length) ∨ (n ∉ σ ∧ n < H.length) ∨ H.length ≤ n := fun n => by
      by_cases hm : n ∈ σ
      · obtain ⟨i, hi⟩ := List.getElem?_of_mem hm
        exact .inl ⟨i, hi, (List.getElem?_eq_some_iff.1 hi).1⟩
      · by_cases hl : n < H.length
        · exact .inr (.inl ⟨hm, hl⟩)
        · exact .inr (.inr (by omega))
    have inF : ∀ n, n ∉ σ → n < H.length → ∀ b o, hs n b o → F' b o := fun n h1 h2 b o h3 => .inr ⟨n, h1, h2, h3⟩
    refine ⟨at', { len := ?_, den := fun n o v hn hv => ?_, apart := fun m n hmn b o1 o2 h1 h2 => ?_, own := fun n b o hb => ?_, apR := fun n b o1 o2 h1 h2 => ?_, apF := fun n b o1 o2 h1 h2 => ?_,
                   subR := hst'.subR, subF := fun b o hb => hst'.subF b o (.inl hb), apRF := fun b o1 o2 h1 h2 => hst'.apRF b o1 o2 h1 (.inl h2), io := hst'.io }⟩
    · simp only [ρ', List.length_append, List.length_drop, hst.len, hplen, hst'.len, hlen]
    · rcases cases3 n with ⟨i, hi, hil⟩ | ⟨hm, hl⟩ | hl
      · rw [atS i n hi]
        rw [plug_at σ H H' i n (by omega) hnd hi (hlt n (List.mem_of_getElem? hi))] at hn
        obtain ⟨o0, h1, rfl⟩ := Option.map_eq_some_iff.1 hn
        have hvl : ρl'[i]? = some v := by
          have : i < ρl'.length := by rw [hst'.len]; omega
          have h2 := hfw i _ (List.getElem?_eq_getElem this)
          have hsi : sgn σ H.length i = n := by
            have := sgn_lt (base := H.length) hil
            rw [hi] at this; exact (Option.some.inj this).symm
          rw [hsi, hv] at h2
          rw [List.getElem?_eq_getElem this, h2]
        exact so_ren hfw (hst'.den i o0 v h1 hvl)
      · rw [atO n hm hl]
        rw [plug_old σ H H' n (by omega) hm hl] at hn
        have hnl : n < ρ.length := by rw [hst.len]; exact hl
        have hv' : ρ[n]? = some v := by
          simp only [ρ'] at hv
          rw [List.getElem?_append_left hnl] at hv; exact hv
        exact (hst.den n o v hn hv').mono e2 (Ext.append _ _)
      · rw [atN n hl]
        have hn' : (plug (sgn σ H.length) H σ H')[H.length + (n - H.length)]? = some o := by rw [show H.length + (n - H.length) = n by omega]; exact hn
        rw [plug_new σ H H' (n - H.length) (by omega)] at hn'
        obtain ⟨o0, h1, rfl⟩ := Option.map_eq_some_iff.1 hn'
        rw [Nat.add_comm] at h1
        have hvl : ρl'[n - H.length + σ.length]? = some v := by
          have hlt2 : n - H.length + σ.length < ρl'.length := by rw [hst'.len]; exact (List.getElem?_eq_some_iff.1 h1).1
          have h2 := hfw _ _ (List.getElem?_eq_getElem hlt2)
          rw [sgn_ge (by omega), show H.length + (n - H.length + σ.length - σ.length) = n by omega, hv] at h2
          rw [List.getElem?_eq_getElem hlt2, h2]
        exact so_ren hfw (hst'.den _ o0 v h1 hvl)
    · rcases cases3 m with ⟨i, hi, hil⟩ | ⟨hm, hl⟩ | hl <;> rcases cases3 n with ⟨j, hj, hjl⟩ | ⟨hm', hl'⟩ | hl'
      · rw [atS i m hi] at h1; rw [atS j n hj] at h2
        exact hst'.apart i j (fun e => hmn (by subst e; rw [hi] at hj; exact Option.some.inj hj)) b o1 o2 h1 h2
      · rw [atS i m hi] at h1; rw [atO n hm' hl'] at h2
        exact hst'.apF i b o1 o2 h1 (inF n hm' hl' _ _ h2)
      · rw [atS i m hi] at h1; rw [atN n hl'] at h2
        exact hst'.apart i _ (by omega) b o1 o2 h1 h2
      · rw [atO m hm hl] at h1; rw [atS j n hj] at h2
        exact hst'.apF j b o2 o1 h2 (inF m hm hl _ _ h1)
      · rw [atO m hm hl] at h1; rw [atO n hm' hl'] at h2
        exact hst.apart m n hmn b o1 o2 h1 h2
      · rw [atO m hm hl] at h1; rw [atN n hl'] at h2
        exact hst'.apF _ b o2 o1 h2 (inF m hm hl _ _ h1)
      · rw [atN m hl] at h1; rw [atS j n hj] at h2
        exact hst'.apart _ j (by omega) b o1 o2 h1 h2
      · rw [atN m hl] at h1; rw [atO n hm' hl'] at h2
        exact hst'.apF _ b o1 o2 h1 (inF n hm' hl' _ _ h2)
      · rw [atN m hl] at h1; rw [atN n hl'] at h2
        exact hst'.apart _ _ (by omega) b o1 o2 h1 h2
    · rcases cases3 n with ⟨i, hi, hil⟩ | ⟨hm, hl⟩ | hl
      · rw [atS i n hi] at hb; exact hst'.own i b o hb
      · rw [atO n hm hl] at hb; exact hst'.subF b o (inF n hm hl _ _ hb)
      · rw [atN n hl] at hb; exact hst'.own _ b o hb
    · rcases cases3 n with ⟨i, hi, hil⟩ | ⟨hm, hl⟩ | hl
      · rw [atS i n hi] at h1; exact hst'.apR i b o1 o2 h1 h2
      · rw [atO n hm hl] at h1; exact hst'.apRF b o2 o1 h2 (inF n hm hl _ _ h1)
      · rw [atN n hl] at h1; exact hst'.apR _ b o1 o2 h1 h2
    · rcases cases3 n with ⟨i, hi, hil⟩ | ⟨hm, hl⟩ | hl
      · rw [atS i n hi] at h1; exact hst'.apF i b o1 o2 h1 (.inl h2)
      · rw [atO n hm hl] at h1; exact hst.apF n b o1 o2 h1 h2
      · rw [atN n hl] at h1; exact hst'.apF _ b o1 o2 h1 (.inl h2)
  refine ⟨ρ', R', _, Ext.append _ _, e2, hnew, ?_⟩
  rcases hcase with ⟨v, sv, rfl, h1, h2⟩ | ⟨v, sv, rfl, h1, h2⟩
  · exact .inl ⟨v, _, rfl, den_ren hfw h1, forceH_iff.1 (forceS_iff.1 (hK _ _ h2))⟩
  · exact .inr ⟨v, _, rfl, den_ren hfw h1, forceH_iff.1 (forceS_iff.1 (hKp _ _ h2))⟩
end Go.V
