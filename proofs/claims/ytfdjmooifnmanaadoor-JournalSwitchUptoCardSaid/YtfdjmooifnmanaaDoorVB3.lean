/- One order for all: the walk of the one order serves whatever order is drawn. -/
import Derived.Test.YtfdjmooifnmanaaDoorVB2
namespace Go.V

section
variable {P : Program} {ops : Array Oper} {Q : Exit → Act → World → Prop} {bef : List (List Nat)}

theorem SlA.iff {a0 : Act} {val : Nat → Value} {X Y : Nat → Prop} {a : Act} (h : SlA ops a0 val X a) (he : ∀ k, X k ↔ Y k) : SlA ops a0 val Y a :=
  ⟨h.size, fun t k hk hY hd => h.hit t k hk ((he k).2 hY) hd, fun t hm => h.miss t fun k hk hX hd => hm k hk ((he k).1 hX) hd⟩

theorem SlA.defers {a0 : Act} {val : Nat → Value} {X : Nat → Prop} {a : Act} (h : SlA ops a0 val X a) (ds : List Deferred) : SlA ops a0 val X { a with defers := ds } :=
  ⟨h.size, h.hit, h.miss⟩

def upd (val : Nat → Value) (i : Nat) (v : Value) : Nat → Value := fun k => if k = i then v else val k
theorem upd_self (val : Nat → Value) (i : Nat) (v : Value) : upd val i v i = v := by simp [upd]
theorem upd_ne {val : Nat → Value} {i k : Nat} {v : Value} (h : k ≠ i) : val k = upd val i v k := by simp [upd, h]

theorem readyIn_iff {D : List Nat} {i : Nat} : readyIn ops D i = true ↔ i < ops.size ∧ i ∉ D ∧ ∀ d ∈ deps ops i, d ∈ D := by
  simp [readyIn, and_assoc]

theorem closed_add {X : Nat → Prop} (hX : Closed ops X) {i : Nat} (hi : i < ops.size) (hd : ∀ d ∈ deps ops i, X d) {Y : Nat → Prop} (hY : ∀ k, Y k ↔ k = i ∨ X k) : Closed ops Y := by
  intro k hk
  rcases (hY k).1 hk with rfl | h
  · exact ⟨hi, fun d h => (hY d).2 (.inr (hd d h))⟩
  · exact ⟨(hX k h).1, fun d hd' => (hY d).2 (.inr ((hX k h).2 d hd'))⟩

theorem same_act {a0 : Act} {val : Nat → Value} {X Y : Nat → Prop} {a b : Act} (ha : SlA ops a0 val X a) (hb : SlA ops a0 val Y b) (hd : a.defers = b.defers)
    (h : ∀ k, k < ops.size → (X k ↔ Y k)) : a = b := by
  have ht : a.tmps = b.tmps := by
    apply Array.ext_getElem?
    intro t
    exact ha.agree hb fun k hk _ => h k hk
  cases a; cases b; simp_all

structure Br (P : Program) (ops : Array Oper) (Q : Exit → Act → World → Prop) (bef : List (List Nat)) (W R : List Nat) (i : Nat) (pend : List Nat) (r : CT) (a : Act) (w : World) : Prop where
  chk : ∀ j ∈ R, j ∈ befOf bef i ∨ (j ∈ pend ∧ (dstOf ops j).isSome = true ∧ ∀ k, (k = i ∨ k ∈ W ∨ k ∈ R) → k ∈ befOf bef j ∨ ∀ d, dstOf ops k = some d → d ∉ looks ops j)
  ok : ctOK ops bef r true (i :: W) R = true
  wp : wpOp P ops Q i (fun a' w' => (∀ j ∈ pend, ∀ oj, ops[j]? = some oj → YA P ops oj (dstVal oj a') a' w') ∧ wpC P ops Q r a' w') a w

theorem branch {W R : List Nat} {i : Nat} {a : Act} {w : World} : ∀ (c : CT) (top : Bool), ctOK ops bef c top W R = true → wpC P ops Q c a w → i ∈ heads c → ∃ pend r, Br P ops Q bef W R i pend r a w
  | .l i0 pend r alt, top, hok, hw, hi => by
    simp only [ctOK, Bool.and_eq_true] at hok
    obtain ⟨⟨⟨⟨_, _⟩, hR⟩, hr⟩, halt⟩ := hok
    by_cases h : i = i0
    · subst h
      refine ⟨pend, r, ⟨fun j hj => ?_, hr, hw.1⟩⟩
      have := List.all_eq_true.1 hR j hj
      simp only [Bool.or_eq_true, Bool.and_eq_true, List.contains_iff_mem, List.all_eq_true, List.mem_cons, List.mem_append] at this
      refine this.imp id fun h => ⟨h.1.1, h.1.2, fun k hk => (h.2 k hk).imp id fun h' d hd => ?_⟩
      rw [hd] at h'
      simpa using h'
    · have : i ∈ heads alt := by
        simp only [heads, List.mem_cons] at hi
        exact hi.resolve_left h
      exact branch alt false halt hw.2 this
  | .done, _, _, _, hi => by simp [heads] at hi
  | .stop, _, _, _, hi => by simp [heads] at hi
  | .w _ _, _, _, _, hi => by simp [heads] at hi
  | .rd _ _, _, _, _, hi => by simp [heads] at hi

theorem dst_of {i : Nat} {o : Oper} (ho : ops[i]? = some o) : dstOf ops i = o.dst := by simp [dstOf, ho]

theorem wpAny_of_wpC (S : Stat ops bef) (hsel : Region.noSelect ops = true) {a0 : Act} (hsz : ∀ k d, dstOf ops k = some d → d < a0.tmps.size)
    (hQ : ∀ c a a' w, a.defers = a'.defers → Q (.panic c) a w → Q (.panic c) a' w) :
    ∀ (fuel : Nat) (c : CT) (listed : Array Bool) (W R : List Nat) (aV aR : Act) (w : World) (val : Nat → Value), left ops listed ≤ fuel → listed.size = ops.size →
      Rel P ops bef a0 val W R (Lst listed) aV aR w → ctOK ops bef c true W R = true → wpC P ops Q c aV w → wpAny P .any ops Q fuel listed aR w := by
  intro fuel
  induction fuel with
  | zero =>
    intro c listed W R aV aR w val hl hs hr hok hw
    have hall := left_zero (by omega : left ops listed = 0)
    have hno : Region.ready .any ops listed = [] := by
      cases h : Region.ready .any ops listed with
      | nil => rfl
      | cons j l =>
        have := (ready_iff hs).1 (by rw [h]; exact List.mem_cons_self : j ∈ Region.ready .any ops listed)
        exact absurd (hall j this.1) this.2.1
    have hdone : ∀ i, readyIn ops (W ++ R) i = true → False := fun i hi => by
      have := readyIn_iff.1 hi
      exact this.2.1 (by simpa using hr.sub i (hall i this.1))
    cases c with
    | done =>
      refine ⟨hno, ?_⟩
      have : aV = aR := same_act hr.saV hr.saR hr.defers fun k hk => ⟨fun _ => hall k hk, fun h => hr.sub k h⟩
      exact this ▸ hw
    | stop => simp [ctOK] at hok
    | w i r => simp only [ctOK, Bool.and_eq_true] at hok; exact (hdone i hok.1.2).elim
    | rd i r => simp only [ctOK, Bool.and_eq_true] at hok; exact (hdone i hok.1.2).elim
    | l i p r alt => simp only [ctOK, Bool.and_eq_true] at hok; exact (hdone i hok.1.1.1.2).elim
  | succ fuel ih =>
    intro c
    -- the steps that are really made, where the one order stands at what acts, or at its end
    have real : ∀ (c : CT), (∀ i r, c ≠ .w i r) → (∀ i r, c ≠ .rd i r) → ∀ (listed : Array Bool) (W R : List Nat) (aV aR : Act) (w : World) (val : Nat → Value), left ops listed ≤ fuel + 1 → listed.size = ops.size →
      Rel P ops bef a0 val W R (Lst listed) aV aR w → ctOK ops bef c true W R = true → wpC P ops Q c aV w → wpAny P .any ops Q (fuel + 1) listed aR w := by
      intro c hcw hcr listed W R aV aR w val hl hs hr hok hw
      refine ⟨fun hnil => ?_, fun i hi => ?_⟩
      · have hall : ∀ i, i < ops.size → Lst listed i := fun i hi => Classical.byContradiction fun hn => by
          obtain ⟨j, hj⟩ := ready_of_missing S hs i hi hn
          rw [hnil] at hj; cases hj
        cases c with
        | done =>
          have : aV = aR := same_act hr.saV hr.saR hr.defers fun k hk => ⟨fun _ => hall k hk, fun h => hr.sub k h⟩
          exact this ▸ hw
        | stop => simp [ctOK] at hok
        | w i r => exact absurd rfl (hcw i r)
        | rd i r => exact absurd rfl (hcr i r)
        | l i p r alt =>
          simp only [ctOK, Bool.and_eq_true] at hok
          have := readyIn_iff.1 hok.1.1.1.2
          exact (this.2.1 (by simpa using hr.sub i (hall i this.1))).elim
      · obtain ⟨hin, hnl, hdl⟩ := (ready_iff hs).1 hi
        have hls : i < listed.size := by omega
        have hclL' : Closed ops (Lst (listed.setIfInBounds i true)) := closed_add hr.clL hin hdl fun k => lst_set hls
        have hlt := left_set hs hin hnl
        have hs' : (listed.setIfInBounds i true).size = ops.size := by simp [hs]
        have gR := ga_of S hin hr.clL hr.saR hdl hnl
        by_cases hD : i ∈ W ∨ i ∈ R
        · -- it was walked already
          have hrec : ∃ oj g, ops[i]? = some oj ∧ GA ops bef a0 val i g ∧ PO P ops oj (val i) g w := by
            rcases hD with h | h
            · obtain ⟨oj, g, h1, h2, h3⟩ := hr.pW i h hnl; exact ⟨oj, g, h1, h2, h3 w⟩
            · exact hr.pR i h hnl
          obtain ⟨o, g, ho, hga, hpo⟩ := hrec
          have hy : YA P ops o (val i) aR w := hpo aR fun t ht => gR.eq hga t (by rw [looks_eq ho]; exact ht)
          refine hy.wpOp ho (ih c _ W R aV _ w val (by omega) hs' ?_ hok hw)
          exact { clD := hr.clD, clL := hclL', sub := fun k hk => ((lst_set hls).1 hk).elim (fun e => e ▸ hD) (hr.sub k), saV := hr.saV,
                  saR := (SlA.put S hsz hr.saR ho hin).iff fun k => (lst_set hls).symm,
                  defers := by rw [hr.defers]; unfold Act.put; cases o.dst <;> rfl,
                  pW := fun j hj hn => hr.pW j hj fun h => hn ((lst_set hls).2 (.inr h)),
                  pR := fun j hj hn => hr.pR j hj fun h => hn ((lst_set hls).2 (.inr h)) }
        · -- it acts, and is the one order's next
          have hD' : i ∉ W ++ R := by simpa using hD
          have hrd : readyIn ops (W ++ R) i = true := readyIn_iff.2 ⟨hin, hD', fun d hd => by simpa using hr.sub d (hdl d hd)⟩
          have hdD : ∀ d ∈ deps ops i, d ∈ W ∨ d ∈ R := fun d hd => hr.sub d (hdl d hd)
          have hhead : i ∈ heads c := by
            cases c with
            | done =>
              simp only [ctOK, Bool.and_eq_true, List.all_eq_true, List.mem_range, Bool.or_eq_true, List.contains_iff_mem] at hok
              exact (hD (hok.2 i hin)).elim
            | stop => simp [ctOK] at hok
            | w i r => exact absurd rfl (hcw i r)
            | rd i r => exact absurd rfl (hcr i r)
            | l i0 p r alt =>
              simp only [ctOK, Bool.and_eq_true, Bool.not_true, Bool.false_or, List.all_eq_true, List.mem_range, Bool.or_eq_true, Bool.not_eq_true', List.contains_iff_mem] at hok
              have := (hok.1.1.1.1 i hin).resolve_left (by rw [hrd]; simp)
              simpa [heads] using this
          obtain ⟨pend, r, B⟩ := branch c true hok hw hhead
          have ho : ops[i]? = some ops[i] := Array.getElem?_eq_getElem hin
          have gV := ga_of S hin hr.clD hr.saV hdD hD
          have htr := wpOp_transfer hsel ho (a := aV) (b := aR) (fun t ht => gV.eq gR t (by rw [looks_eq ho]; exact ht)) hr.defers hQ B.wp
          refine wpOp_mono (fun b' w' hb => ?_) htr
          obtain ⟨v, ds, rfl, hp, hwr⟩ := hb
          have hvD : ∀ k, (k ∈ W ∨ k ∈ R) → val k = upd val i v k := fun k hk => upd_ne fun e => hD (e ▸ hk)
          have hvL : ∀ k, Lst listed k → val k = upd val i v k := fun k hk => hvD k (hr.sub k hk)
          have saV' := (SlA.put (val := upd val i v) S hsz ((hr.saV.congr hvD).defers ds) ho hin).iff (Y := fun k => k ∈ i :: W ∨ k ∈ R) fun k => by simp [or_assoc]
          have saR' := (SlA.put (val := upd val i v) S hsz ((hr.saR.congr hvL).defers ds) ho hin).iff (Y := Lst (listed.setIfInBounds i true)) fun k => (lst_set hls).symm
          rw [upd_self] at saV' saR'
          have clD' : Closed ops (fun k => k ∈ i :: W ∨ k ∈ R) := closed_add hr.clD hin hdD fun k => by simp [or_assoc]
          refine ih r _ (i :: W) R _ _ w' (upd val i v) (by omega) hs' ?_ B.ok hwr
          refine { clD := clD', clL := hclL', sub := fun k hk => ?_, saV := saV', saR := saR', defers := ?_, pW := fun j hj hn => ?_, pR := fun j hj hn => ?_ }
          · rcases (lst_set hls).1 hk with rfl | h
            · exact .inl List.mem_cons_self
            · exact (hr.sub k h).imp (List.mem_cons_of_mem _) id
          · unfold Act.put; cases ops[i].dst <;> rfl
          · have hne : j ≠ i := fun e => hn ((lst_set hls).2 (.inl e))
            have hjW := (List.mem_cons.1 hj).resolve_left hne
            obtain ⟨oj, g, h1, h2, h3⟩ := hr.pW j hjW fun h => hn ((lst_set hls).2 (.inr h))
            refine ⟨oj, g, h1, h2.congr fun k hk => hvD k (closed_bef S hr.clD (i := j) (.inl hjW) hk), ?_⟩
            rw [← hvD j (.inl hjW)]; exact h3
          · have hnl' : ¬ Lst listed j := fun h => hn ((lst_set hls).2 (.inr h))
            obtain ⟨oj, g, h1, h2, _⟩ := hr.pR j hj hnl'
            have hga' : GA ops bef a0 (upd val i v) j g := h2.congr fun k hk => hvD k (closed_bef S hr.clD (i := j) (.inr hj) hk)
            refine ⟨oj, g, h1, hga', fun a ha => ?_⟩
            rcases B.chk j hj with hb | ⟨hpd, hsome, hno⟩
            · exact (hnl' (deps_bef S hr.clL i hin hdl j hb)).elim
            · have hy := hp j hpd oj h1
              have hjn : j < ops.size := (Array.getElem?_eq_some_iff.1 h1).1
              obtain ⟨d, hd⟩ := Option.isSome_iff_exists.1 hsome
              have hdv : dstVal oj (({ aV with defers := ds } : Act).put ops[i].dst v) = upd val i v j := by
                have hdo : oj.dst = some d := (dst_of h1).symm.trans hd
                have := saV'.hit d j hjn (.inr hj) hd
                simp [dstVal, hdo, this]
              rw [hdv] at hy
              refine YA.congr hsel h1 (fun t ht => ?_) hy
              rw [ha t ht]
              have htl : t ∈ looks ops j := by rw [looks_eq h1]; exact ht
              by_cases hx : ∃ k, k < ops.size ∧ dstOf ops k = some t ∧ k ∈ befOf bef j
              · obtain ⟨k, hk, hdk, hkb⟩ := hx
                rw [hga'.hit t k htl hk hdk hkb]
                exact saV'.hit t k hk ((closed_bef S hr.clD (i := j) (.inr hj) hkb).imp (List.mem_cons_of_mem _) id) hdk
              · rw [hga'.miss t htl fun k hk hdk hkb => hx ⟨k, hk, hdk, hkb⟩]
                refine saV'.miss t fun k hk hkD hdk => ?_
                have hk3 : k = i ∨ k ∈ W ∨ k ∈ R := by simpa [or_assoc] using hkD
                rcases hno k hk3 with hb | hb
                · exact hx ⟨k, hk, hdk, hb⟩
                · exact hb t hdk htl
    -- what looks at no memory, or reads, is walked at once
    induction c with
    | done => exact real .done (by simp) (by simp)
    | stop => exact real .stop (by simp) (by simp)
    | l i p r alt _ _ => exact real (.l i p r alt) (by simp) (by simp)
    | w i r ihr =>
      intro listed W R aV aR w val hl hs hr hok hw
      simp only [ctOK, Bool.and_eq_true, Bool.true_and] at hok
      obtain ⟨hrd, hok⟩ := hok
      obtain ⟨o, v, ho, hy, hw⟩ := hw
      obtain ⟨hin, hD', hdD'⟩ := readyIn_iff.1 hrd
      have hD : ¬ (i ∈ W ∨ i ∈ R) := by simpa using hD'
      have hdD : ∀ d ∈ deps ops i, d ∈ W ∨ d ∈ R := fun d hd => by simpa using hdD' d hd
      have hvD : ∀ k, (k ∈ W ∨ k ∈ R) → val k = upd val i v k := fun k hk => upd_ne fun e => hD (e ▸ hk)
      have hvL : ∀ k, Lst listed k → val k = upd val i v k := fun k hk => hvD k (hr.sub k hk)
      have gV := ga_of S hin hr.clD hr.saV hdD hD
      have saV' := (SlA.put (val := upd val i v) S hsz (hr.saV.congr hvD) ho hin).iff (Y := fun k => k ∈ i :: W ∨ k ∈ R) fun k => by simp [or_assoc]
      rw [upd_self] at saV'
      refine ihr listed (i :: W) R _ aR w (upd val i v) hl hs ?_ hok hw
      refine { clD := closed_add hr.clD hin hdD fun k => by simp [or_assoc], clL := hr.clL, sub := fun k hk => (hr.sub k hk).imp (List.mem_cons_of_mem _) id, saV := saV', saR := hr.saR.congr hvL,
               defers := by rw [← hr.defers]; unfold Act.put; cases o.dst <;> rfl, pW := fun j hj hn => ?_, pR := fun j hj hn => ?_ }
      · by_cases hji : j = i
        · subst hji
          refine ⟨o, fun t => aV.tmps[t]?, ho, gV.congr fun k hk => hvD k (deps_bef S hr.clD j hin hdD k hk), fun w' a ha => ?_⟩
          rw [upd_self]
          exact YA.congr hsel ho (fun t ht => (ha t ht).symm) (hy w')
        · have hjW := (List.mem_cons.1 hj).resolve_left hji
          obtain ⟨oj, g, h1, h2, h3⟩ := hr.pW j hjW hn
          refine ⟨oj, g, h1, h2.congr fun k hk => hvD k (closed_bef S hr.clD (i := j) (.inl hjW) hk), ?_⟩
          rw [← hvD j (.inl hjW)]; exact h3
      · obtain ⟨oj, g, h1, h2, h3⟩ := hr.pR j hj hn
        refine ⟨oj, g, h1, h2.congr fun k hk => hvD k (closed_bef S hr.clD (i := j) (.inr hj) hk), ?_⟩
        rw [← hvD j (.inr hj)]; exact h3
    | rd i r ihr =>
      intro listed W R aV aR w val hl hs hr hok hw
      simp only [ctOK, Bool.and_eq_true, Bool.true_and] at hok
      obtain ⟨hrd, hok⟩ := hok
      obtain ⟨o, v, ho, hy, hw⟩ := hw
      obtain ⟨hin, hD', hdD'⟩ := readyIn_iff.1 hrd
      have hD : ¬ (i ∈ W ∨ i ∈ R) := by simpa using hD'
      have hdD : ∀ d ∈ deps ops i, d ∈ W ∨ d ∈ R := fun d hd => by simpa using hdD' d hd
      have hvD : ∀ k, (k ∈ W ∨ k ∈ R) → val k = upd val i v k := fun k hk => upd_ne fun e => hD (e ▸ hk)
      have hvL : ∀ k, Lst listed k → val k = upd val i v k := fun k hk => hvD k (hr.sub k hk)
      have gV := ga_of S hin hr.clD hr.saV hdD hD
      have saV' := (SlA.put (val := upd val i v) S hsz (hr.saV.congr hvD) ho hin).iff (Y := fun k => k ∈ W ∨ k ∈ i :: R) fun k => by simp [or_left_comm]
      rw [upd_self] at saV'
      refine ihr listed W (i :: R) _ aR w (upd val i v) hl hs ?_ hok hw
      refine { clD := closed_add hr.clD hin hdD fun k => by simp [or_left_comm], clL := hr.clL, sub := fun k hk => (hr.sub k hk).imp id (List.mem_cons_of_mem _), saV := saV', saR := hr.saR.congr hvL,
               defers := by rw [← hr.defers]; unfold Act.put; cases o.dst <;> rfl, pW := fun j hj hn => ?_, pR := fun j hj hn => ?_ }
      · obtain ⟨oj, g, h1, h2, h3⟩ := hr.pW j hj hn
        refine ⟨oj, g, h1, h2.congr fun k hk => hvD k (closed_bef S hr.clD (i := j) (.inl hj) hk), ?_⟩
        rw [← hvD j (.inl hj)]; exact h3
      · by_cases hji : j = i
        · subst hji
          refine ⟨o, fun t => aV.tmps[t]?, ho, gV.congr fun k hk => hvD k (deps_bef S hr.clD j hin hdD k hk), fun a ha => ?_⟩
          rw [upd_self]
          exact YA.congr hsel ho (fun t ht => (ha t ht).symm) hy
        · have hjR := (List.mem_cons.1 hj).resolve_left hji
          obtain ⟨oj, g, h1, h2, h3⟩ := hr.pR j hjR hn
          refine ⟨oj, g, h1, h2.congr fun k hk => hvD k (closed_bef S hr.clD (i := j) (.inr hjR) hk), ?_⟩
          rw [← hvD j (.inr hjR)]; exact h3

/-- A REGION WHOSE ORDER IS DRAWN, WALKED IN ONE ORDER. -/
theorem wp_region_ct {id : Nat} {a : Act} {w : World} (c : CT) (hm : P.follows .mixedOrders = true) (hsel : Region.noSelect ops = true) (hb : befOK ops bef = true) (hsl : slotsOK ops bef = true)
    (hok : ctOK ops bef c true [] [] = true) (hsz : ∀ k d, dstOf ops k = some d → d < a.tmps.size)
    (hQ : ∀ c a a' w, a.defers = a'.defers → Q (.panic c) a w → Q (.panic c) a' w) (h : wpC P ops Q c a { w with drawn := w.drawn + 1 }) :
    (Code.region id ops true).wp P Q a w := by
  refine wp_region_any hm ?_
  have hno : ∀ k, ¬ Lst (Array.replicate ops.size false) k := fun k h => by
    unfold Lst at h
    simp only [Array.getD_eq_getD_getElem?, Array.getElem?_replicate] at h
    split at h <;> simp at h
  refine wpAny_of_wpC (a0 := a) (Stat.of hb hsl) hsel hsz hQ ops.size c (Array.replicate ops.size false) [] [] a a _ (fun _ => undef) ?_ (by simp) ?_ hok h
  · exact Nat.le_trans (List.countP_le_length) (by simp)
  · exact { clD := fun i hi => (by simp at hi), clL := fun i hi => (hno i hi).elim, sub := fun i hi => (hno i hi).elim,
            saV := ⟨rfl, fun t k _ hX => (by simp at hX), fun t _ => rfl⟩, saR := ⟨rfl, fun t k _ hX => (hno k hX).elim, fun t _ => rfl⟩, defers := rfl,
            pW := fun j hj => (by cases hj), pR := fun j hj => (by cases hj) }
end
end Go.V
