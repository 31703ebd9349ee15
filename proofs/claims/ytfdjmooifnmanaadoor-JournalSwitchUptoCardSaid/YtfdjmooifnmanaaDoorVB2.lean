/- One order for all: the theorem. -/
import Derived.Test.YtfdjmooifnmanaaDoorVB
namespace Go.V

section
variable {P : Program} {ops : Array Oper} {Q : Exit → Act → World → Prop} {bef : List (List Nat)}

structure Stat (ops : Array Oper) (bef : List (List Nat)) : Prop where
  lt : ∀ i d, i < ops.size → d ∈ deps ops i → d < i
  cl : ∀ i j, i < ops.size → j ∈ befOf bef i → ∃ d ∈ deps ops i, d = j ∨ j ∈ befOf bef d
  own : ∀ k d, k < ops.size → dstOf ops k = some d → d ∉ looks ops k
  uniq : ∀ k j d, k < ops.size → j < ops.size → j ≠ k → dstOf ops k = some d → dstOf ops j ≠ some d
  ord : ∀ k j d, k < ops.size → j < ops.size → j ≠ k → dstOf ops k = some d → d ∈ looks ops j → k ∈ befOf bef j ∨ j ∈ befOf bef k

theorem Stat.of (h1 : befOK ops bef = true) (h2 : slotsOK ops bef = true) : Stat ops bef := by
  simp only [befOK, List.all_eq_true, List.mem_range, Bool.and_eq_true, decide_eq_true_eq, List.any_eq_true, Bool.or_eq_true, beq_iff_eq, List.contains_iff_mem] at h1
  simp only [slotsOK, List.all_eq_true, List.mem_range] at h2
  have key : ∀ k d, k < ops.size → dstOf ops k = some d → d ∉ looks ops k ∧ ∀ j, j < ops.size → j ≠ k → dstOf ops j ≠ some d ∧ (d ∈ looks ops j → k ∈ befOf bef j ∨ j ∈ befOf bef k) := by
    intro k d hk hd
    have h := h2 k hk
    simp only [hd, Bool.and_eq_true, Bool.not_eq_true', List.all_eq_true, List.mem_range, Bool.or_eq_true, beq_iff_eq, bne_iff_ne] at h
    refine ⟨by simpa using h.1, fun j hj hne => ?_⟩
    have := (h.2 j hj).resolve_left hne
    refine ⟨this.1, fun hm => ?_⟩
    rcases this.2 with (h' | h') | h'
    · simp [hm] at h'
    · exact .inl (by simpa using h')
    · exact .inr (by simpa using h')
  exact ⟨fun i d hi hd => (h1 i hi).1 d hd, fun i j hi hj => (h1 i hi).2 j hj, fun k d hk hd => (key k d hk hd).1,
    fun k j d hk hj hne hd => ((key k d hk hd).2 j hj hne).1, fun k j d hk hj hne hd => ((key k d hk hd).2 j hj hne).2⟩

/-- a set of operations that holds what its members wait for -/
def Closed (ops : Array Oper) (X : Nat → Prop) : Prop := ∀ i, X i → i < ops.size ∧ ∀ d ∈ deps ops i, X d

theorem deps_bef (S : Stat ops bef) {X : Nat → Prop} (hX : Closed ops X) : ∀ i, i < ops.size → (∀ d ∈ deps ops i, X d) → ∀ j ∈ befOf bef i, X j := by
  intro i
  induction i using Nat.strongRecOn with
  | _ i ih =>
    intro hi hd j hj
    obtain ⟨d, hdm, h⟩ := S.cl i j hi hj
    rcases h with rfl | h
    · exact hd _ hdm
    · have hXd := hd d hdm
      exact ih d (S.lt i d hi hdm) (hX d hXd).1 (hX d hXd).2 j h

theorem closed_bef (S : Stat ops bef) {X : Nat → Prop} (hX : Closed ops X) {i j : Nat} (hi : X i) (hj : j ∈ befOf bef i) : X j :=
  deps_bef S hX i (hX i hi).1 (hX i hi).2 j hj

/-- the slots of a frame in which just the operations of X were done -/
structure SlA (ops : Array Oper) (a0 : Act) (val : Nat → Value) (X : Nat → Prop) (a : Act) : Prop where
  size : a.tmps.size = a0.tmps.size
  hit : ∀ t k, k < ops.size → X k → dstOf ops k = some t → a.tmps[t]? = some (val k)
  miss : ∀ t, (∀ k, k < ops.size → X k → dstOf ops k ≠ some t) → a.tmps[t]? = a0.tmps[t]?

theorem SlA.congr {a0 : Act} {val val' : Nat → Value} {X : Nat → Prop} {a : Act} (h : SlA ops a0 val X a) (he : ∀ k, X k → val k = val' k) : SlA ops a0 val' X a :=
  ⟨h.size, fun t k hk hX hd => by rw [← he k hX]; exact h.hit t k hk hX hd, h.miss⟩

theorem SlA.put (S : Stat ops bef) {a0 : Act} {val : Nat → Value} {X : Nat → Prop} {a : Act} {i : Nat} {o : Oper} (hsz : ∀ k d, dstOf ops k = some d → d < a0.tmps.size)
    (h : SlA ops a0 val X a) (ho : ops[i]? = some o) (hi : i < ops.size) : SlA ops a0 val (fun k => k = i ∨ X k) (a.put o.dst (val i)) := by
  have hdst : dstOf ops i = o.dst := by simp [dstOf, ho]
  have hs : (a.put o.dst (val i)).tmps.size = a0.tmps.size := by
    unfold Act.put; cases o.dst <;> simp [h.size]
  have hother : ∀ t, o.dst ≠ some t → (a.put o.dst (val i)).tmps[t]? = a.tmps[t]? := by
    intro t hne
    unfold Act.put
    cases hd : o.dst with
    | none => rfl
    | some d =>
      have : d ≠ t := fun e => hne (by rw [hd, e])
      simp [Array.getElem?_setIfInBounds_ne this]
  have hself : ∀ t, o.dst = some t → (a.put o.dst (val i)).tmps[t]? = some (val i) := by
    intro t hd
    have hlt : t < a.tmps.size := by rw [h.size]; exact hsz i t (hdst.trans hd)
    unfold Act.put
    simp [hd, Array.getElem?_setIfInBounds_self_of_lt hlt]
  refine ⟨hs, fun t k hk hX hd => ?_, fun t hm => ?_⟩
  · by_cases hki : k = i
    · subst hki; exact hself t (hdst.symm.trans hd)
    · rw [hother t (by rw [← hdst]; exact S.uniq k i t hk hi (Ne.symm hki) hd)]
      exact h.hit t k hk (hX.resolve_left hki) hd
  · rw [hother t (by rw [← hdst]; exact hm i hi (.inl rfl))]
    exact h.miss t fun k hk hX => hm k hk (.inr hX)

/-- two frames agree at a slot of whose writers they had the same -/
theorem SlA.agree {a0 : Act} {val : Nat → Value} {X Y : Nat → Prop} {a b : Act} (ha : SlA ops a0 val X a) (hb : SlA ops a0 val Y b) {t : Nat}
    (h : ∀ k, k < ops.size → dstOf ops k = some t → (X k ↔ Y k)) : a.tmps[t]? = b.tmps[t]? := by
  by_cases hx : ∃ k, k < ops.size ∧ X k ∧ dstOf ops k = some t
  · obtain ⟨k, hk, hX, hd⟩ := hx
    rw [ha.hit t k hk hX hd, hb.hit t k hk ((h k hk hd).1 hX) hd]
  · rw [ha.miss t fun k hk hX hd => hx ⟨k, hk, hX, hd⟩, hb.miss t fun k hk hY hd => hx ⟨k, hk, (h k hk hd).2 hY, hd⟩]

theorem wanted_congr {o : Oper} {a b : Act} (h : ∀ t ∈ o.looksAt ops, a.tmps[t]? = b.tmps[t]?) :
    Region.wanted o (yielded ops a.tmps) = Region.wanted o (yielded ops b.tmps) := by
  unfold Region.wanted
  cases hg : o.guard with
  | none => rfl
  | some gw =>
    obtain ⟨g, want⟩ := gw
    have : yielded ops a.tmps g = yielded ops b.tmps g := by
      unfold yielded
      cases ht : (ops[g]?).bind (·.dst) with
      | none => rfl
      | some t => simp only [Option.bind_some]; rw [h t (by simp [Oper.looksAt, hg, ht])]
    simp only [this]

theorem exec_congr (hsel : Region.noSelect ops = true) {i : Nat} {o : Oper} (ho : ops[i]? = some o) {a b : Act} (h : ∀ t ∈ o.looksAt ops, a.tmps[t]? = b.tmps[t]?) :
    execOp a.eval o = execOp b.eval o :=
  execOp_congr o (fun cs bl => Region.noSelect_spec hsel i o cs bl ho) fun x hx => by
    cases x with
    | tmp t =>
      have := h t (by
        unfold Oper.looksAt
        exact List.mem_append_left _ (List.mem_filterMap.2 ⟨.tmp t, by simpa using hx, rfl⟩))
      simp [Act.eval, this]
    | _ => rfl

theorem YA.congr (hsel : Region.noSelect ops = true) {i : Nat} {o : Oper} (ho : ops[i]? = some o) {v : Value} {a b : Act} {w : World} (h : ∀ t ∈ o.looksAt ops, a.tmps[t]? = b.tmps[t]?)
    (hy : YA P ops o v a w) : YA P ops o v b w := by
  unfold YA at *
  rw [← wanted_congr h, ← exec_congr hsel ho h]
  exact hy

theorem wpOp_transfer (hsel : Region.noSelect ops = true) {i : Nat} {o : Oper} (ho : ops[i]? = some o) {a b : Act} {w : World} {K : Act → World → Prop}
    (h : ∀ t ∈ o.looksAt ops, a.tmps[t]? = b.tmps[t]?) (hd : a.defers = b.defers)
    (hQ : ∀ c a a' w, a.defers = a'.defers → Q (.panic c) a w → Q (.panic c) a' w) (hh : wpOp P ops Q i K a w) :
    wpOp P ops Q i (fun b' w' => ∃ v ds, b' = ({ b with defers := ds } : Act).put o.dst v ∧ K (({ a with defers := ds } : Act).put o.dst v) w') b w := by
  have he := exec_congr hsel ho h
  have hs : ∀ v, a.put o.dst v = ({ a with defers := a.defers } : Act).put o.dst v := fun _ => rfl
  unfold wpOp at *
  simp only [ho] at *
  rw [wanted_congr h] at hh
  split
  · rename_i hw
    simp only [hw, if_true] at hh
    rcases hh with hh | ⟨hasks, hlets⟩
    case inr => exact .inr ⟨by unfold Oper.asks at *; rw [he] at hasks; exact hasks, hlets⟩
    refine .inl ?_
    unfold Oper.wp at *
    rw [he] at hh
    generalize (execOp b.eval o).run P w = r at *
    cases r with
    | ok n w' =>
      cases n <;> simp only [Oper.upon] at hh ⊢
      case value u => exact ⟨u, b.defers, rfl, by rw [← hd]; exact hh⟩
      case skip => exact ⟨undef, b.defers, rfl, by rw [← hd]; exact hh⟩
      case defer d => exact ⟨undef, d :: b.defers, rfl, by rw [← hd]; exact hh⟩
      case enter f args =>
        refine Calls.mono hh fun e w'' he => ?_
        cases e with
        | returned u => exact ⟨u, b.defers, rfl, by rw [← hd]; exact he⟩
        | panicked c => exact hQ _ _ _ _ hd he
        | outgrown => exact he
      case row row args => exact Rows.mono hh fun u w'' he => ⟨u, b.defers, rfl, by rw [← hd]; exact he⟩
    | halt x w' =>
      cases x <;> simp only [Oper.upon] at hh ⊢
      case panic u => exact hQ _ _ _ _ hd hh
  · rename_i hw
    simp only [hw] at hh
    exact ⟨undef, b.defers, rfl, by rw [← hd]; exact hh⟩

/-- what stays ready: operation j, whose slots are looked at as g has them, yields its value in world w -/
def PO (P : Program) (ops : Array Oper) (oj : Oper) (v : Value) (g : Nat → Option Value) (w : World) : Prop :=
  ∀ a : Act, (∀ t ∈ oj.looksAt ops, a.tmps[t]? = g t) → YA P ops oj v a w

structure GA (ops : Array Oper) (bef : List (List Nat)) (a0 : Act) (val : Nat → Value) (j : Nat) (g : Nat → Option Value) : Prop where
  hit : ∀ t k, t ∈ looks ops j → k < ops.size → dstOf ops k = some t → k ∈ befOf bef j → g t = some (val k)
  miss : ∀ t, t ∈ looks ops j → (∀ k, k < ops.size → dstOf ops k = some t → k ∉ befOf bef j) → g t = a0.tmps[t]?

/-- the frame that is really there, beside the frame of the one order -/
structure Rel (P : Program) (ops : Array Oper) (bef : List (List Nat)) (a0 : Act) (val : Nat → Value) (W R : List Nat) (L : Nat → Prop) (aV aR : Act) (w : World) : Prop where
  clD : Closed ops (fun i => i ∈ W ∨ i ∈ R)
  clL : Closed ops L
  sub : ∀ i, L i → i ∈ W ∨ i ∈ R
  saV : SlA ops a0 val (fun i => i ∈ W ∨ i ∈ R) aV
  saR : SlA ops a0 val L aR
  defers : aV.defers = aR.defers
  pW : ∀ j, j ∈ W → ¬ L j → ∃ oj g, ops[j]? = some oj ∧ GA ops bef a0 val j g ∧ ∀ w', PO P ops oj (val j) g w'
  pR : ∀ j, j ∈ R → ¬ L j → ∃ oj g, ops[j]? = some oj ∧ GA ops bef a0 val j g ∧ PO P ops oj (val j) g w

theorem looks_eq {j : Nat} {oj : Oper} (h : ops[j]? = some oj) : looks ops j = oj.looksAt ops := by simp [looks, h]

/-- the slots that an operation looks at, in a frame in which all is done that it waits for, and nothing that waits for it -/
theorem ga_of (S : Stat ops bef) {a0 : Act} {val : Nat → Value} {X : Nat → Prop} {a : Act} {j : Nat} (hj : j < ops.size) (hX : Closed ops X) (hsa : SlA ops a0 val X a)
    (hd : ∀ d ∈ deps ops j, X d) (hn : ¬ X j) : GA ops bef a0 val j (fun t => a.tmps[t]?) := by
  have hb := deps_bef S hX j hj hd
  refine ⟨fun t k _ hk hdk hkb => hsa.hit t k hk (hb k hkb) hdk, fun t ht hno => hsa.miss t fun k hk hXk hdk => ?_⟩
  have hne : j ≠ k := fun e => hn (e ▸ hXk)
  rcases S.ord k j t hk hj hne hdk ht with h | h
  · exact hno k hk hdk h
  · exact hn (closed_bef S hX hXk h)

theorem GA.eq {a0 : Act} {val : Nat → Value} {j : Nat} {g g' : Nat → Option Value} (h : GA ops bef a0 val j g) (h' : GA ops bef a0 val j g') : ∀ t ∈ looks ops j, g t = g' t := by
  intro t ht
  by_cases hx : ∃ k, k < ops.size ∧ dstOf ops k = some t ∧ k ∈ befOf bef j
  · obtain ⟨k, hk, hd, hb⟩ := hx
    rw [h.hit t k ht hk hd hb, h'.hit t k ht hk hd hb]
  · rw [h.miss t ht fun k hk hd hb => hx ⟨k, hk, hd, hb⟩, h'.miss t ht fun k hk hd hb => hx ⟨k, hk, hd, hb⟩]

theorem GA.congr {a0 : Act} {val val' : Nat → Value} {j : Nat} {g : Nat → Option Value} (h : GA ops bef a0 val j g) (he : ∀ k ∈ befOf bef j, val k = val' k) : GA ops bef a0 val' j g :=
  ⟨fun t k ht hk hd hb => by rw [← he k hb]; exact h.hit t k ht hk hd hb, h.miss⟩

def Lst (listed : Array Bool) : Nat → Prop := fun i => listed.getD i false = true

theorem lst_set {listed : Array Bool} {i k : Nat} (hi : i < listed.size) : Lst (listed.setIfInBounds i true) k ↔ k = i ∨ Lst listed k := by
  unfold Lst
  by_cases h : i = k
  · subst h; simp [hi]
  · rw [getD_set_ne false h]
    exact ⟨.inr, fun h' => h'.resolve_left fun e => h e.symm⟩

theorem mem_deps {i d : Nat} {o : Oper} (ho : ops[i]? = some o) : d ∈ deps ops i ↔ ∃ e ∈ o.after, Region.binds .any e = true ∧ e.on = d := by
  simp [deps, ho, and_assoc]

theorem ready_iff {listed : Array Bool} (hs : listed.size = ops.size) {j : Nat} : j ∈ Region.ready .any ops listed ↔ j < ops.size ∧ ¬ Lst listed j ∧ ∀ d ∈ deps ops j, Lst listed d := by
  rw [mem_ready]
  constructor
  · rintro ⟨h0, o, ho, hall⟩
    have hj := (Array.getElem?_eq_some_iff.1 ho).1
    refine ⟨hj, fun h => ?_, fun d hd => ?_⟩
    · unfold Lst at h
      have : j < listed.size := by omega
      simp [this] at h0 h
      rw [h] at h0; cases h0
    · obtain ⟨e, he, hb, rfl⟩ := (mem_deps ho).1 hd
      exact hall e he hb
  · rintro ⟨hj, hn, hd⟩
    refine ⟨?_, ops[j], Array.getElem?_eq_getElem hj, fun e he hb => hd _ ((mem_deps (Array.getElem?_eq_getElem hj)).2 ⟨e, he, hb, rfl⟩)⟩
    have : j < listed.size := by omega
    unfold Lst at hn
    simp [this] at hn ⊢
    exact hn

theorem countP_lt {p q : Nat → Bool} {i : Nat} (hpq : ∀ k, q k = true → p k = true) (hp : p i = true) (hq : q i = false) :
    ∀ l : List Nat, i ∈ l → l.countP q < l.countP p
  | [], h => by cases h
  | x :: l, h => by
    have hle : l.countP q ≤ l.countP p := List.countP_mono_left fun k _ hk => hpq k hk
    simp only [List.countP_cons]
    by_cases hx : x = i
    · subst hx; simp [hp, hq]; omega
    · have := countP_lt hpq hp hq l ((List.mem_cons.1 h).resolve_left (Ne.symm hx))
      by_cases hqx : q x = true
      · simp [hqx, hpq x hqx]; omega
      · simp [hqx]; split <;> omega

def left (ops : Array Oper) (listed : Array Bool) : Nat := (List.range ops.size).countP fun i => !listed.getD i false

theorem left_set {listed : Array Bool} {i : Nat} (hs : listed.size = ops.size) (hi : i < ops.size) (hn : ¬ Lst listed i) : left ops (listed.setIfInBounds i true) < left ops listed := by
  refine countP_lt (i := i) (fun k hk => ?_) (by simpa [Lst] using hn) ?_ _ (List.mem_range.2 hi)
  · have h1 : ¬ Lst (listed.setIfInBounds i true) k := by simpa [Lst] using hk
    have h2 : ¬ Lst listed k := fun h => h1 ((lst_set (by omega)).2 (.inr h))
    simpa [Lst] using h2
  · have := (lst_set (listed := listed) (i := i) (k := i) (by omega)).2 (.inl rfl)
    simpa [Lst] using this

/-- what is not done, least first, is ready -/
theorem ready_of_missing (S : Stat ops bef) {listed : Array Bool} (hs : listed.size = ops.size) : ∀ i, i < ops.size → ¬ Lst listed i → ∃ j, j ∈ Region.ready .any ops listed := by
  intro i
  induction i using Nat.strongRecOn with
  | _ i ih =>
    intro hi hn
    by_cases h : ∃ d ∈ deps ops i, ¬ Lst listed d
    · obtain ⟨d, hd, hnd⟩ := h
      have := S.lt i d hi hd
      exact ih d this (by omega) hnd
    · exact ⟨i, (ready_iff hs).2 ⟨hi, hn, fun d hd => Classical.byContradiction fun hc => h ⟨d, hd, hc⟩⟩⟩

theorem left_zero {listed : Array Bool} (h : left ops listed = 0) : ∀ i, i < ops.size → Lst listed i := by
  intro i hi
  have := List.countP_eq_zero.1 h i (List.mem_range.2 hi)
  simpa [Lst] using this
end
end Go.V
