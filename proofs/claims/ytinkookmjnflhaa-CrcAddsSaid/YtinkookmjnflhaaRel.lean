/- A region that draws its order, whose first operations may make memory of their own: each operation's value is told by a fact that later memory does not turn; one look at each operation serves every order. -/
import Derived.Test.YtinkookmjnflhaaTail
namespace Go.Proofs.Ytinkookmjnflhaa
open Go.RowKit
set_option linter.unusedVariables false

abbrev Vals := Nat → Value
abbrev Fact := Value → World → Prop
/-- What is asked of an operation that was carried out in w: a world further on, and the fact of its value. -/
def relUpon (P : Program) (R : World → World → Prop) (w : World) (F : Fact) : Result Next → Prop
  | .ok (.value u) w' => R w w' ∧ F u w'
  | .ok .skip w' => R w w' ∧ F undef w'
  | .ok (.enter g args) w' => R w w' ∧ Calls P g args w' (fun e w'' => ∃ v, e = .returned v ∧ R w' w'' ∧ F v w'')
  | _ => False
def relOp (P : Program) (ops : Array Oper) (R : World → World → Prop) (o : Oper) (a : Act) (w : World) (F : Fact) : Prop :=
  if Region.wanted o (yielded ops a.tmps) then relUpon P R w F ((execOp a.eval o).run P w) else F undef w
def factOf (Fs : List Fact) (f : Vals) (w : World) (j : Nat) : Prop :=
  match Fs[j]? with
  | some F => F (f j) w
  | none => True
/-- The facts that an operation may lean on: of those that it waits for. -/
def deps (md : Region.Mode) (o : Oper) (Fs : List Fact) (f : Vals) (w : World) : Prop := ∀ e ∈ o.after, Region.binds md e = true → factOf Fs f w e.on
def Stable (R : World → World → Prop) (F : Fact) : Prop := ∀ v w w', R w w' → F v w → F v w'

section
variable {P : Program} {md : Region.Mode} {ops : Array Oper} {R : World → World → Prop} {C : World → Prop}

/-- The operations in the text's order, the values behind variables. -/
def wpRel (P : Program) (md : Region.Mode) (ops : Array Oper) (R : World → World → Prop) (C : World → Prop) (Q : List Fact → (Vals → Act) → Prop) : List Oper → List Fact → (Vals → Act) → Prop
  | [], Fs, A => Q Fs A
  | o :: l, Fs, A => ∃ F : Fact, Stable R F ∧ (∀ f w, C w → deps md o Fs f w → relOp P ops R o (A f) w F) ∧ wpRel P md ops R C Q l (Fs ++ [F]) (fun f => (A f).put o.dst (f Fs.length))
theorem wpRel_nil {Q : List Fact → (Vals → Act) → Prop} {Fs : List Fact} {A : Vals → Act} (h : Q Fs A) : wpRel P md ops R C Q [] Fs A := h
def putF (f : Vals) : List Oper → Nat → Act → Act
  | [], _, a => a
  | o :: l, k, a => putF f l (k + 1) (a.put o.dst (f k))
theorem putF_snoc (f : Vals) (o : Oper) : ∀ (l : List Oper) (k : Nat) (a : Act), putF f (l ++ [o]) k a = (putF f l k a).put o.dst (f (k + l.length))
  | [], k, a => rfl
  | p :: l, k, a => by
    simp only [List.cons_append, putF, List.length_cons]
    rw [putF_snoc f o l (k + 1) _]
    congr 2
    omega
theorem wpRel_out {Q : List Fact → (Vals → Act) → Prop} : ∀ (l : List Oper) (Fs : List Fact) (A : Vals → Act), wpRel P md ops R C Q l Fs A →
    ∃ Gs : List Fact, Gs.length = l.length ∧ (∀ i o, l[i]? = some o → ∃ F, Gs[i]? = some F ∧ Stable R F ∧ ∀ f w, C w → deps md o (Fs ++ Gs.take i) f w → relOp P ops R o (putF f (l.take i) Fs.length (A f)) w F) ∧
      Q (Fs ++ Gs) (fun f => putF f l Fs.length (A f))
  | [], Fs, A, h => ⟨[], rfl, fun i o ho => by simp at ho, by rw [List.append_nil]; exact h⟩
  | o :: l, Fs, A, h => by
    obtain ⟨F, hs, hob, hr⟩ := h
    obtain ⟨Gs, hl, hi, hq⟩ := wpRel_out l _ _ hr
    refine ⟨F :: Gs, by simp [hl], fun i o' ho => ?_, ?_⟩
    · cases i with
      | zero =>
        have e : o' = o := by simpa using ho.symm
        subst e
        exact ⟨F, rfl, hs, fun f w hc hd => by simpa [putF] using hob f w hc (by simpa using hd)⟩
      | succ i =>
        obtain ⟨F', h1, h2, h3⟩ := hi i o' (by simpa using ho)
        refine ⟨F', by simpa using h1, h2, fun f w hc hd => ?_⟩
        have := h3 f w hc (by simpa using hd)
        simpa [putF] using this
    · simpa [putF] using hq
theorem wpRel_step {Q : List Fact → (Vals → Act) → Prop} {o : Oper} {l : List Oper} {Fs : List Fact} {A : Vals → Act}
    (h : ∀ K : List Fact → (Vals → Act) → Prop, (∀ Gs B, wpRel P md ops R C Q l Gs B → K Gs B) → ∃ F : Fact, Stable R F ∧ (∀ f w, C w → deps md o Fs f w → relOp P ops R o (A f) w F) ∧ K (Fs ++ [F]) (fun f => (A f).put o.dst (f Fs.length))) :
    wpRel P md ops R C Q (o :: l) Fs A := h _ (fun _ _ h => h)

/-- An operation whose value hangs on no world. -/
theorem rel_eq {K : List Fact → (Vals → Act) → Prop} {o : Oper} {Fs : List Fact} {A : Vals → Act} (c : Value) (ob : ∀ f w, C w → deps md o Fs f w → relOp P ops R o (A f) w (fun v _ => v = c)) (k : K (Fs ++ [fun v _ => v = c]) (fun f => (A f).put o.dst (f Fs.length))) :
    ∃ F : Fact, Stable R F ∧ (∀ f w, C w → deps md o Fs f w → relOp P ops R o (A f) w F) ∧ K (Fs ++ [F]) (fun f => (A f).put o.dst (f Fs.length)) := ⟨_, fun _ _ _ _ h => h, ob, k⟩
/-- An operation whose value is told by a fact. -/
theorem rel_fact {K : List Fact → (Vals → Act) → Prop} {o : Oper} {Fs : List Fact} {A : Vals → Act} (F : Fact) (hs : Stable R F) (ob : ∀ f w, C w → deps md o Fs f w → relOp P ops R o (A f) w F) (k : K (Fs ++ [F]) (fun f => (A f).put o.dst (f Fs.length))) :
    ∃ F : Fact, Stable R F ∧ (∀ f w, C w → deps md o Fs f w → relOp P ops R o (A f) w F) ∧ K (Fs ++ [F]) (fun f => (A f).put o.dst (f Fs.length)) := ⟨F, hs, ob, k⟩
@[go_sem] theorem relUpon_value (w w' : World) (F : Fact) (u : Value) : relUpon P R w F (.ok (.value u) w') = (R w w' ∧ F u w') := rfl
@[go_sem] theorem relUpon_skip (w w' : World) (F : Fact) : relUpon P R w F (.ok .skip w') = (R w w' ∧ F undef w') := rfl
@[go_sem] theorem relUpon_enter (w w' : World) (F : Fact) (g : FuncId) (args : Array Value) : relUpon P R w F (.ok (.enter g args) w') = (R w w' ∧ Calls P g args w' (fun e w'' => ∃ v, e = .returned v ∧ R w' w'' ∧ F v w'')) := rfl

/-! The frame behind some operations. -/
theorem putA_size (a : Act) (d : Option Tmp) (v : Value) : (a.put d v).tmps.size = a.tmps.size := by cases d <;> simp [Act.put]
theorem putA_defs (a : Act) (d : Option Tmp) (v : Value) : (a.put d v).defers = a.defers := by cases d <;> rfl
theorem putA_at (a : Act) (d : Tmp) (v : Value) (h : d < a.tmps.size) : (a.put (some d) v).tmps[d]? = some v := by simp [Act.put, h]
theorem putA_off (a : Act) (d : Option Tmp) (v : Value) (t : Tmp) (h : d ≠ some t) : (a.put d v).tmps[t]? = a.tmps[t]? := by
  cases d with
  | none => rfl
  | some d =>
    have : d ≠ t := fun e => h (by rw [e])
    simp [Act.put, Array.getElem?_setIfInBounds_ne this]
theorem putF_size (f : Vals) : ∀ (l : List Oper) (k : Nat) (a : Act), (putF f l k a).tmps.size = a.tmps.size
  | [], _, _ => rfl
  | o :: l, k, a => by rw [putF, putF_size f l, putA_size]
theorem putF_defs (f : Vals) : ∀ (l : List Oper) (k : Nat) (a : Act), (putF f l k a).defers = a.defers
  | [], _, _ => rfl
  | o :: l, k, a => by rw [putF, putF_defs f l, putA_defs]
theorem putF_off (f : Vals) (t : Tmp) : ∀ (l : List Oper) (k : Nat) (a : Act), (∀ (j : Nat) (o : Oper), l[j]? = some o → o.dst ≠ some t) → (putF f l k a).tmps[t]? = a.tmps[t]?
  | [], _, _, _ => rfl
  | o :: l, k, a, h => by
    rw [putF, putF_off f t l _ _ (fun j o' ho => h (j + 1) o' (by simpa using ho)), putA_off _ _ _ _ (h 0 o rfl)]
theorem putF_at (f : Vals) (t : Tmp) : ∀ (l : List Oper) (k : Nat) (a : Act) (j : Nat) (o : Oper), l[j]? = some o → o.dst = some t → (∀ j' o', l[j']? = some o' → o'.dst = some t → j' = j) → t < a.tmps.size → (putF f l k a).tmps[t]? = some (f (k + j))
  | [], _, _, j, o, h, _, _, _ => by simp at h
  | p :: l, k, a, j, o, h, hd, hu, ht => by
    rw [putF]
    cases j with
    | zero =>
      have e : p = o := by simpa using h
      subst e
      rw [putF_off f t l _ _ (fun j o' ho hd' => by have := hu (j + 1) o' (by simpa using ho) hd'; omega), hd, putA_at _ _ _ ht]
      rfl
    | succ j =>
      rw [putF_at f t l (k + 1) _ j o (by simpa using h) hd (fun j' o' ho hd' => by have := hu (j' + 1) o' (by simpa using ho) hd'; omega) (by rw [putA_size]; exact ht)]
      congr 2
      omega

/-- All that is asked of the operations themselves. -/
def relB (md : Region.Mode) (ops : Array Oper) (n : Nat) : Bool :=
  Region.noSelect ops && decide (n ≤ ops.size) && (List.range n).all fun i =>
    match ops[i]? with
    | none => false
    | some o =>
      (o.after.all fun e => !Region.binds md e || decide (e.on < i)) &&
      (List.range n).all fun j =>
        match ops[j]? with
        | none => false
        | some o' =>
          (decide (i = j) || o.dst.isNone || o.dst != o'.dst) &&
          (match o'.dst with
           | none => true
           | some t => !(o.looksAt ops).contains t || (decide (j < i) && o.after.any fun e => Region.binds md e && decide (e.on = j)) || (decide (i < j) && o'.after.any fun e => Region.binds md e && decide (e.on = i)))
structure RelOk (md : Region.Mode) (ops : Array Oper) (n : Nat) : Prop where
  sel : ∀ (j : Nat) (o : Oper) cs b, ops[j]? = some o → o.op ≠ .select cs b
  le : n ≤ ops.size
  back : ∀ i o, i < n → ops[i]? = some o → ∀ e ∈ o.after, Region.binds md e = true → e.on < i
  one : ∀ i j o o' t, i < n → j < n → ops[i]? = some o → ops[j]? = some o' → o.dst = some t → o'.dst = some t → i = j
  look : ∀ i j o o' t, i < n → j < n → ops[i]? = some o → ops[j]? = some o' → o'.dst = some t → t ∈ o.looksAt ops → (j < i ∧ ∃ e ∈ o.after, Region.binds md e = true ∧ e.on = j) ∨ (i < j ∧ ∃ e ∈ o'.after, Region.binds md e = true ∧ e.on = i)
theorem relB_ok {n : Nat} (h : relB md ops n = true) : RelOk md ops n := by
  simp only [relB, Bool.and_eq_true, decide_eq_true_eq] at h
  obtain ⟨⟨h1, h2⟩, h3⟩ := h
  have key : ∀ i o, i < n → ops[i]? = some o → (∀ e ∈ o.after, Region.binds md e = true → e.on < i) ∧ ∀ j o', j < n → ops[j]? = some o' →
      (i = j ∨ o.dst = none ∨ o.dst ≠ o'.dst) ∧ ∀ t, o'.dst = some t → t ∈ o.looksAt ops → (j < i ∧ ∃ e ∈ o.after, Region.binds md e = true ∧ e.on = j) ∨ (i < j ∧ ∃ e ∈ o'.after, Region.binds md e = true ∧ e.on = i) := by
    intro i o hi ho
    have := List.all_eq_true.1 h3 i (List.mem_range.2 hi)
    simp only [ho, Bool.and_eq_true] at this
    obtain ⟨ha, hb⟩ := this
    refine ⟨fun e he hbd => ?_, fun j o' hj ho' => ?_⟩
    · have := (Array.all_eq_true'.1 ha) e he
      simpa [hbd] using this
    · have := List.all_eq_true.1 hb j (List.mem_range.2 hj)
      simp only [ho', Bool.and_eq_true, Bool.or_eq_true, decide_eq_true_eq, Option.isNone_iff_eq_none, bne_iff_ne] at this
      obtain ⟨hc, hd⟩ := this
      refine ⟨by rcases hc with (hc | hc) | hc; exact Or.inl hc; exact Or.inr (Or.inl hc); exact Or.inr (Or.inr hc), fun t ht hl => ?_⟩
      rw [ht] at hd
      simp only [Bool.or_eq_true, Bool.and_eq_true, decide_eq_true_eq, Bool.not_eq_true', Array.any_eq_true'] at hd
      rcases hd with (hd | ⟨hd, e, he, hb1, hb2⟩) | ⟨hd, e, he, hb1, hb2⟩
      · simp [hl] at hd
      · exact Or.inl ⟨hd, e, he, hb1, hb2⟩
      · exact Or.inr ⟨hd, e, he, hb1, hb2⟩
  refine ⟨Region.noSelect_spec h1, h2, fun i o hi ho => (key i o hi ho).1, fun i j o o' t hi hj ho ho' hd hd' => ?_, fun i j o o' t hi hj ho ho' hd ht => ((key i o hi ho).2 j o' hj ho').2 t hd ht⟩
  rcases ((key i o hi ho).2 j o' hj ho').1 with h | h | h
  · exact h
  · rw [hd] at h; cases h
  · exact absurd (hd.trans hd'.symm) h

/-- What holds while operations come up. -/
structure RInv (ops : Array Oper) (n : Nat) (Fs : List Fact) (C : World → Prop) (a0 : Act) (L : Array Bool) (a : Act) (w : World) (f : Vals) : Prop where
  cw : C w
  facts : ∀ (j : Nat) (F : Fact), L.getD j false = true → Fs[j]? = some F → F (f j) w
  defs : a.defers = a0.defers
  size : a.tmps.size = a0.tmps.size
  here : ∀ j o t, j < n → ops[j]? = some o → L.getD j false = true → o.dst = some t → t < a0.tmps.size → a.tmps[t]? = some (f j)
  off : ∀ t, (∀ j o, j < n → ops[j]? = some o → L.getD j false = true → o.dst ≠ some t) → a.tmps[t]? = a0.tmps[t]?

theorem take_at {n i j : Nat} {o : Oper} (h : (ops.toList.take n)[j]? = some o) : j < n ∧ ops[j]? = some o := by
  rw [List.getElem?_take] at h
  by_cases hj : j < n
  · rw [if_pos hj] at h; exact ⟨hj, by simpa using h⟩
  · rw [if_neg hj] at h; cases h
/-- An operation that may come up sees the same slots as in the text's order. -/
theorem same_slots {n i : Nat} {o : Oper} {Fs : List Fact} {a0 a : Act} {L : Array Bool} {w : World} {f : Vals} (hk : RelOk md ops n) (hH : HeadInv md ops n L) (inv : RInv ops n Fs C a0 L a w f) (hi : i < n) (hr : i ∈ Region.ready md ops L) (ho : ops[i]? = some o) :
    ∀ t ∈ o.looksAt ops, a.tmps[t]? = (putF f (ops.toList.take i) 0 a0).tmps[t]? := by
  intro t ht
  obtain ⟨hun, o', ho', hall⟩ := mem_ready.1 hr
  have : o' = o := Option.some.inj (ho'.symm.trans ho)
  subst this
  by_cases hex : ∃ j oj, j < n ∧ ops[j]? = some oj ∧ oj.dst = some t
  · obtain ⟨j, oj, hj, hoj, hdj⟩ := hex
    have uniq : ∀ j' o'', j' < n → ops[j']? = some o'' → o''.dst = some t → j' = j := fun j' o'' hj' ho'' hd => hk.one j' j o'' oj t hj' hj ho'' hoj hd hdj
    rcases hk.look i j o' oj t hi hj ho hoj hdj ht with ⟨hlt, e, he, hb, hon⟩ | ⟨hlt, e, he, hb, hon⟩
    · have hl : L.getD j false = true := by rw [← hon]; exact hall e he hb
      by_cases hts : t < a0.tmps.size
      · rw [inv.here j oj t hj hoj hl hdj hts]
        rw [putF_at f t (ops.toList.take i) 0 a0 j oj (by rw [List.getElem?_take, if_pos hlt]; simpa using hoj) hdj (fun j' o'' h1 h2 => by obtain ⟨h3, h4⟩ := take_at (i := i) h1; exact uniq j' o'' (by omega) h4 h2) hts]
        rw [Nat.zero_add]
      · have hts' := Nat.le_of_not_lt hts
        rw [Array.getElem?_eq_none (by rw [inv.size]; exact hts'), Array.getElem?_eq_none (by rw [putF_size]; exact hts')]
    · have hl : L.getD j false ≠ true := fun hl => by
        have := hH.closed j oj hoj hl e he hb
        rw [hon, getD_both hun] at this
        cases this
      rw [inv.off t (fun j' o'' hj' ho'' hl' hd => hl (uniq j' o'' hj' ho'' hd ▸ hl'))]
      rw [putF_off f t _ _ _ (fun j' o'' h1 h2 => by obtain ⟨h3, h4⟩ := take_at (i := i) h1; have := uniq j' o'' (by omega) h4 h2; omega)]
  · have hno : ∀ j oj, j < n → ops[j]? = some oj → oj.dst ≠ some t := fun j oj h1 h2 h3 => hex ⟨j, oj, h1, h2, h3⟩
    rw [inv.off t (fun j o hj ho _ => hno j o hj ho)]
    rw [putF_off f t _ _ _ (fun j' o'' h1 => by obtain ⟨h3, h4⟩ := take_at (i := i) h1; exact hno j' o'' (by omega) h4)]
theorem exec_same {o : Oper} {a b : Act} (hs : ∀ cs b, o.op ≠ .select cs b) (h : ∀ t ∈ o.looksAt ops, a.tmps[t]? = b.tmps[t]?) : execOp a.eval o = execOp b.eval o := by
  refine execOp_congr o hs fun x hx => ?_
  cases x with
  | tmp t =>
    have := h t (List.mem_append_left _ (List.mem_filterMap.2 ⟨.tmp t, by simpa using hx, rfl⟩))
    simp only [Act.eval, Array.getD_eq_getD_getElem?, this]
  | _ => rfl
theorem wanted_same {o : Oper} {a b : Act} (h : ∀ t ∈ o.looksAt ops, a.tmps[t]? = b.tmps[t]?) : Region.wanted o (yielded ops a.tmps) = Region.wanted o (yielded ops b.tmps) := by
  unfold Region.wanted
  cases hg : o.guard with
  | none => rfl
  | some gw =>
    obtain ⟨g, want⟩ := gw
    have hy : yielded ops a.tmps g = yielded ops b.tmps g := by
      unfold yielded
      cases ht : (ops[g]?).bind (·.dst) with
      | none => rfl
      | some t =>
        have := h t (by simp [Oper.looksAt, hg, ht])
        simp [this]
    simp only [hy]
/-- One comes up. -/
theorem RInv.next {n i : Nat} {o : Oper} {Fs : List Fact} {a0 a : Act} {L : Array Bool} {w w' : World} {f : Vals} (hk : RelOk md ops n) (hst : ∀ (j : Nat) (F : Fact), Fs[j]? = some F → Stable R F) (hC : ∀ w w', C w → R w w' → C w') (inv : RInv ops n Fs C a0 L a w f) (hi : i < n) (hun : L.getD i true = false) (ho : ops[i]? = some o) (hr : R w w') {v : Value}
    (hF : ∀ F : Fact, Fs[i]? = some F → F v w') : RInv ops n Fs C a0 (L.setIfInBounds i true) (a.put o.dst v) w' (fun j => if j = i then v else f j) := by
  have hls : ∀ j, j ≠ i → (L.setIfInBounds i true).getD j false = L.getD j false := fun j hj => getD_set_ne false (Ne.symm hj)
  refine ⟨hC _ _ inv.cw hr, fun j F hl hj => ?_, by rw [putA_defs]; exact inv.defs, by rw [putA_size]; exact inv.size, fun j oj t hj hoj hl hd ht => ?_, fun t hno => ?_⟩
  · by_cases hji : j = i
    · subst hji; simp only [if_true]; exact hF F hj
    · simp only [if_neg hji]
      rw [hls j hji] at hl
      exact hst j F hj _ _ _ hr (inv.facts j F hl hj)
  · by_cases hji : j = i
    · subst hji
      have : oj = o := Option.some.inj (hoj.symm.trans ho)
      subst this
      simp only [if_true]
      rw [hd, putA_at _ _ _ (by rw [inv.size]; exact ht)]
    · simp only [if_neg hji]
      rw [hls j hji] at hl
      rw [putA_off _ _ _ _ (fun hd2 => hji (hk.one j i oj o t hj hi hoj ho hd hd2))]
      exact inv.here j oj t hj hoj hl hd ht
  · have his : i < L.size := by
      rcases Nat.lt_or_ge i L.size with h | h
      · exact h
      · simp [Array.getElem?_eq_none h] at hun
    have hdi : o.dst ≠ some t := hno i o hi ho (by simp [Array.getD, his])
    rw [putA_off _ _ _ _ hdi]
    refine inv.off t (fun j oj hj hoj hl => hno j oj hj hoj ?_)
    by_cases hji : j = i
    · subst hji; simp [Array.getD, his]
    · rw [hls j hji]; exact hl
theorem RInv.done {n : Nat} {Fs : List Fact} {a0 a : Act} {L : Array Bool} {w : World} {f : Vals} (hk : RelOk md ops n) (inv : RInv ops n Fs C a0 L a w f) (hall : ∀ j, j < n → L.getD j false = true) : a = putF f (ops.toList.take n) 0 a0 := by
  have ht : a.tmps = (putF f (ops.toList.take n) 0 a0).tmps := by
    apply Array.ext_getElem?
    intro t
    by_cases hex : ∃ j oj, j < n ∧ ops[j]? = some oj ∧ oj.dst = some t
    · obtain ⟨j, oj, hj, hoj, hdj⟩ := hex
      by_cases hts : t < a0.tmps.size
      · rw [inv.here j oj t hj hoj (hall j hj) hdj hts]
        rw [putF_at f t (ops.toList.take n) 0 a0 j oj (by rw [List.getElem?_take, if_pos hj]; simpa using hoj) hdj (fun j' o'' h1 h2 => by obtain ⟨h3, h4⟩ := take_at (i := n) h1; exact hk.one j' j o'' oj t h3 hj h4 hoj h2 hdj) hts]
        rw [Nat.zero_add]
      · have hts' := Nat.le_of_not_lt hts
        rw [Array.getElem?_eq_none (by rw [inv.size]; exact hts'), Array.getElem?_eq_none (by rw [putF_size]; exact hts')]
    · have hno : ∀ j oj, j < n → ops[j]? = some oj → oj.dst ≠ some t := fun j oj h1 h2 h3 => hex ⟨j, oj, h1, h2, h3⟩
      rw [inv.off t (fun j o hj ho _ => hno j o hj ho)]
      rw [putF_off f t _ _ _ (fun j' o'' h1 => by obtain ⟨h3, h4⟩ := take_at (i := n) h1; exact hno j' o'' h3 h4)]
  have hd := inv.defs
  rw [← putF_defs f (ops.toList.take n) 0 a0] at hd
  cases a
  cases h : putF f (ops.toList.take n) 0 a0
  rw [h] at ht hd
  simp_all
theorem rel_any {n : Nat} {Fs : List Fact} {a0 : Act} {Q : Exit → Act → World → Prop} (hk : RelOk md ops n) (hFl : Fs.length = n) (hst : ∀ (j : Nat) (F : Fact), Fs[j]? = some F → Stable R F) (hC : ∀ w w', C w → R w w' → C w') (hRr : ∀ a, R a a) (hR : ∀ a b c, R a b → R b c → R a c)
    (hob : ∀ (i : Nat) (o : Oper) (F : Fact), i < n → ops[i]? = some o → Fs[i]? = some F → ∀ f w, C w → deps md o (Fs.take i) f w → relOp P ops R o (putF f (ops.toList.take i) 0 a0) w F)
    (hno : ∀ L, HeadInv md ops n L → ∀ i, i < n → L.getD i true = false → ∀ t, n ≤ t → t ∉ Region.ready md ops L)
    (hfin : ∀ f w, C w → (∀ (j : Nat) (F : Fact), Fs[j]? = some F → F (f j) w) → ∀ L, HeadInv md ops n L → (∀ j, j < n → L.getD j false = true) → wpAny P md ops Q (ops.size - n) L (putF f (ops.toList.take n) 0 a0) w) :
    ∀ (fuel : Nat) (L : Array Bool) (a : Act) (w : World) (f : Vals), (L.toList.take n).count false = fuel → HeadInv md ops n L → RInv ops n Fs C a0 L a w f → wpAny P md ops Q (fuel + (ops.size - n)) L a w := by
  intro fuel
  induction fuel with
  | zero =>
    intro L a w f hn hH inv
    have hall : ∀ j, j < n → L.getD j false = true := by
      intro j hj
      have hjs : j < L.size := by rw [hH.size]; have := hk.le; omega
      have hm : false ∉ L.toList.take n := List.count_eq_zero.1 hn
      rcases hb : L[j] with _ | _
      · refine absurd ?_ hm
        rw [List.mem_take_iff_getElem]
        exact ⟨j, by simp; omega, by simpa using hb⟩
      · simp [Array.getD, hjs, hb]
    rw [Nat.zero_add, inv.done hk hall]
    exact hfin f w inv.cw (fun j F hj => inv.facts j F (hall j (by have := (List.getElem?_eq_some_iff.1 hj).1; omega)) hj) L hH hall
  | succ fuel ih =>
    intro L a w f hn hH inv
    have hls : L.size = ops.size := hH.size
    obtain ⟨i0, hi0, hun0⟩ : ∃ i, i < n ∧ L.getD i true = false := by
      have hm : false ∈ L.toList.take n := List.count_pos_iff.1 (by omega)
      rw [List.mem_take_iff_getElem] at hm
      obtain ⟨i, hi, e⟩ := hm
      have hi' : i < L.size := by simp at hi; omega
      refine ⟨i, by simp at hi; omega, ?_⟩
      simp [Array.getD, hi']
      simpa using e
    have hnt := hno L hH i0 hi0 hun0
    have some_rdy : ∀ (i : Nat), i < n → L.getD i true = false → ∃ j, j ∈ Region.ready md ops L := by
      intro i
      induction i using Nat.strongRecOn with
      | _ i ih2 =>
        intro hi hun
        by_cases hr : i ∈ Region.ready md ops L
        · exact ⟨i, hr⟩
        · have his : i < ops.size := by have := hk.le; omega
          have hoi : ops[i]? = some ops[i] := Array.getElem?_eq_getElem his
          rw [mem_ready] at hr
          have : ¬ ∀ e ∈ ops[i].after, Region.binds md e = true → L.getD e.on false = true := fun hall => hr ⟨hun, ops[i], hoi, hall⟩
          simp only [Classical.not_forall] at this
          obtain ⟨e, he, hb, hne⟩ := this
          have hlt := hk.back i _ hi hoi e he hb
          have hes : e.on < L.size := by omega
          refine ih2 e.on hlt (by omega) ?_
          simp [Array.getD, hes] at hne ⊢
          exact hne
    rw [show fuel + 1 + (ops.size - n) = (fuel + (ops.size - n)) + 1 by omega]
    refine ⟨fun h0 => ?_, fun i hi => ?_⟩
    · obtain ⟨j, hj⟩ := some_rdy i0 hi0 hun0
      rw [h0] at hj; cases hj
    · have hin : i < n := by
        rcases Nat.lt_or_ge i n with h | h
        · exact h
        · exact absurd hi (hnt i h)
      obtain ⟨hun, o, ho, hall⟩ := mem_ready.1 hi
      have his : i < L.size := by rw [hls]; exact (Array.getElem?_eq_some_iff.1 ho).1
      have hcn : ((L.setIfInBounds i true).toList.take n).count false = fuel := by
        rw [Array.toList_setIfInBounds, List.take_set]
        have hi8 : i < (L.toList.take n).length := by simp; omega
        rw [List.count_set hi8]
        have hli : (L.toList.take n)[i] = false := by simpa [Array.getD, his] using hun
        rw [hli, hn]
        simp
      have hH' := hH.set hi hin
      obtain ⟨F, hF⟩ : ∃ F, Fs[i]? = some F := ⟨Fs[i], List.getElem?_eq_getElem (by omega)⟩
      have hsame := same_slots hk hH inv hin hi ho
      have hdeps : deps md o (Fs.take i) f w := by
        intro e he hb
        have hlt := hk.back i o hin ho e he hb
        unfold factOf
        rw [List.getElem?_take, if_pos hlt]
        cases hG : Fs[e.on]? with
        | none => trivial
        | some G => exact inv.facts e.on G (hall e he hb) hG
      have hop := hob i o F hin ho hF f w inv.cw hdeps
      have goon : ∀ v w', R w w' → F v w' → wpAny P md ops Q (fuel + (ops.size - n)) (L.setIfInBounds i true) (a.put o.dst v) w' := fun v w' hr hv =>
        ih _ _ _ _ hcn hH' (inv.next hk hst hC hin hun ho hr (fun F' hF' => by rw [hF] at hF'; cases hF'; exact hv))
      unfold wpOp
      simp only [ho]
      unfold relOp at hop
      rw [← wanted_same hsame, ← exec_same (hk.sel i o · · ho) hsame] at hop
      split
      · rename_i hw
        rw [if_pos hw] at hop
        refine Or.inl ?_
        unfold Oper.wp
        generalize (execOp a.eval o).run P w = r at hop ⊢
        cases r with
        | ok nx w' =>
          cases nx <;> simp only [relUpon] at hop <;> simp only [Oper.upon]
          case value u => exact goon u w' hop.1 hop.2
          case skip => exact goon undef w' hop.1 hop.2
          case enter g args =>
            refine hop.2.mono fun e w'' ⟨v, he, hr, hv⟩ => ?_
            subst he
            exact goon v w'' (hR _ _ _ hop.1 hr) hv
        | halt x w' => simp only [relUpon] at hop
      · rename_i hw
        rw [if_neg hw] at hop
        exact goon undef w (hRr w) hop

/-- All facts. -/
def allF (f : Vals) (w : World) : List Fact → Nat → Prop
  | [], _ => True
  | F :: l, k => F (f k) w ∧ allF f w l (k + 1)
theorem allF_of {f : Vals} {w : World} : ∀ (l : List Fact) (k : Nat), (∀ (j : Nat) (F : Fact), l[j]? = some F → F (f (k + j)) w) → allF f w l k
  | [], _, _ => trivial
  | F :: l, k, h => ⟨h 0 F rfl, allF_of l (k + 1) fun j G hj => by have := h (j + 1) G (by simpa using hj); rwa [show k + (j + 1) = k + 1 + j by omega] at this⟩
theorem allF_get {f : Vals} {w : World} : ∀ {l : List Fact} {k : Nat}, allF f w l k → ∀ (j : Nat) (F : Fact), l[j]? = some F → F (f (k + j)) w
  | [], _, _, j, F, h => by simp at h
  | G :: l, k, h, 0, F, hj => by
    have e : G = F := by simpa using hj
    exact e ▸ h.1
  | G :: l, k, h, j + 1, F, hj => by
    have := allF_get h.2 j F (by simpa using hj)
    rwa [show k + 1 + j = k + (j + 1) by omega] at this
theorem list_true {n : Nat} {L : Array Bool} (hH : HeadInv md ops n L) (hn : n ≤ ops.size) (hall : ∀ j, j < n → L.getD j false = true) : L = wide (Array.replicate n true) (ops.size - n) := by
  have hs := hH.size
  apply Array.ext
  · simp [wide]; omega
  · intro i h1 h2
    by_cases hi : i < n
    · have := hall i hi
      simp [Array.getD, h1] at this
      rw [this]
      simp [wide]
      rw [Array.getElem_append_left (by simpa using hi)]
      simp
    · have := hH.tail i (by omega) (by omega)
      simp [Array.getD, h1] at this
      rw [this]
      simp [wide]
      rw [Array.getElem_append_right (by simp; omega)]
      simp
theorem rel_start {n : Nat} {Fs : List Fact} {a : Act} {w : World} {f : Vals} (hn : n ≤ ops.size) (hC : C w) : HeadInv md ops n (Array.replicate ops.size false) ∧ RInv ops n Fs C a (Array.replicate ops.size false) a w f ∧ ((Array.replicate ops.size false).toList.take n).count false = n := by
  refine ⟨⟨by simp, fun j oj _ hl => (by rw [getD_replicate_false] at hl; cases hl), fun t _ ht => getD_in (by simpa using ht) (getD_replicate_false _ _)⟩, ⟨hC, fun j F hl _ => (by rw [getD_replicate_false] at hl; cases hl), rfl, rfl, fun j o t _ _ hl => (by rw [getD_replicate_false] at hl; cases hl), fun t _ => rfl⟩, ?_⟩
  simp [List.take_replicate]
  omega
theorem wp_rel {n id : Nat} {Q : Exit → Act → World → Prop} {a : Act} {w : World} {l : List Oper} (hm : P.follows .mixedOrders = true) (hk : RelOk .any l.toArray n) (hC0 : C w.drew) (hC : ∀ w w', C w → R w w' → C w') (hRr : ∀ a, R a a) (hR : ∀ a b c, R a b → R b c → R a c)
    (hno : ∀ L, HeadInv .any l.toArray n L → ∀ i, i < n → L.getD i true = false → ∀ t, n ≤ t → t ∉ Region.ready .any l.toArray L)
    (hseq : Region.seqB .any l.toArray (l.drop n).length n (wide (Array.replicate n true) (l.drop n).length) = true)
    (h : wpRel P .any l.toArray R C (fun Fs A => ∀ f w', C w' → allF f w' Fs 0 → wpList P l.toArray Q (l.drop n) (A f) w') (l.take n) [] (fun _ => a)) : (Code.region id l.toArray true).wp P Q a w := by
  have hn : n ≤ l.length := by simpa using hk.le
  obtain ⟨Gs, hl, hi, hq⟩ := wpRel_out _ _ _ h
  simp only [List.nil_append] at hi hq
  have hgl : Gs.length = n := by rw [hl, List.length_take]; omega
  refine wp_region_any hm ?_
  obtain ⟨s1, s2, s3⟩ := rel_start (md := .any) (ops := l.toArray) (C := C) (n := n) (Fs := Gs) (a := a) (w := w.drew) (f := fun _ => undef) hk.le hC0
  have hd : (l.drop n).length = l.toArray.size - n := by simp
  have H := rel_any (P := P) (R := R) (C := C) (Fs := Gs) (a0 := a) (Q := Q) hk hgl
    (fun j F hj => by
      have hjl : j < Gs.length := (List.getElem?_eq_some_iff.1 hj).1
      obtain ⟨F', h1, h2, _⟩ := hi j (l.take n)[j] (List.getElem?_eq_getElem (by rw [← hl]; exact hjl))
      rw [h1] at hj; cases hj; exact h2) hC hRr hR
    (fun i o F hin ho hF f w' hc hdp => by
      obtain ⟨F', h1, _, h3⟩ := hi i o (by rw [List.getElem?_take, if_pos hin]; simpa using ho)
      rw [h1] at hF; cases hF
      have := h3 f w' hc hdp
      rw [List.take_take, Nat.min_eq_left (Nat.le_of_lt hin)] at this
      exact this)
    hno
    (fun f w' hc hf L hL hall => by
      rw [list_true hL hk.le hall, ← hd]
      refine wpAny_of_seq (l.drop n) n _ _ w' (fun j => by rw [List.getElem?_toArray, List.getElem?_drop]) hseq ?_
      exact hq f w' hc (allF_of Gs 0 (fun j F hj => by rw [Nat.zero_add]; exact hf j F hj)))
    n _ a w.drew (fun _ => undef) s3 s1 s2
  rw [show n + (l.toArray.size - n) = l.toArray.size by simp; omega] at H
  exact H
/-- All operations. -/
theorem wp_region_rel {id : Nat} {Q : Exit → Act → World → Prop} {a : Act} {w : World} {l : List Oper} (hm : P.follows .mixedOrders = true) (hB : (relB .any l.toArray l.length && Region.seqB .any l.toArray 0 l.length (wide (Array.replicate l.length true) 0)) = true) (hC0 : C w.drew) (hC : ∀ w w', C w → R w w' → C w') (hRr : ∀ a, R a a) (hR : ∀ a b c, R a b → R b c → R a c)
    (h : wpRel P .any l.toArray R C (fun Fs A => ∀ f w', C w' → allF f w' Fs 0 → Q .normal (A f) w') l [] (fun _ => a)) : (Code.region id l.toArray true).wp P Q a w := by
  simp only [Bool.and_eq_true] at hB
  refine wp_rel (n := l.length) hm (relB_ok hB.1) hC0 hC hRr hR (fun L hL i hi hun t ht hr => ?_) ?_ ?_
  · have := (Array.getElem?_eq_some_iff.1 (mem_ready.1 hr).2.choose_spec.1).1
    simp at this; omega
  · rw [List.drop_length]; exact hB.2
  · rw [List.take_length, List.drop_length]; exact h
/-- The first n of them; the rest, one behind the other, is walked. -/
theorem wp_region_relH {id : Nat} {Q : Exit → Act → World → Prop} {a : Act} {w : World} {l : List Oper} (n : Nat) (hm : P.follows .mixedOrders = true)
    (hB : (relB .any l.toArray n && (Region.sinkB .any l.toArray n && Region.chainB .any l.toArray n && decide (n < l.length) && Region.seqB .any l.toArray (l.drop n).length n (wide (Array.replicate n true) (l.drop n).length))) = true) (hC0 : C w.drew) (hC : ∀ w w', C w → R w w' → C w') (hRr : ∀ a, R a a) (hR : ∀ a b c, R a b → R b c → R a c)
    (h : wpRel P .any l.toArray R C (fun Fs A => ∀ f w', C w' → allF f w' Fs 0 → wpList P l.toArray Q (l.drop n) (A f) w') (l.take n) [] (fun _ => a)) : (Code.region id l.toArray true).wp P Q a w := by
  simp only [Bool.and_eq_true, decide_eq_true_eq] at hB
  obtain ⟨h1, ⟨⟨h2, h3⟩, h4⟩, h5⟩ := hB
  exact wp_rel hm (relB_ok h1) hC0 hC hRr hR (fun L hL i hi hun t ht => tail_waits h2 h3 (by simpa using h4) hL _ i rfl hi hun t ht) h5 h
end
end Go.Proofs.Ytinkookmjnflhaa
