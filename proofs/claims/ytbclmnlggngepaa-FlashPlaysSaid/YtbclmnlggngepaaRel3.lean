/- A region that draws its order, of whose first operations one is a call that moves memory: the class of worlds ahead of it is another one than behind it. -/
import Derived.Test.YtbclmnlggngepaaRel
namespace Go.Proofs.Ytbclmnlggngepaa
open Go.RowKit
set_option linter.unusedVariables false

abbrev AnyW : World → World → Prop := fun _ _ => True
/-- What is asked of the call that moves. -/
def mvOp (P : Program) (C : Bool → World → Prop) (o : Oper) (a : Act) (w : World) (F : Fact) : Prop :=
  match (execOp a.eval o).run P w with
  | .ok (.enter g args) w' => Calls P g args w' (fun e w'' => ∃ v, e = .returned v ∧ C true w'' ∧ F v w'')
  | _ => False
section
variable {P : Program} {md : Region.Mode} {ops : Array Oper} {R1 : World → World → Prop} {C : Bool → World → Prop} {m : Nat}

/-- The operations in the text's order. -/
def wpRel3 (P : Program) (md : Region.Mode) (ops : Array Oper) (R1 : World → World → Prop) (C : Bool → World → Prop) (m : Nat) (Q : List Fact → (Vals → Act) → Prop) : List Oper → List Fact → (Vals → Act) → Prop
  | [], Fs, A => Q Fs A
  | o :: l, Fs, A => (Fs.length = m → o.guard = none ∧ ∃ F : Fact, Stable AnyW F ∧ (∀ f w, C false w → deps md o Fs f w → mvOp P C o (A f) w F) ∧ wpRel3 P md ops R1 C m Q l (Fs ++ [F]) (fun f => (A f).put o.dst (f Fs.length))) ∧
      (Fs.length ≠ m → ∃ F : Fact, Stable AnyW F ∧ (∀ f b w, C b w → deps md o Fs f w → relOp P ops R1 o (A f) w F) ∧ wpRel3 P md ops R1 C m Q l (Fs ++ [F]) (fun f => (A f).put o.dst (f Fs.length)))
theorem wpRel3_nil {Q : List Fact → (Vals → Act) → Prop} {Fs : List Fact} {A : Vals → Act} (h : Q Fs A) : wpRel3 P md ops R1 C m Q [] Fs A := h
theorem wpRel3_out {Q : List Fact → (Vals → Act) → Prop} : ∀ (l : List Oper) (Fs : List Fact) (A : Vals → Act), wpRel3 P md ops R1 C m Q l Fs A →
    ∃ Gs : List Fact, Gs.length = l.length ∧ (∀ i o, l[i]? = some o → ∃ F, Gs[i]? = some F ∧ Stable AnyW F ∧
        (Fs.length + i = m → o.guard = none ∧ ∀ f w, C false w → deps md o (Fs ++ Gs.take i) f w → mvOp P C o (putF f (l.take i) Fs.length (A f)) w F) ∧
        (Fs.length + i ≠ m → ∀ f b w, C b w → deps md o (Fs ++ Gs.take i) f w → relOp P ops R1 o (putF f (l.take i) Fs.length (A f)) w F)) ∧
      Q (Fs ++ Gs) (fun f => putF f l Fs.length (A f))
  | [], Fs, A, h => ⟨[], rfl, fun i o ho => by simp at ho, by rw [List.append_nil]; exact h⟩
  | o :: l, Fs, A, h => by
    obtain ⟨h1, h2⟩ := h
    have key : ∃ F : Fact, Stable AnyW F ∧ (Fs.length = m → o.guard = none ∧ ∀ f w, C false w → deps md o Fs f w → mvOp P C o (A f) w F) ∧ (Fs.length ≠ m → ∀ f b w, C b w → deps md o Fs f w → relOp P ops R1 o (A f) w F) ∧ wpRel3 P md ops R1 C m Q l (Fs ++ [F]) (fun f => (A f).put o.dst (f Fs.length)) := by
      by_cases hm : Fs.length = m
      · obtain ⟨hg, F, k1, k2, k3⟩ := h1 hm
        exact ⟨F, k1, fun _ => ⟨hg, k2⟩, fun hn => absurd hm hn, k3⟩
      · obtain ⟨F, k1, k2, k3⟩ := h2 hm
        exact ⟨F, k1, fun hn => absurd hn hm, fun _ => k2, k3⟩
    obtain ⟨F, hs, hm1, hm2, hr⟩ := key
    obtain ⟨Gs, hl, hi, hq⟩ := wpRel3_out l _ _ hr
    refine ⟨F :: Gs, by simp [hl], fun i o' ho => ?_, ?_⟩
    · cases i with
      | zero =>
        have e : o' = o := by simpa using ho.symm
        subst e
        refine ⟨F, rfl, hs, fun e => ?_, fun e => ?_⟩
        · obtain ⟨hg, hob⟩ := hm1 (by simpa using e)
          exact ⟨hg, fun f w hc hd => by simpa [putF] using hob f w hc (by simpa using hd)⟩
        · exact fun f b w hc hd => by simpa [putF] using hm2 (by simpa using e) f b w hc (by simpa using hd)
      | succ i =>
        obtain ⟨F', h1, h2, h3, h4⟩ := hi i o' (by simpa using ho)
        refine ⟨F', by simpa using h1, h2, fun e => ?_, fun e => ?_⟩
        · obtain ⟨hg, hob⟩ := h3 (by simp; omega)
          refine ⟨hg, fun f w hc hd => ?_⟩
          have := hob f w hc (by simpa using hd)
          simpa [putF] using this
        · intro f b w hc hd
          have := h4 (by simp; omega) f b w hc (by simpa using hd)
          simpa [putF] using this
    · simpa [putF] using hq
theorem wpRel3_step {Q : List Fact → (Vals → Act) → Prop} {o : Oper} {l : List Oper} {Fs : List Fact} {A : Vals → Act} (hm : Fs.length ≠ m)
    (h : ∀ K : List Fact → (Vals → Act) → Prop, (∀ Gs B, wpRel3 P md ops R1 C m Q l Gs B → K Gs B) → ∃ F : Fact, Stable AnyW F ∧ (∀ f b w, C b w → deps md o Fs f w → relOp P ops R1 o (A f) w F) ∧ K (Fs ++ [F]) (fun f => (A f).put o.dst (f Fs.length))) :
    wpRel3 P md ops R1 C m Q (o :: l) Fs A := ⟨fun e => absurd e hm, fun _ => h _ (fun _ _ h => h)⟩
theorem wpRel3_move {Q : List Fact → (Vals → Act) → Prop} {o : Oper} {l : List Oper} {Fs : List Fact} {A : Vals → Act} (hm : Fs.length = m) (hg : o.guard = none)
    (c : Value) (ob : ∀ f w, C false w → deps md o Fs f w → mvOp P C o (A f) w (fun v _ => v = c))
    (h : ∀ K : List Fact → (Vals → Act) → Prop, (∀ Gs B, wpRel3 P md ops R1 C m Q l Gs B → K Gs B) → K (Fs ++ [fun v _ => v = c]) (fun f => (A f).put o.dst (f Fs.length))) :
    wpRel3 P md ops R1 C m Q (o :: l) Fs A := ⟨fun _ => ⟨hg, fun v _ => v = c, fun _ _ _ _ h => h, ob, h _ (fun _ _ h => h)⟩, fun e => absurd hm e⟩
theorem rel3_eq {K : List Fact → (Vals → Act) → Prop} {o : Oper} {Fs : List Fact} {A : Vals → Act} (c : Value) (ob : ∀ f b w, C b w → deps md o Fs f w → relOp P ops R1 o (A f) w (fun v _ => v = c)) (k : K (Fs ++ [fun v _ => v = c]) (fun f => (A f).put o.dst (f Fs.length))) :
    ∃ F : Fact, Stable AnyW F ∧ (∀ f b w, C b w → deps md o Fs f w → relOp P ops R1 o (A f) w F) ∧ K (Fs ++ [F]) (fun f => (A f).put o.dst (f Fs.length)) := ⟨_, fun _ _ _ _ h => h, ob, k⟩

theorem rel_any3 {n : Nat} {Fs : List Fact} {a0 : Act} {Q : Exit → Act → World → Prop} (hk : RelOk md ops n) (hmn : m < n) (hFl : Fs.length = n) (hst : ∀ (j : Nat) (F : Fact), Fs[j]? = some F → Stable AnyW F) (hC : ∀ b w w', C b w → R1 w w' → C b w') (hRr : ∀ a, R1 a a) (hR : ∀ a b c, R1 a b → R1 b c → R1 a c)
    (hob : ∀ (i : Nat) (o : Oper) (F : Fact), i < n → i ≠ m → ops[i]? = some o → Fs[i]? = some F → ∀ f b w, C b w → deps md o (Fs.take i) f w → relOp P ops R1 o (putF f (ops.toList.take i) 0 a0) w F)
    (hom : ∀ (o : Oper) (F : Fact), ops[m]? = some o → Fs[m]? = some F → o.guard = none ∧ ∀ f w, C false w → deps md o (Fs.take m) f w → mvOp P C o (putF f (ops.toList.take m) 0 a0) w F)
    (hno : ∀ L, HeadInv md ops n L → ∀ i, i < n → L.getD i true = false → ∀ t, n ≤ t → t ∉ Region.ready md ops L)
    (hfin : ∀ f w, C true w → (∀ (j : Nat) (F : Fact), Fs[j]? = some F → F (f j) w) → ∀ L, HeadInv md ops n L → (∀ j, j < n → L.getD j false = true) → wpAny P md ops Q (ops.size - n) L (putF f (ops.toList.take n) 0 a0) w) :
    ∀ (fuel : Nat) (L : Array Bool) (a : Act) (w : World) (f : Vals), (L.toList.take n).count false = fuel → HeadInv md ops n L → RInv ops n Fs (C (L.getD m false)) a0 L a w f → wpAny P md ops Q (fuel + (ops.size - n)) L a w := by
  intro fuel
  induction fuel with
  | zero =>
    intro L a w f hn hH inv
    have hall : ∀ j, j < n → L.getD j false = true := by
      intro j hj
      have hjs : j < L.size := by rw [hH.size]; have := hk.le; omega
      have hm : false ∉ L.toList.take n := List.count_eq_zero.1 hn
      rcases hb : L[j] with _ | _
      · refine absurd ?_ hm
        rw [List.mem_take_iff_getElem]
        exact ⟨j, by simp; omega, by simpa using hb⟩
      · simp [Array.getD, hjs, hb]
    rw [Nat.zero_add, inv.done hk hall]
    have hcw := inv.cw
    rw [hall m hmn] at hcw
    exact hfin f w hcw (fun j F hj => inv.facts j F (hall j (by have := (List.getElem?_eq_some_iff.1 hj).1; omega)) hj) L hH hall
  | succ fuel ih =>
    intro L a w f hn hH inv
    have hls : L.size = ops.size := hH.size
    obtain ⟨i0, hi0, hun0⟩ : ∃ i, i < n ∧ L.getD i true = false := by
      have hm : false ∈ L.toList.take n := List.count_pos_iff.1 (by omega)
      rw [List.mem_take_iff_getElem] at hm
      obtain ⟨i, hi, e⟩ := hm
      have hi' : i < L.size := by simp at hi; omega
      refine ⟨i, by simp at hi; omega, ?_⟩
      simp [Array.getD, hi']
      simpa using e
    have hnt := hno L hH i0 hi0 hun0
    have some_rdy : ∀ (i : Nat), i < n → L.getD i true = false → ∃ j, j ∈ Region.ready md ops L := by
      intro i
      induction i using Nat.strongRecOn with
      | _ i ih2 =>
        intro hi hun
        by_cases hr : i ∈ Region.ready md ops L
        · exact ⟨i, hr⟩
        · have his : i < ops.size := by have := hk.le; omega
          have hoi : ops[i]? = some ops[i] := Array.getElem?_eq_getElem his
          rw [mem_ready] at hr
          have : ¬ ∀ e ∈ ops[i].after, Region.binds md e = true → L.getD e.on false = true := fun hall => hr ⟨hun, ops[i], hoi, hall⟩
          simp only [Classical.not_forall] at this
          obtain ⟨e, he, hb, hne⟩ := this
          have hlt := hk.back i _ hi hoi e he hb
          have hes : e.on < L.size := by omega
          refine ih2 e.on hlt (by omega) ?_
          simp [Array.getD, hes] at hne ⊢
          exact hne
    rw [show fuel + 1 + (ops.size - n) = (fuel + (ops.size - n)) + 1 by omega]
    refine ⟨fun h0 => ?_, fun i hi => ?_⟩
    · obtain ⟨j, hj⟩ := some_rdy i0 hi0 hun0
      rw [h0] at hj; cases hj
    · have hin : i < n := by
        rcases Nat.lt_or_ge i n with h | h
        · exact h
        · exact absurd hi (hnt i h)
      obtain ⟨hun, o, ho, hall⟩ := mem_ready.1 hi
      have his : i < L.size := by rw [hls]; exact (Array.getElem?_eq_some_iff.1 ho).1
      have hcn : ((L.setIfInBounds i true).toList.take n).count false = fuel := by
        rw [Array.toList_setIfInBounds, List.take_set]
        have hi8 : i < (L.toList.take n).length := by simp; omega
        rw [List.count_set hi8]
        have hli : (L.toList.take n)[i] = false := by simpa [Array.getD, his] using hun
        rw [hli, hn]
        simp
      have hH' := hH.set hi hin
      obtain ⟨F, hF⟩ : ∃ F, Fs[i]? = some F := ⟨Fs[i], List.getElem?_eq_getElem (by omega)⟩
      have hsame := same_slots hk hH inv hin hi ho
      have hdeps : deps md o (Fs.take i) f w := by
        intro e he hb
        have hlt := hk.back i o hin ho e he hb
        unfold factOf
        rw [List.getElem?_take, if_pos hlt]
        cases hG : Fs[e.on]? with
        | none => trivial
        | some G => exact inv.facts e.on G (hall e he hb) hG
      have inv0 : RInv ops n Fs (fun _ => True) a0 L a w f := ⟨trivial, inv.facts, inv.defs, inv.size, inv.here, inv.off⟩
      have goon : ∀ v w', C ((L.setIfInBounds i true).getD m false) w' → F v w' → wpAny P md ops Q (fuel + (ops.size - n)) (L.setIfInBounds i true) (a.put o.dst v) w' := fun v w' hc hv => by
        have nx := inv0.next (R := AnyW) hk hst (fun _ _ _ _ => trivial) hin hun ho trivial (w' := w') (fun F' hF' => by rw [hF] at hF'; cases hF'; exact hv)
        exact ih _ _ _ _ hcn hH' ⟨hc, nx.facts, nx.defs, nx.size, nx.here, nx.off⟩
      by_cases him : i = m
      · subst him
        obtain ⟨hg, hop⟩ := hom o F ho hF
        have hcw := inv.cw
        have hli : L.getD i false = false := by simpa [Array.getD, his] using hun
        rw [hli] at hcw
        have hop := hop f w hcw hdeps
        unfold wpOp
        simp only [ho]
        unfold mvOp at hop
        rw [← exec_same (hk.sel i o · · ho) hsame] at hop
        have hst : (L.setIfInBounds i true).getD i false = true := by simp [Array.getD, his]
        rw [hst] at goon
        have hw : Region.wanted o (yielded ops a.tmps) = true := by unfold Region.wanted; rw [hg]
        rw [if_pos hw]
        refine Or.inl ?_
        unfold Oper.wp
        generalize (execOp a.eval o).run P w = r at hop ⊢
        cases r with
        | ok nx w' =>
          cases nx <;> simp only at hop <;> simp only [Oper.upon]
          case enter g args =>
            refine hop.mono fun e w'' ⟨v, he, hc, hv⟩ => ?_
            subst he
            exact goon v w'' hc hv
        | halt x w' => simp only at hop
      · have hop := hob i o F hin him ho hF f _ w inv.cw hdeps
        have hst : (L.setIfInBounds i true).getD m false = L.getD m false := getD_set_ne false him
        rw [hst] at goon
        have goon2 : ∀ v w', R1 w w' → F v w' → wpAny P md ops Q (fuel + (ops.size - n)) (L.setIfInBounds i true) (a.put o.dst v) w' := fun v w' hr hv => goon v w' (hC _ _ _ inv.cw hr) hv
        unfold wpOp
        simp only [ho]
        unfold relOp at hop
        rw [← wanted_same hsame, ← exec_same (hk.sel i o · · ho) hsame] at hop
        split
        · rename_i hw
          rw [if_pos hw] at hop
          refine Or.inl ?_
          unfold Oper.wp
          generalize (execOp a.eval o).run P w = r at hop ⊢
          cases r with
          | ok nx w' =>
            cases nx <;> simp only [relUpon] at hop <;> simp only [Oper.upon]
            case value u => exact goon2 u w' hop.1 hop.2
            case skip => exact goon2 undef w' hop.1 hop.2
            case enter g args =>
              refine hop.2.mono fun e w'' ⟨v, he, hr, hv⟩ => ?_
              subst he
              exact goon2 v w'' (hR _ _ _ hop.1 hr) hv
          | halt x w' => simp only [relUpon] at hop
        · rename_i hw
          rw [if_neg hw] at hop
          exact goon2 undef w (hRr w) hop
/-- The first n operations, the m-th of which moves memory; the rest, one behind the other, is walked. -/
theorem wp_region_rel3 {id : Nat} {Q : Exit → Act → World → Prop} {a : Act} {w : World} {l : List Oper} (n m : Nat) (hm : P.follows .mixedOrders = true)
    (hB : (decide (m < n) && relB .any l.toArray n && (Region.sinkB .any l.toArray n && Region.chainB .any l.toArray n && decide (n < l.length) && Region.seqB .any l.toArray (l.drop n).length n (wide (Array.replicate n true) (l.drop n).length))) = true) (hC0 : C false w.drew) (hC : ∀ b w w', C b w → R1 w w' → C b w') (hRr : ∀ a, R1 a a) (hR : ∀ a b c, R1 a b → R1 b c → R1 a c)
    (h : wpRel3 P .any l.toArray R1 C m (fun Fs A => ∀ f w', C true w' → allF f w' Fs 0 → wpList P l.toArray Q (l.drop n) (A f) w') (l.take n) [] (fun _ => a)) : (Code.region id l.toArray true).wp P Q a w := by
  simp only [Bool.and_eq_true, decide_eq_true_eq] at hB
  obtain ⟨⟨h0, h1⟩, ⟨⟨h2, h3⟩, h4⟩, h5⟩ := hB
  have hk := relB_ok h1
  obtain ⟨Gs, hl, hi, hq⟩ := wpRel3_out _ _ _ h
  simp only [List.nil_append, List.length_nil, Nat.zero_add] at hi hq
  have hgl : Gs.length = n := by rw [hl, List.length_take]; omega
  refine wp_region_any hm ?_
  obtain ⟨s1, s2, s3⟩ := rel_start (md := .any) (ops := l.toArray) (C := C false) (n := n) (Fs := Gs) (a := a) (w := w.drew) (f := fun _ => undef) hk.le hC0
  have hd : (l.drop n).length = l.toArray.size - n := by simp
  have hz : (Array.replicate l.toArray.size false).getD m false = false := getD_replicate_false _ _
  have H := rel_any3 (P := P) (R1 := R1) (C := C) (m := m) (Fs := Gs) (a0 := a) (Q := Q) hk h0 hgl
    (fun j F hj => by
      have hjl : j < Gs.length := (List.getElem?_eq_some_iff.1 hj).1
      obtain ⟨F', h1, h2, _⟩ := hi j (l.take n)[j] (List.getElem?_eq_getElem (by rw [← hl]; exact hjl))
      rw [h1] at hj; cases hj; exact h2) hC hRr hR
    (fun i o F hin him ho hF f b w' hc hdp => by
      obtain ⟨F', h1, _, _, h3⟩ := hi i o (by rw [List.getElem?_take, if_pos hin]; simpa using ho)
      rw [h1] at hF; cases hF
      have := h3 him f b w' hc hdp
      rw [List.take_take, Nat.min_eq_left (Nat.le_of_lt hin)] at this
      exact this)
    (fun o F ho hF => by
      obtain ⟨F', h1, _, h3, _⟩ := hi m o (by rw [List.getElem?_take, if_pos h0]; simpa using ho)
      rw [h1] at hF; cases hF
      obtain ⟨hg, h3⟩ := h3 rfl
      refine ⟨hg, fun f w' hc hdp => ?_⟩
      have := h3 f w' hc hdp
      rw [List.take_take, Nat.min_eq_left (Nat.le_of_lt h0)] at this
      exact this)
    (fun L hL i hi hun t ht => tail_waits h2 h3 (by simpa using h4) hL _ i rfl hi hun t ht)
    (fun f w' hc hf L hL hall => by
      rw [list_true hL hk.le hall, ← hd]
      refine wpAny_of_seq (l.drop n) n _ _ w' (fun j => by rw [List.getElem?_toArray, List.getElem?_drop]) h5 ?_
      exact hq f w' hc (allF_of Gs 0 (fun j F hj => by rw [Nat.zero_add]; exact hf j F hj)))
    n _ a w.drew (fun _ => undef) s3 s1 (by rw [hz]; exact s2)
  rw [show n + (l.toArray.size - n) = l.toArray.size by simp; omega] at H
  exact H
end
end Go.Proofs.Ytbclmnlggngepaa
