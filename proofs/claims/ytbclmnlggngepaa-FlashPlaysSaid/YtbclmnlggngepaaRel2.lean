/- A region that draws its order: its first operation is a copy of a slot, which may be late; the next ones may make memory; the rest waits for all of them but the first. -/
import Derived.Test.YtbclmnlggngepaaRel
namespace Go.Proofs.Ytbclmnlggngepaa
open Go.RowKit
set_option linter.unusedVariables false
section
variable {P : Program} {md : Region.Mode} {ops : Array Oper} {R : World → World → Prop} {C : World → Prop}
theorem rel_any2 {n : Nat} {Fs : List Fact} {a0 : Act} {Q : Exit → Act → World → Prop} (hk : RelOk md ops n) (hFl : Fs.length = n) (hst : ∀ (j : Nat) (F : Fact), Fs[j]? = some F → Stable R F) (hC : ∀ w w', C w → R w w' → C w') (hRr : ∀ a, R a a) (hR : ∀ a b c, R a b → R b c → R a c)
    (hob : ∀ (i : Nat) (o : Oper) (F : Fact), i < n → ops[i]? = some o → Fs[i]? = some F → ∀ f w, C w → deps md o (Fs.take i) f w → relOp P ops R o (putF f (ops.toList.take i) 0 a0) w F)
    (I : Array Bool → Prop) (hI : ∀ L i, I L → I (L.setIfInBounds i true)) (hno : ∀ L, I L → HeadInv md ops n L → ∀ i, i < n → L.getD i true = false → ∀ t, n ≤ t → t ∉ Region.ready md ops L)
    (hfin : ∀ f w, C w → (∀ (j : Nat) (F : Fact), Fs[j]? = some F → F (f j) w) → ∀ L, HeadInv md ops n L → (∀ j, j < n → L.getD j false = true) → wpAny P md ops Q (ops.size - n) L (putF f (ops.toList.take n) 0 a0) w) :
    ∀ (fuel : Nat) (L : Array Bool) (a : Act) (w : World) (f : Vals), I L → (L.toList.take n).count false = fuel → HeadInv md ops n L → RInv ops n Fs C a0 L a w f → wpAny P md ops Q (fuel + (ops.size - n)) L a w := by
  intro fuel
  induction fuel with
  | zero =>
    intro L a w f hIL hn hH inv
    have hall : ∀ j, j < n → L.getD j false = true := by
      intro j hj
      have hjs : j < L.size := by rw [hH.size]; have := hk.le; omega
      have hm : false ∉ L.toList.take n := List.count_eq_zero.1 hn
      rcases hb : L[j] with _ | _
      · refine absurd ?_ hm
        rw [List.mem_take_iff_getElem]
        exact ⟨j, by simp; omega, by simpa using hb⟩
      · simp [Array.getD, hjs, hb]
    rw [Nat.zero_add, inv.done hk hall]
    exact hfin f w inv.cw (fun j F hj => inv.facts j F (hall j (by have := (List.getElem?_eq_some_iff.1 hj).1; omega)) hj) L hH hall
  | succ fuel ih =>
    intro L a w f hIL hn hH inv
    have hls : L.size = ops.size := hH.size
    obtain ⟨i0, hi0, hun0⟩ : ∃ i, i < n ∧ L.getD i true = false := by
      have hm : false ∈ L.toList.take n := List.count_pos_iff.1 (by omega)
      rw [List.mem_take_iff_getElem] at hm
      obtain ⟨i, hi, e⟩ := hm
      have hi' : i < L.size := by simp at hi; omega
      refine ⟨i, by simp at hi; omega, ?_⟩
      simp [Array.getD, hi']
      simpa using e
    have hnt := hno L hIL hH i0 hi0 hun0
    have some_rdy : ∀ (i : Nat), i < n → L.getD i true = false → ∃ j, j ∈ Region.ready md ops L := by
      intro i
      induction i using Nat.strongRecOn with
      | _ i ih2 =>
        intro hi hun
        by_cases hr : i ∈ Region.ready md ops L
        · exact ⟨i, hr⟩
        · have his : i < ops.size := by have := hk.le; omega
          have hoi : ops[i]? = some ops[i] := Array.getElem?_eq_getElem his
          rw [mem_ready] at hr
          have : ¬ ∀ e ∈ ops[i].after, Region.binds md e = true → L.getD e.on false = true := fun hall => hr ⟨hun, ops[i], hoi, hall⟩
          simp only [Classical.not_forall] at this
          obtain ⟨e, he, hb, hne⟩ := this
          have hlt := hk.back i _ hi hoi e he hb
          have hes : e.on < L.size := by omega
          refine ih2 e.on hlt (by omega) ?_
          simp [Array.getD, hes] at hne ⊢
          exact hne
    rw [show fuel + 1 + (ops.size - n) = (fuel + (ops.size - n)) + 1 by omega]
    refine ⟨fun h0 => ?_, fun i hi => ?_⟩
    · obtain ⟨j, hj⟩ := some_rdy i0 hi0 hun0
      rw [h0] at hj; cases hj
    · have hin : i < n := by
        rcases Nat.lt_or_ge i n with h | h
        · exact h
        · exact absurd hi (hnt i h)
      obtain ⟨hun, o, ho, hall⟩ := mem_ready.1 hi
      have his : i < L.size := by rw [hls]; exact (Array.getElem?_eq_some_iff.1 ho).1
      have hcn : ((L.setIfInBounds i true).toList.take n).count false = fuel := by
        rw [Array.toList_setIfInBounds, List.take_set]
        have hi8 : i < (L.toList.take n).length := by simp; omega
        rw [List.count_set hi8]
        have hli : (L.toList.take n)[i] = false := by simpa [Array.getD, his] using hun
        rw [hli, hn]
        simp
      have hH' := hH.set hi hin
      obtain ⟨F, hF⟩ : ∃ F, Fs[i]? = some F := ⟨Fs[i], List.getElem?_eq_getElem (by omega)⟩
      have hsame := same_slots hk hH inv hin hi ho
      have hdeps : deps md o (Fs.take i) f w := by
        intro e he hb
        have hlt := hk.back i o hin ho e he hb
        unfold factOf
        rw [List.getElem?_take, if_pos hlt]
        cases hG : Fs[e.on]? with
        | none => trivial
        | some G => exact inv.facts e.on G (hall e he hb) hG
      have hop := hob i o F hin ho hF f w inv.cw hdeps
      have goon : ∀ v w', R w w' → F v w' → wpAny P md ops Q (fuel + (ops.size - n)) (L.setIfInBounds i true) (a.put o.dst v) w' := fun v w' hr hv =>
        ih _ _ _ _ (hI _ _ hIL) hcn hH' (inv.next hk hst hC hin hun ho hr (fun F' hF' => by rw [hF] at hF'; cases hF'; exact hv))
      unfold wpOp
      simp only [ho]
      unfold relOp at hop
      rw [← wanted_same hsame, ← exec_same (hk.sel i o · · ho) hsame] at hop
      split
      · rename_i hw
        rw [if_pos hw] at hop
        refine Or.inl ?_
        unfold Oper.wp
        generalize (execOp a.eval o).run P w = r at hop ⊢
        cases r with
        | ok nx w' =>
          cases nx <;> simp only [relUpon] at hop <;> simp only [Oper.upon]
          case value u => exact goon u w' hop.1 hop.2
          case skip => exact goon undef w' hop.1 hop.2
          case enter g args =>
            refine hop.2.mono fun e w'' ⟨v, he, hr, hv⟩ => ?_
            subst he
            exact goon v w'' (hR _ _ _ hop.1 hr) hv
        | halt x w' => simp only [relUpon] at hop
      · rename_i hw
        rw [if_neg hw] at hop
        exact goon undef w (hRr w) hop


def lateB (md : Region.Mode) (ops : Array Oper) (n : Nat) : Bool :=
  (List.range n).all fun i => decide (i = 0) || (List.range (n + 1)).any fun j => decide (i < j) && Region.waitsFor md ops j i
theorem late_waits {n : Nat} {listed : Array Bool} (hs : lateB md ops n = true) (hc : Region.chainB md ops n = true) (hn : n < ops.size) (inv : HeadInv md ops n listed) :
    ∀ (d i : Nat), n - i = d → i < n → i ≠ 0 → listed.getD i true = false → ∀ t, n ≤ t → t ∉ Region.ready md ops listed := by
  intro d
  induction d using Nat.strongRecOn with
  | _ d ih =>
    intro i hd hi hi0 hun t ht hr
    obtain ⟨_, ot, hot, hall⟩ := mem_ready.1 hr
    have htlt : t < ops.size := (Array.getElem?_eq_some_iff.1 hot).1
    by_cases htn : t = n
    · subst htn
      have h1 := List.all_eq_true.1 hs i (List.mem_range.2 hi)
      simp only [Bool.or_eq_true, decide_eq_true_eq] at h1
      rcases h1 with h1 | h1
      · exact hi0 h1
      obtain ⟨j, hj, hj2⟩ := List.any_eq_true.1 h1
      simp only [Bool.and_eq_true, decide_eq_true_eq] at hj2
      obtain ⟨oj, hoj, e, he, hb, hon⟩ := Region.waitsFor_spec hj2.2
      have hjle : j ≤ t := by have := List.mem_range.1 hj; omega
      by_cases hjt : j = t
      · subst hjt
        have : oj = ot := Option.some.inj (hoj.symm.trans hot)
        subst this
        have h2 := hall e he hb
        rw [hon, getD_both hun] at h2
        cases h2
      · cases hl : listed.getD j false with
        | true =>
          have h2 := inv.closed j oj hoj hl e he hb
          rw [hon, getD_both hun] at h2
          cases h2
        | false =>
          have hjs : j < listed.size := by rw [inv.size]; omega
          exact ih (t - j) (by omega) j rfl (by omega) (by omega) (getD_in hjs hl) t (Nat.le_refl _) hr
    · have h1 := List.all_eq_true.1 hc t (List.mem_range.2 htlt)
      simp only [Bool.or_eq_true, decide_eq_true_eq] at h1
      rcases h1 with h1 | h1
      · omega
      · obtain ⟨o', ho', e, he, hb, hon⟩ := Region.waitsFor_spec h1
        have : o' = ot := Option.some.inj (ho'.symm.trans hot)
        subst this
        have h2 := hall e he hb
        rw [hon, getD_both (inv.tail (t - 1) (by omega) (by omega))] at h2
        cases h2
theorem wp_region_relF {id : Nat} {Q : Exit → Act → World → Prop} {a : Act} {w : World} {l : List Oper} (n : Nat) {o0 : Oper} {x : Operand} (ho0 : l[0]? = some o0) (hop : o0.op = .move x) (hg : o0.guard = none) (hm : P.follows .mixedOrders = true)
    (hB : (relB .any l.toArray n && (lateB .any l.toArray n && Region.chainB .any l.toArray n && decide (n < l.length) && decide (0 < n) && Region.free .any l.toArray (Array.replicate l.length false) 0 && (Region.ready .any l.toArray (Array.replicate l.length false)).contains 0 && Region.seqB .any l.toArray (l.drop n).length n (wide (Array.replicate n true) (l.drop n).length))) = true)
    (hQ : ∀ c a' w', Q (.panic c) (a'.put o0.dst (a.eval x)) w' → Q (.panic c) a' w') (hC0 : C w.drew) (hC : ∀ w w', C w → R w w' → C w') (hRr : ∀ a, R a a) (hR : ∀ a b c, R a b → R b c → R a c)
    (h : wpRel P .any l.toArray R C (fun Fs A => ∀ f w', C w' → allF f w' Fs 0 → wpList P l.toArray Q (l.drop n) (A f) w') (l.take n) [] (fun _ => a)) : (Code.region id l.toArray true).wp P Q a w := by
  simp only [Bool.and_eq_true, decide_eq_true_eq] at hB
  obtain ⟨h1, ⟨⟨⟨⟨⟨h2, h3⟩, h4⟩, h5⟩, h6⟩, h7⟩, h8⟩ := hB
  have hk := relB_ok h1
  have hn : n ≤ l.length := by simpa using hk.le
  obtain ⟨Gs, hl, hi, hq⟩ := wpRel_out _ _ _ h
  simp only [List.nil_append] at hi hq
  have hgl : Gs.length = n := by rw [hl, List.length_take]; omega
  refine wp_region_any hm ?_
  obtain ⟨s1, s2, s3⟩ := rel_start (md := .any) (ops := l.toArray) (C := C) (n := n) (Fs := Gs) (a := a) (w := w.drew) (f := fun _ => undef) hk.le hC0
  have hd : (l.drop n).length = l.toArray.size - n := by simp
  have hrun : ∀ (b : Act) (W : World), (execOp b.eval o0).run P W = .ok (.value (b.eval x)) W := by
    intro b W
    unfold execOp
    rw [hop]
    rfl
  have hwant : ∀ g, Region.wanted o0 g = true := by
    intro g
    unfold Region.wanted
    rw [hg]
  have ho0' : l.toArray[0]? = some o0 := by simpa using ho0
  have hst : ∀ (j : Nat) (F : Fact), Gs[j]? = some F → Stable R F := by
    intro j F hj
    have hjl : j < Gs.length := (List.getElem?_eq_some_iff.1 hj).1
    obtain ⟨F', h1, h2, _⟩ := hi j (l.take n)[j] (List.getElem?_eq_getElem (by rw [← hl]; exact hjl))
    rw [h1] at hj; cases hj; exact h2
  have hob : ∀ (i : Nat) (o : Oper) (F : Fact), i < n → l.toArray[i]? = some o → Gs[i]? = some F → ∀ f w, C w → deps .any o (Gs.take i) f w → relOp P l.toArray R o (putF f (l.take i) 0 a) w F := by
    intro i o F hin ho hF f w' hc hdp
    obtain ⟨F', h1, _, h3⟩ := hi i o (by rw [List.getElem?_take, if_pos hin]; simpa using ho)
    rw [h1] at hF; cases hF
    have := h3 f w' hc hdp
    rw [List.take_take, Nat.min_eq_left (Nat.le_of_lt hin)] at this
    exact this
  have hr0 : 0 ∈ Region.ready .any l.toArray (Array.replicate l.toArray.size false) := by simpa using h7
  have hsz : l.toArray.size = (l.toArray.size - 1) + 1 := by simp; omega
  rw [hsz]
  rw [show (Array.replicate (l.toArray.size - 1 + 1) false) = Array.replicate l.toArray.size false by rw [← hsz]]
  refine wpAny_take (i := 0) (oi := o0) (v := a.eval x) ho0' (by rw [relB] at h1; simp only [Bool.and_eq_true] at h1; exact h1.1.1) (by simpa using h6) (by simpa using h7) hQ (Or.inl ⟨hwant _, fun W => hrun a W⟩) ?_
  have hF0 : ∀ F : Fact, Gs[0]? = some F → F (a.eval x) w.drew := by
    intro F hF
    have := hob 0 o0 F (by omega) ho0' hF (fun _ => undef) w.drew hC0 (fun e he hb => absurd (hk.back 0 o0 (by omega) ho0' e he hb) (by omega))
    unfold relOp at this
    rw [hwant, if_pos rfl] at this
    rw [show putF (fun _ => undef) (l.take 0) 0 a = a from rfl, hrun a] at this
    exact this.2
  have hun0 : (Array.replicate l.toArray.size false).getD 0 true = false := (mem_ready.1 hr0).1
  have inv1 := s2.next (R := R) hk hst hC (i := 0) (by omega) hun0 ho0' (hRr _) (v := a.eval x) hF0
  have hH1 := s1.set hr0 (by omega)
  have H := rel_any2 (P := P) (R := R) (C := C) (Fs := Gs) (a0 := a) (Q := Q) hk hgl hst hC hRr hR hob
    (fun L => L.getD 0 false = true) (fun L i hL => getD_set_true hL)
    (fun L hL hH i hin hun t ht => late_waits h2 h3 (by simpa using h4) hH _ i rfl hin (fun e => by subst e; rw [getD_both hun] at hL; cases hL) hun t ht)
    (fun f w' hc hf L hL hall => by
      rw [list_true hL hk.le hall, ← hd]
      refine wpAny_of_seq (l.drop n) n _ _ w' (fun j => by rw [List.getElem?_toArray, List.getElem?_drop]) h8 ?_
      exact hq f w' hc (allF_of Gs 0 (fun j F hj => by rw [Nat.zero_add]; exact hf j F hj)))
    (n - 1) _ _ w.drew _ (by simp [Array.getD]; omega) (by
      rw [Array.toList_setIfInBounds, List.take_set]
      rw [List.count_set (by simp; omega)]
      rw [s3]
      simp) hH1 inv1
  rw [show n - 1 + (l.toArray.size - n) = l.toArray.size - 1 by simp; omega] at H
  exact H
end
end Go.Proofs.Ytbclmnlggngepaa
