/- Merged texts: Rel4, Rel5, MvApp, Scan, Scan2, Scan3, Scan4, Scan5, Scan6, Scan7, Scan8. -/
import Derived.Test.YtecelmhiffcaeaaGA
import Derived.Test.YtecelmhiffcaeaaGF
import Derived.Test.YtecelmhiffcaeaaGE
import Derived.Test.YtecelmhiffcaeaaGC
import Derived.Test.YtecelmhiffcaeaaGD
set_option linter.unusedSimpArgs false
set_option linter.unusedVariables false
/- A region that draws its order, of whose first operations one moves memory (a call, or an append): the class of worlds ahead of it is another one than behind it, and so may be the facts. -/
namespace Go.Proofs.Ytecelmhiffcaeaa
open Go.RowKit
set_option linter.unusedVariables false
set_option maxRecDepth 20000

/-- A fact, ahead of the move (false) and behind it (true). -/
abbrev Fact4 := Bool → Value → World → Prop
structure Stable4 (R1 : World → World → Prop) (F : Fact4) : Prop where
  st : ∀ b, Stable R1 (F b)
  mv : ∀ v w w', F false v w → F true v w'
def at4 (Fs : List Fact4) (b : Bool) : List Fact := Fs.map (fun F => F b)
theorem at4_get (Fs : List Fact4) (b : Bool) (j : Nat) : (at4 Fs b)[j]? = (Fs[j]?).map (fun F => F b) := by unfold at4; rw [List.getElem?_map]
theorem at4_app (Fs Gs : List Fact4) (b : Bool) : at4 (Fs ++ Gs) b = at4 Fs b ++ at4 Gs b := by unfold at4; rw [List.map_append]
theorem at4_take (Fs : List Fact4) (b : Bool) (i : Nat) : at4 (Fs.take i) b = (at4 Fs b).take i := by unfold at4; rw [List.map_take]
/-- What is asked of the operation that moves. -/
def mvOp4 (P : Program) (C : Bool → World → Prop) (o : Oper) (a : Act) (w : World) (F : Fact) : Prop :=
  match (execOp a.eval o).run P w with
  | .ok (.value v) w' => C true w' ∧ F v w'
  | .ok (.enter g args) w' => Calls P g args w' (fun e w'' => ∃ v, e = .returned v ∧ C true w'' ∧ F v w'')
  | _ => False
section
variable {P : Program} {md : Region.Mode} {ops : Array Oper} {R1 : World → World → Prop} {C : Bool → World → Prop} {m : Nat}

/-- The operations in the text's order. -/
def wpRel4 (P : Program) (md : Region.Mode) (ops : Array Oper) (R1 : World → World → Prop) (C : Bool → World → Prop) (m : Nat) (Q : List Fact4 → (Vals → Act) → Prop) : List Oper → List Fact4 → (Vals → Act) → Prop
  | [], Fs, A => Q Fs A
  | o :: l, Fs, A => (Fs.length = m → o.guard = none ∧ ∃ F : Fact4, Stable4 R1 F ∧ (∀ f w, C false w → deps md o (at4 Fs false) f w → mvOp4 P C o (A f) w (F true)) ∧ wpRel4 P md ops R1 C m Q l (Fs ++ [F]) (fun f => (A f).put o.dst (f Fs.length))) ∧
      (Fs.length ≠ m → ∃ F : Fact4, Stable4 R1 F ∧ (∀ f b w, C b w → deps md o (at4 Fs b) f w → relOp P ops R1 o (A f) w (F b)) ∧ wpRel4 P md ops R1 C m Q l (Fs ++ [F]) (fun f => (A f).put o.dst (f Fs.length)))
theorem wpRel4_nil {Q : List Fact4 → (Vals → Act) → Prop} {Fs : List Fact4} {A : Vals → Act} (h : Q Fs A) : wpRel4 P md ops R1 C m Q [] Fs A := h
theorem wpRel4_out {Q : List Fact4 → (Vals → Act) → Prop} : ∀ (l : List Oper) (Fs : List Fact4) (A : Vals → Act), wpRel4 P md ops R1 C m Q l Fs A →
    ∃ Gs : List Fact4, Gs.length = l.length ∧ (∀ i o, l[i]? = some o → ∃ F, Gs[i]? = some F ∧ Stable4 R1 F ∧
        (Fs.length + i = m → o.guard = none ∧ ∀ f w, C false w → deps md o (at4 (Fs ++ Gs.take i) false) f w → mvOp4 P C o (putF f (l.take i) Fs.length (A f)) w (F true)) ∧
        (Fs.length + i ≠ m → ∀ f b w, C b w → deps md o (at4 (Fs ++ Gs.take i) b) f w → relOp P ops R1 o (putF f (l.take i) Fs.length (A f)) w (F b))) ∧
      Q (Fs ++ Gs) (fun f => putF f l Fs.length (A f))
  | [], Fs, A, h => ⟨[], rfl, fun i o ho => by simp at ho, by rw [List.append_nil]; exact h⟩
  | o :: l, Fs, A, h => by
    obtain ⟨h1, h2⟩ := h
    have key : ∃ F : Fact4, Stable4 R1 F ∧ (Fs.length = m → o.guard = none ∧ ∀ f w, C false w → deps md o (at4 Fs false) f w → mvOp4 P C o (A f) w (F true)) ∧ (Fs.length ≠ m → ∀ f b w, C b w → deps md o (at4 Fs b) f w → relOp P ops R1 o (A f) w (F b)) ∧ wpRel4 P md ops R1 C m Q l (Fs ++ [F]) (fun f => (A f).put o.dst (f Fs.length)) := by
      by_cases hm : Fs.length = m
      · obtain ⟨hg, F, k1, k2, k3⟩ := h1 hm
        exact ⟨F, k1, fun _ => ⟨hg, k2⟩, fun hn => absurd hm hn, k3⟩
      · obtain ⟨F, k1, k2, k3⟩ := h2 hm
        exact ⟨F, k1, fun hn => absurd hn hm, fun _ => k2, k3⟩
    obtain ⟨F, hs, hm1, hm2, hr⟩ := key
    obtain ⟨Gs, hl, hi, hq⟩ := wpRel4_out l _ _ hr
    refine ⟨F :: Gs, by simp [hl], fun i o' ho => ?_, ?_⟩
    · cases i with
      | zero =>
        have e : o' = o := by simpa using ho.symm
        subst e
        refine ⟨F, rfl, hs, fun e => ?_, fun e => ?_⟩
        · obtain ⟨hg, hob⟩ := hm1 (by simpa using e)
          exact ⟨hg, fun f w hc hd => by simpa [putF] using hob f w hc (by simpa using hd)⟩
        · exact fun f b w hc hd => by simpa [putF] using hm2 (by simpa using e) f b w hc (by simpa using hd)
      | succ i =>
        obtain ⟨F', h1, h2, h3, h4⟩ := hi i o' (by simpa using ho)
        refine ⟨F', by simpa using h1, h2, fun e => ?_, fun e => ?_⟩
        · obtain ⟨hg, hob⟩ := h3 (by simp; omega)
          refine ⟨hg, fun f w hc hd => ?_⟩
          have := hob f w hc (by simpa using hd)
          simpa [putF] using this
        · intro f b w hc hd
          have := h4 (by simp; omega) f b w hc (by simpa using hd)
          simpa [putF] using this
    · simpa [putF] using hq
theorem wpRel4_step {Q : List Fact4 → (Vals → Act) → Prop} {o : Oper} {l : List Oper} {Fs : List Fact4} {A : Vals → Act} (hm : Fs.length ≠ m)
    (h : ∀ K : List Fact4 → (Vals → Act) → Prop, (∀ Gs B, wpRel4 P md ops R1 C m Q l Gs B → K Gs B) → ∃ F : Fact4, Stable4 R1 F ∧ (∀ f b w, C b w → deps md o (at4 Fs b) f w → relOp P ops R1 o (A f) w (F b)) ∧ K (Fs ++ [F]) (fun f => (A f).put o.dst (f Fs.length))) :
    wpRel4 P md ops R1 C m Q (o :: l) Fs A := ⟨fun e => absurd e hm, fun _ => h _ (fun _ _ h => h)⟩
theorem wpRel4_move {Q : List Fact4 → (Vals → Act) → Prop} {o : Oper} {l : List Oper} {Fs : List Fact4} {A : Vals → Act} (hm : Fs.length = m) (hg : o.guard = none)
    (F : Fact) (hF : Stable R1 F) (ob : ∀ f w, C false w → deps md o (at4 Fs false) f w → mvOp4 P C o (A f) w F)
    (h : ∀ K : List Fact4 → (Vals → Act) → Prop, (∀ Gs B, wpRel4 P md ops R1 C m Q l Gs B → K Gs B) → K (Fs ++ [fun b v w => b = true ∧ F v w]) (fun f => (A f).put o.dst (f Fs.length))) :
    wpRel4 P md ops R1 C m Q (o :: l) Fs A := ⟨fun _ => ⟨hg, fun b v w => b = true ∧ F v w, ⟨fun b v w w' hr h => ⟨h.1, hF v w w' hr h.2⟩, fun v w w' h => by simp at h⟩, fun f w hc hd => by
        have := ob f w hc hd
        unfold mvOp4 at this ⊢
        generalize (execOp (A f).eval o).run P w = r at this ⊢
        cases r with
        | ok nx w' =>
          cases nx <;> simp only at this ⊢
          case value u => exact ⟨this.1, trivial, this.2⟩
          case enter g args => exact this.mono fun e w'' ⟨v, h1, h2, h3⟩ => ⟨v, h1, h2, trivial, h3⟩
        | halt x w' => simp only at this, h _ (fun _ _ h => h)⟩, fun e => absurd hm e⟩
theorem rel4_eq {K : List Fact4 → (Vals → Act) → Prop} {o : Oper} {Fs : List Fact4} {A : Vals → Act} (c : Value) (ob : ∀ f b w, C b w → deps md o (at4 Fs b) f w → relOp P ops R1 o (A f) w (fun v _ => v = c)) (k : K (Fs ++ [fun _ v _ => v = c]) (fun f => (A f).put o.dst (f Fs.length))) :
    ∃ F : Fact4, Stable4 R1 F ∧ (∀ f b w, C b w → deps md o (at4 Fs b) f w → relOp P ops R1 o (A f) w (F b)) ∧ K (Fs ++ [F]) (fun f => (A f).put o.dst (f Fs.length)) := ⟨_, ⟨fun _ _ _ _ _ h => h, fun _ _ _ h => h⟩, ob, k⟩
/-- A value that is told by a fact ahead of the move, and not asked for behind it. -/
theorem rel4_fact {K : List Fact4 → (Vals → Act) → Prop} {o : Oper} {Fs : List Fact4} {A : Vals → Act} (F : Fact) (hF : Stable R1 F) (ob : ∀ f b w, C b w → deps md o (at4 Fs b) f w → relOp P ops R1 o (A f) w (fun v w => b = false → F v w)) (k : K (Fs ++ [fun b v w => b = false → F v w]) (fun f => (A f).put o.dst (f Fs.length))) :
    ∃ F : Fact4, Stable4 R1 F ∧ (∀ f b w, C b w → deps md o (at4 Fs b) f w → relOp P ops R1 o (A f) w (F b)) ∧ K (Fs ++ [F]) (fun f => (A f).put o.dst (f Fs.length)) := ⟨fun b v w => b = false → F v w, ⟨fun b v w w' hr h e => hF v w w' hr (h e), fun v w w' h e => by simp at e⟩, ob, k⟩

theorem rel_any4 {n : Nat} {Fs : List Fact4} {a0 : Act} {Q : Exit → Act → World → Prop} (hk : RelOk md ops n) (hmn : m < n) (hFl : Fs.length = n) (hst : ∀ (j : Nat) (F : Fact4), Fs[j]? = some F → Stable4 R1 F) (hC : ∀ b w w', C b w → R1 w w' → C b w') (hRr : ∀ a, R1 a a) (hR : ∀ a b c, R1 a b → R1 b c → R1 a c)
    (hob : ∀ (i : Nat) (o : Oper) (F : Fact4), i < n → i ≠ m → ops[i]? = some o → Fs[i]? = some F → ∀ f b w, C b w → deps md o (at4 (Fs.take i) b) f w → relOp P ops R1 o (putF f (ops.toList.take i) 0 a0) w (F b))
    (hom : ∀ (o : Oper) (F : Fact4), ops[m]? = some o → Fs[m]? = some F → o.guard = none ∧ ∀ f w, C false w → deps md o (at4 (Fs.take m) false) f w → mvOp4 P C o (putF f (ops.toList.take m) 0 a0) w (F true))
    (hno : ∀ L, HeadInv md ops n L → ∀ i, i < n → L.getD i true = false → ∀ t, n ≤ t → t ∉ Region.ready md ops L)
    (hfin : ∀ f w, C true w → (∀ (j : Nat) (F : Fact4), Fs[j]? = some F → F true (f j) w) → ∀ L, HeadInv md ops n L → (∀ j, j < n → L.getD j false = true) → wpAny P md ops Q (ops.size - n) L (putF f (ops.toList.take n) 0 a0) w) :
    ∀ (fuel : Nat) (L : Array Bool) (a : Act) (w : World) (f : Vals), (L.toList.take n).count false = fuel → HeadInv md ops n L → RInv ops n (at4 Fs (L.getD m false)) (C (L.getD m false)) a0 L a w f → wpAny P md ops Q (fuel + (ops.size - n)) L a w := by
  intro fuel
  induction fuel with
  | zero =>
    intro L a w f hn hH inv
    have hall : ∀ j, j < n → L.getD j false = true := by
      intro j hj
      have hjs : j < L.size := by rw [hH.size]; have := hk.le; omega
      have hm : false ∉ L.toList.take n := List.count_eq_zero.1 hn
      rcases hb : L[j] with _ | _
      · refine absurd ?_ hm
        rw [List.mem_take_iff_getElem]
        exact ⟨j, by simp; omega, by simpa using hb⟩
      · simp [Array.getD, hjs, hb]
    rw [Nat.zero_add, inv.done hk hall]
    have hcw := inv.cw
    have hfc := inv.facts
    rw [hall m hmn] at hcw hfc
    exact hfin f w hcw (fun j F hj => hfc j (F true) (hall j (by have := (List.getElem?_eq_some_iff.1 hj).1; omega)) (by rw [at4_get, hj]; rfl)) L hH hall
  | succ fuel ih =>
    intro L a w f hn hH inv
    have hls : L.size = ops.size := hH.size
    obtain ⟨i0, hi0, hun0⟩ : ∃ i, i < n ∧ L.getD i true = false := by
      have hm : false ∈ L.toList.take n := List.count_pos_iff.1 (by omega)
      rw [List.mem_take_iff_getElem] at hm
      obtain ⟨i, hi, e⟩ := hm
      have hi' : i < L.size := by simp at hi; omega
      refine ⟨i, by simp at hi; omega, ?_⟩
      simp [Array.getD, hi']
      simpa using e
    have hnt := hno L hH i0 hi0 hun0
    have some_rdy : ∀ (i : Nat), i < n → L.getD i true = false → ∃ j, j ∈ Region.ready md ops L := by
      intro i
      induction i using Nat.strongRecOn with
      | _ i ih2 =>
        intro hi hun
        by_cases hr : i ∈ Region.ready md ops L
        · exact ⟨i, hr⟩
        · have his : i < ops.size := by have := hk.le; omega
          have hoi : ops[i]? = some ops[i] := Array.getElem?_eq_getElem his
          rw [mem_ready] at hr
          have : ¬ ∀ e ∈ ops[i].after, Region.binds md e = true → L.getD e.on false = true := fun hall => hr ⟨hun, ops[i], hoi, hall⟩
          simp only [Classical.not_forall] at this
          obtain ⟨e, he, hb, hne⟩ := this
          have hlt := hk.back i _ hi hoi e he hb
          have hes : e.on < L.size := by omega
          refine ih2 e.on hlt (by omega) ?_
          simp [Array.getD, hes] at hne ⊢
          exact hne
    rw [show fuel + 1 + (ops.size - n) = (fuel + (ops.size - n)) + 1 by omega]
    refine ⟨fun h0 => ?_, fun i hi => ?_⟩
    · obtain ⟨j, hj⟩ := some_rdy i0 hi0 hun0
      rw [h0] at hj; cases hj
    · have hin : i < n := by
        rcases Nat.lt_or_ge i n with h | h
        · exact h
        · exact absurd hi (hnt i h)
      obtain ⟨hun, o, ho, hall⟩ := mem_ready.1 hi
      have his : i < L.size := by rw [hls]; exact (Array.getElem?_eq_some_iff.1 ho).1
      have hcn : ((L.setIfInBounds i true).toList.take n).count false = fuel := by
        rw [Array.toList_setIfInBounds, List.take_set]
        have hi8 : i < (L.toList.take n).length := by simp; omega
        rw [List.count_set hi8]
        have hli : (L.toList.take n)[i] = false := by simpa [Array.getD, his] using hun
        rw [hli, hn]
        simp
      have hH' := hH.set hi hin
      obtain ⟨F, hF⟩ : ∃ F, Fs[i]? = some F := ⟨Fs[i], List.getElem?_eq_getElem (by omega)⟩
      have hsame := same_slots hk hH inv hin hi ho
      have hdeps : deps md o (at4 (Fs.take i) (L.getD m false)) f w := by
        intro e he hb
        have hlt := hk.back i o hin ho e he hb
        unfold factOf
        rw [at4_get, List.getElem?_take, if_pos hlt]
        cases hG : Fs[e.on]? with
        | none => trivial
        | some G => exact inv.facts e.on (G _) (hall e he hb) (by rw [at4_get, hG]; rfl)
      by_cases him : i = m
      · subst him
        obtain ⟨hg, hop⟩ := hom o F ho hF
        have hcw := inv.cw
        have hfc := inv.facts
        have hli : L.getD i false = false := by simpa [Array.getD, his] using hun
        rw [hli] at hcw hdeps hfc
        have hop := hop f w hcw hdeps
        have hst' : (L.setIfInBounds i true).getD i false = true := by simp [Array.getD, his]
        have goon : ∀ v w', C true w' → F true v w' → wpAny P md ops Q (fuel + (ops.size - n)) (L.setIfInBounds i true) (a.put o.dst v) w' := fun v w' hc hv => by
          have inv0 : RInv ops n (at4 Fs true) (fun _ => True) a0 L a w' f := ⟨trivial, fun j G hl hj => by
            rw [at4_get] at hj
            obtain ⟨G0, hG0, rfl⟩ := Option.map_eq_some_iff.1 hj
            exact (hst j G0 hG0).mv _ w w' (hfc j (G0 false) hl (by rw [at4_get, hG0]; rfl)), inv.defs, inv.size, inv.here, inv.off⟩
          have nx := inv0.next (R := fun a b => a = b) hk (fun j G hj v w w' e h => e ▸ h) (fun _ _ _ _ => trivial) hin hun ho rfl (w' := w') (v := v) (fun F' hF' => by rw [at4_get, hF] at hF'; cases hF'; exact hv)
          refine ih _ _ _ (fun j => if j = i then v else f j) hcn hH' ?_
          rw [hst']
          exact ⟨hc, nx.facts, nx.defs, nx.size, nx.here, nx.off⟩
        unfold wpOp
        simp only [ho]
        unfold mvOp4 at hop
        rw [← exec_same (hk.sel i o · · ho) hsame] at hop
        have hw : Region.wanted o (yielded ops a.tmps) = true := by unfold Region.wanted; rw [hg]
        rw [if_pos hw]
        refine Or.inl ?_
        unfold Oper.wp
        generalize (execOp a.eval o).run P w = r at hop ⊢
        cases r with
        | ok nx w' =>
          cases nx <;> simp only at hop <;> simp only [Oper.upon]
          case value u => exact goon u w' hop.1 hop.2
          case enter g args =>
            refine hop.mono fun e w'' ⟨v, he, hc, hv⟩ => ?_
            subst he
            exact goon v w'' hc hv
        | halt x w' => simp only at hop
      · have hop := hob i o F hin him ho hF f _ w inv.cw hdeps
        have hst' : (L.setIfInBounds i true).getD m false = L.getD m false := getD_set_ne false him
        have goon2 : ∀ v w', R1 w w' → F (L.getD m false) v w' → wpAny P md ops Q (fuel + (ops.size - n)) (L.setIfInBounds i true) (a.put o.dst v) w' := fun v w' hr hv => by
          have nx := inv.next (R := R1) hk (fun j G hj => by
            rw [at4_get] at hj
            obtain ⟨G0, hG0, rfl⟩ := Option.map_eq_some_iff.1 hj
            exact (hst j G0 hG0).st _) (hC _) hin hun ho hr (v := v) (fun F' hF' => by rw [at4_get, hF] at hF'; cases hF'; exact hv)
          refine ih _ _ _ (fun j => if j = i then v else f j) hcn hH' ?_
          rw [hst']
          exact nx
        unfold wpOp
        simp only [ho]
        unfold relOp at hop
        rw [← wanted_same hsame, ← exec_same (hk.sel i o · · ho) hsame] at hop
        split
        · rename_i hw
          rw [if_pos hw] at hop
          refine Or.inl ?_
          unfold Oper.wp
          generalize (execOp a.eval o).run P w = r at hop ⊢
          cases r with
          | ok nx w' =>
            cases nx <;> simp only [relUpon] at hop <;> simp only [Oper.upon]
            case value u => exact goon2 u w' hop.1 hop.2
            case skip => exact goon2 undef w' hop.1 hop.2
            case enter g args =>
              refine hop.2.mono fun e w'' ⟨v, he, hr, hv⟩ => ?_
              subst he
              exact goon2 v w'' (hR _ _ _ hop.1 hr) hv
          | halt x w' => simp only [relUpon] at hop
        · rename_i hw
          rw [if_neg hw] at hop
          exact goon2 undef w (hRr w) hop
/-- The first n operations, the m-th of which moves memory; the rest, one behind the other, is walked. -/
theorem wp_region_rel4 {id : Nat} {Q : Exit → Act → World → Prop} {a : Act} {w : World} {l : List Oper} (n m : Nat) (hm : P.follows .mixedOrders = true)
    (hB : (decide (m < n) && relB .any l.toArray n && (Region.sinkB .any l.toArray n && Region.chainB .any l.toArray n && decide (n < l.length) && Region.seqB .any l.toArray (l.drop n).length n (wide (Array.replicate n true) (l.drop n).length))) = true) (hC0 : C false w.drew) (hC : ∀ b w w', C b w → R1 w w' → C b w') (hRr : ∀ a, R1 a a) (hR : ∀ a b c, R1 a b → R1 b c → R1 a c)
    (h : wpRel4 P .any l.toArray R1 C m (fun Fs A => ∀ f w', C true w' → allF f w' (at4 Fs true) 0 → wpList P l.toArray Q (l.drop n) (A f) w') (l.take n) [] (fun _ => a)) : (Code.region id l.toArray true).wp P Q a w := by
  simp only [Bool.and_eq_true, decide_eq_true_eq] at hB
  obtain ⟨⟨h0, h1⟩, ⟨⟨h2, h3⟩, h4⟩, h5⟩ := hB
  have hk := relB_ok h1
  obtain ⟨Gs, hl, hi, hq⟩ := wpRel4_out _ _ _ h
  simp only [List.nil_append, List.length_nil, Nat.zero_add] at hi hq
  have hgl : Gs.length = n := by rw [hl, List.length_take]; have := hk.le; simp at this; omega
  refine wp_region_any hm ?_
  obtain ⟨s1, s2, s3⟩ := rel_start (md := .any) (ops := l.toArray) (C := C false) (n := n) (Fs := at4 Gs false) (a := a) (w := w.drew) (f := fun _ => undef) hk.le hC0
  have hd : (l.drop n).length = l.toArray.size - n := by simp
  have hz : (Array.replicate l.toArray.size false).getD m false = false := getD_replicate_false _ _
  have H := rel_any4 (P := P) (R1 := R1) (C := C) (m := m) (Fs := Gs) (a0 := a) (Q := Q) hk h0 hgl
    (fun j F hj => by
      have hjl : j < Gs.length := (List.getElem?_eq_some_iff.1 hj).1
      obtain ⟨F', h1, h2, _⟩ := hi j (l.take n)[j] (List.getElem?_eq_getElem (by rw [← hl]; exact hjl))
      rw [h1] at hj; cases hj; exact h2) hC hRr hR
    (fun i o F hin him ho hF f b w' hc hdp => by
      obtain ⟨F', h1, _, _, h3⟩ := hi i o (by rw [List.getElem?_take, if_pos hin]; simpa using ho)
      rw [h1] at hF; cases hF
      have := h3 him f b w' hc hdp
      rw [List.take_take, Nat.min_eq_left (Nat.le_of_lt hin)] at this
      exact this)
    (fun o F ho hF => by
      obtain ⟨F', h1, _, h3, _⟩ := hi m o (by rw [List.getElem?_take, if_pos h0]; simpa using ho)
      rw [h1] at hF; cases hF
      obtain ⟨hg, h3⟩ := h3 rfl
      refine ⟨hg, fun f w' hc hdp => ?_⟩
      have := h3 f w' hc hdp
      rw [List.take_take, Nat.min_eq_left (Nat.le_of_lt h0)] at this
      exact this)
    (fun L hL i hi hun t ht => tail_waits h2 h3 (by simpa using h4) hL _ i rfl hi hun t ht)
    (fun f w' hc hf L hL hall => by
      rw [list_true hL hk.le hall, ← hd]
      refine wpAny_of_seq (l.drop n) n _ _ w' (fun j => by rw [List.getElem?_toArray, List.getElem?_drop]) h5 ?_
      exact hq f w' hc (allF_of (at4 Gs true) 0 (fun j F hj => by
        rw [Nat.zero_add]
        rw [at4_get] at hj
        obtain ⟨G0, hG0, rfl⟩ := Option.map_eq_some_iff.1 hj
        exact hf j G0 hG0)))
    n _ a w.drew (fun _ => undef) s3 s1 (by rw [hz]; exact s2)
  rw [show n + (l.toArray.size - n) = l.toArray.size by simp; omega] at H
  exact H
end
end Go.Proofs.Ytecelmhiffcaeaa
/- As XRel4, with two operations that move memory, the second behind the first (an append, then a store that another operand may follow): classes of worlds and facts go by the stage 0, 1, 2. -/
namespace Go.Proofs.Ytecelmhiffcaeaa
open Go.RowKit
set_option linter.unusedVariables false
set_option maxRecDepth 20000

/-- A fact, by the stage. -/
abbrev Fact5 := Nat → Value → World → Prop
structure Stable5 (R1 : World → World → Prop) (F : Fact5) : Prop where
  st : ∀ b, Stable R1 (F b)
  mv : ∀ k v w w', F k v w → F (k + 1) v w'
def at5 (Fs : List Fact5) (b : Nat) : List Fact := Fs.map (fun F => F b)
theorem at5_get (Fs : List Fact5) (b : Nat) (j : Nat) : (at5 Fs b)[j]? = (Fs[j]?).map (fun F => F b) := by unfold at5; rw [List.getElem?_map]
theorem at5_app (Fs Gs : List Fact5) (b : Nat) : at5 (Fs ++ Gs) b = at5 Fs b ++ at5 Gs b := by unfold at5; rw [List.map_append]
theorem at5_take (Fs : List Fact5) (b : Nat) (i : Nat) : at5 (Fs.take i) b = (at5 Fs b).take i := by unfold at5; rw [List.map_take]
/-- What is asked of an operation that moves: C the class behind it. -/
def mvOp5 (P : Program) (C : World → Prop) (o : Oper) (a : Act) (w : World) (F : Fact) : Prop :=
  match (execOp a.eval o).run P w with
  | .ok (.value v) w' => C w' ∧ F v w'
  | .ok .skip w' => C w' ∧ F undef w'
  | .ok (.enter g args) w' => Calls P g args w' (fun e w'' => ∃ v, e = .returned v ∧ C w'' ∧ F v w'')
  | _ => False
/-- The stage: how many of both are done. -/
def stg (m1 m2 : Nat) (L : Array Bool) : Nat := if L.getD m2 false = true then 2 else if L.getD m1 false = true then 1 else 0
def orderB (md : Region.Mode) (ops : Array Oper) (m1 m2 : Nat) : Bool := decide (m1 < m2) && Region.waitsFor md ops m2 m1
/-- At which stages an operation may come up: one that a move waits for comes ahead of it. -/
def bnd (md : Region.Mode) (ops : Array Oper) (m1 m2 i : Nat) : Nat := if Region.waitsFor md ops m1 i = true then 0 else if Region.waitsFor md ops m2 i = true then 1 else 2
section
variable {P : Program} {md : Region.Mode} {ops : Array Oper} {R1 : World → World → Prop} {C : Nat → World → Prop} {m1 m2 : Nat}

/-- The operations in the text's order. -/
def wpRel5 (P : Program) (md : Region.Mode) (ops : Array Oper) (R1 : World → World → Prop) (C : Nat → World → Prop) (m1 m2 : Nat) (Q : List Fact5 → (Vals → Act) → Prop) : List Oper → List Fact5 → (Vals → Act) → Prop
  | [], Fs, A => Q Fs A
  | o :: l, Fs, A => ∃ F : Fact5, Stable5 R1 F ∧ wpRel5 P md ops R1 C m1 m2 Q l (Fs ++ [F]) (fun f => (A f).put o.dst (f Fs.length)) ∧
      (Fs.length = m1 → o.guard = none ∧ ∀ f w, C 0 w → deps md o (at5 Fs 0) f w → mvOp5 P (C 1) o (A f) w (F 1)) ∧
      (Fs.length = m2 → o.guard = none ∧ ∀ f w, C 1 w → deps md o (at5 Fs 1) f w → mvOp5 P (C 2) o (A f) w (F 2)) ∧
      (Fs.length ≠ m1 → Fs.length ≠ m2 → ∀ f k w, k ≤ bnd md ops m1 m2 Fs.length → C k w → deps md o (at5 Fs k) f w → relOp P ops R1 o (A f) w (F k))
theorem wpRel5_nil {Q : List Fact5 → (Vals → Act) → Prop} {Fs : List Fact5} {A : Vals → Act} (h : Q Fs A) : wpRel5 P md ops R1 C m1 m2 Q [] Fs A := h
theorem wpRel5_out {Q : List Fact5 → (Vals → Act) → Prop} : ∀ (l : List Oper) (Fs : List Fact5) (A : Vals → Act), wpRel5 P md ops R1 C m1 m2 Q l Fs A →
    ∃ Gs : List Fact5, Gs.length = l.length ∧ (∀ i o, l[i]? = some o → ∃ F, Gs[i]? = some F ∧ Stable5 R1 F ∧
        (Fs.length + i = m1 → o.guard = none ∧ ∀ f w, C 0 w → deps md o (at5 (Fs ++ Gs.take i) 0) f w → mvOp5 P (C 1) o (putF f (l.take i) Fs.length (A f)) w (F 1)) ∧
        (Fs.length + i = m2 → o.guard = none ∧ ∀ f w, C 1 w → deps md o (at5 (Fs ++ Gs.take i) 1) f w → mvOp5 P (C 2) o (putF f (l.take i) Fs.length (A f)) w (F 2)) ∧
        (Fs.length + i ≠ m1 → Fs.length + i ≠ m2 → ∀ f k w, k ≤ bnd md ops m1 m2 (Fs.length + i) → C k w → deps md o (at5 (Fs ++ Gs.take i) k) f w → relOp P ops R1 o (putF f (l.take i) Fs.length (A f)) w (F k))) ∧
      Q (Fs ++ Gs) (fun f => putF f l Fs.length (A f))
  | [], Fs, A, h => ⟨[], rfl, fun i o ho => by simp at ho, by rw [List.append_nil]; exact h⟩
  | o :: l, Fs, A, h => by
    obtain ⟨F, hs, hr, hm1, hm2, hm3⟩ := h
    obtain ⟨Gs, hl, hi, hq⟩ := wpRel5_out l _ _ hr
    refine ⟨F :: Gs, by simp [hl], fun i o' ho => ?_, ?_⟩
    · cases i with
      | zero =>
        have e : o' = o := by simpa using ho.symm
        subst e
        refine ⟨F, rfl, hs, fun e => ?_, fun e => ?_, fun e e2 => ?_⟩
        · obtain ⟨hg, hob⟩ := hm1 (by simpa using e)
          exact ⟨hg, fun f w hc hd => by simpa [putF] using hob f w hc (by simpa using hd)⟩
        · obtain ⟨hg, hob⟩ := hm2 (by simpa using e)
          exact ⟨hg, fun f w hc hd => by simpa [putF] using hob f w hc (by simpa using hd)⟩
        · exact fun f b w hbn hc hd => by simpa [putF] using hm3 (by simpa using e) (by simpa using e2) f b w (by simpa using hbn) hc (by simpa using hd)
      | succ i =>
        obtain ⟨F', h1, h2, h3, h4, h5⟩ := hi i o' (by simpa using ho)
        refine ⟨F', by simpa using h1, h2, fun e => ?_, fun e => ?_, fun e e2 => ?_⟩
        · obtain ⟨hg, hob⟩ := h3 (by simp; omega)
          refine ⟨hg, fun f w hc hd => ?_⟩
          have := hob f w hc (by simpa using hd)
          simpa [putF] using this
        · obtain ⟨hg, hob⟩ := h4 (by simp; omega)
          refine ⟨hg, fun f w hc hd => ?_⟩
          have := hob f w hc (by simpa using hd)
          simpa [putF] using this
        · intro f b w hbn hc hd
          have := h5 (by simp; omega) (by simp; omega) f b w (by rw [List.length_append, List.length_singleton, Nat.add_assoc, Nat.add_comm 1 i]; exact hbn) hc (by simpa using hd)
          simpa [putF] using this
    · simpa [putF] using hq
theorem wpRel5_step {Q : List Fact5 → (Vals → Act) → Prop} {o : Oper} {l : List Oper} {Fs : List Fact5} {A : Vals → Act} (K0 : Nat) (hK0 : decide (bnd md ops m1 m2 Fs.length ≤ K0) = true) (hm1 : Fs.length ≠ m1) (hm2 : Fs.length ≠ m2)
    (h : ∀ K : List Fact5 → (Vals → Act) → Prop, (∀ Gs B, wpRel5 P md ops R1 C m1 m2 Q l Gs B → K Gs B) → ∃ F : Fact5, Stable5 R1 F ∧ (∀ f b w, b ≤ K0 → C b w → deps md o (at5 Fs b) f w → relOp P ops R1 o (A f) w (F b)) ∧ K (Fs ++ [F]) (fun f => (A f).put o.dst (f Fs.length))) :
    wpRel5 P md ops R1 C m1 m2 Q (o :: l) Fs A := by
  obtain ⟨F, h1, h2, h3⟩ := h _ (fun _ _ h => h)
  exact ⟨F, h1, h3, fun e => absurd e hm1, fun e => absurd e hm2, fun _ _ f k w hb => h2 f k w (Nat.le_trans hb (of_decide_eq_true hK0))⟩
/-- The first move: its value is told by a fact that holds up to the second one. -/
theorem wpRel5_move1 {Q : List Fact5 → (Vals → Act) → Prop} {o : Oper} {l : List Oper} {Fs : List Fact5} {A : Vals → Act} (hm : Fs.length = m1) (hne : m1 ≠ m2) (hg : o.guard = none)
    (F : Fact) (hF : Stable R1 F) (ob : ∀ f w, C 0 w → deps md o (at5 Fs 0) f w → mvOp5 P (C 1) o (A f) w F)
    (h : ∀ K : List Fact5 → (Vals → Act) → Prop, (∀ Gs B, wpRel5 P md ops R1 C m1 m2 Q l Gs B → K Gs B) → K (Fs ++ [fun k v w => k ≠ 0 ∧ (k = 1 → F v w)]) (fun f => (A f).put o.dst (f Fs.length))) :
    wpRel5 P md ops R1 C m1 m2 Q (o :: l) Fs A := by
  refine ⟨fun k v w => k ≠ 0 ∧ (k = 1 → F v w), ⟨fun b v w w' hr h => ⟨h.1, fun e => hF v w w' hr (h.2 e)⟩, fun k v w w' h => ⟨by omega, fun e => absurd (show k = 0 by omega) h.1⟩⟩, h _ (fun _ _ h => h), fun _ => ⟨hg, fun f w hc hd => ?_⟩, fun e => absurd (hm.symm.trans e) hne, fun e _ => absurd hm e⟩
  have := ob f w hc hd
  unfold mvOp5 at this ⊢
  generalize (execOp (A f).eval o).run P w = r at this ⊢
  cases r with
  | ok nx w' =>
    cases nx <;> simp only at this ⊢
    case value u => exact ⟨this.1, by simp, fun _ => this.2⟩
    case skip => exact ⟨this.1, by simp, fun _ => this.2⟩
    case enter g args => exact this.mono fun e w'' ⟨v, h1, h2, h3⟩ => ⟨v, h1, h2, by simp, fun _ => h3⟩
  | halt x w' => simp only at this
/-- The second move: nothing is asked of its value. -/
theorem wpRel5_move2 {Q : List Fact5 → (Vals → Act) → Prop} {o : Oper} {l : List Oper} {Fs : List Fact5} {A : Vals → Act} (hm : Fs.length = m2) (hne : m1 ≠ m2) (hg : o.guard = none)
    (ob : ∀ f w, C 1 w → deps md o (at5 Fs 1) f w → mvOp5 P (C 2) o (A f) w (fun _ _ => True))
    (h : ∀ K : List Fact5 → (Vals → Act) → Prop, (∀ Gs B, wpRel5 P md ops R1 C m1 m2 Q l Gs B → K Gs B) → K (Fs ++ [fun _ _ _ => True]) (fun f => (A f).put o.dst (f Fs.length))) :
    wpRel5 P md ops R1 C m1 m2 Q (o :: l) Fs A := by
  refine ⟨fun _ _ _ => True, ⟨fun _ _ _ _ _ _ => trivial, fun _ _ _ _ _ => trivial⟩, h _ (fun _ _ h => h), fun e => absurd (e.symm.trans hm) hne, fun _ => ⟨hg, ob⟩, fun _ e => absurd hm e⟩
theorem rel5_eq {K0 : Nat} {K : List Fact5 → (Vals → Act) → Prop} {o : Oper} {Fs : List Fact5} {A : Vals → Act} (c : Value) (ob : ∀ f b w, b ≤ K0 → C b w → deps md o (at5 Fs b) f w → relOp P ops R1 o (A f) w (fun v _ => v = c)) (k : K (Fs ++ [fun _ v _ => v = c]) (fun f => (A f).put o.dst (f Fs.length))) :
    ∃ F : Fact5, Stable5 R1 F ∧ (∀ f b w, b ≤ K0 → C b w → deps md o (at5 Fs b) f w → relOp P ops R1 o (A f) w (F b)) ∧ K (Fs ++ [F]) (fun f => (A f).put o.dst (f Fs.length)) := ⟨_, ⟨fun _ _ _ _ _ h => h, fun _ _ _ _ h => h⟩, ob, k⟩
/-- A value that is told by a fact ahead of the move, and not asked for behind it. -/
theorem rel5_fact {K0 : Nat} {K : List Fact5 → (Vals → Act) → Prop} {o : Oper} {Fs : List Fact5} {A : Vals → Act} (F : Fact) (hF : Stable R1 F) (ob : ∀ f b w, b ≤ K0 → C b w → deps md o (at5 Fs b) f w → relOp P ops R1 o (A f) w (fun v w => b = 0 → F v w)) (k : K (Fs ++ [fun b v w => b = 0 → F v w]) (fun f => (A f).put o.dst (f Fs.length))) :
    ∃ F : Fact5, Stable5 R1 F ∧ (∀ f b w, b ≤ K0 → C b w → deps md o (at5 Fs b) f w → relOp P ops R1 o (A f) w (F b)) ∧ K (Fs ++ [F]) (fun f => (A f).put o.dst (f Fs.length)) := ⟨fun b v w => b = 0 → F v w, ⟨fun b v w w' hr h e => hF v w w' hr (h e), fun k v w w' h e => by simp at e⟩, ob, k⟩

theorem rel_any5 {n : Nat} {Fs : List Fact5} {a0 : Act} {Q : Exit → Act → World → Prop} (hk : RelOk md ops n) (hmn : m2 < n) (h12 : orderB md ops m1 m2 = true) (hFl : Fs.length = n) (hst : ∀ (j : Nat) (F : Fact5), Fs[j]? = some F → Stable5 R1 F) (hC : ∀ b w w', C b w → R1 w w' → C b w') (hRr : ∀ a, R1 a a) (hR : ∀ a b c, R1 a b → R1 b c → R1 a c)
    (hob : ∀ (i : Nat) (o : Oper) (F : Fact5), i < n → i ≠ m1 → i ≠ m2 → ops[i]? = some o → Fs[i]? = some F → ∀ f b w, b ≤ bnd md ops m1 m2 i → C b w → deps md o (at5 (Fs.take i) b) f w → relOp P ops R1 o (putF f (ops.toList.take i) 0 a0) w (F b))
    (hom1 : ∀ (o : Oper) (F : Fact5), ops[m1]? = some o → Fs[m1]? = some F → o.guard = none ∧ ∀ f w, C 0 w → deps md o (at5 (Fs.take m1) 0) f w → mvOp5 P (C 1) o (putF f (ops.toList.take m1) 0 a0) w (F 1))
    (hom2 : ∀ (o : Oper) (F : Fact5), ops[m2]? = some o → Fs[m2]? = some F → o.guard = none ∧ ∀ f w, C 1 w → deps md o (at5 (Fs.take m2) 1) f w → mvOp5 P (C 2) o (putF f (ops.toList.take m2) 0 a0) w (F 2))
    (hno : ∀ L, HeadInv md ops n L → ∀ i, i < n → L.getD i true = false → ∀ t, n ≤ t → t ∉ Region.ready md ops L)
    (hfin : ∀ f w, C 2 w → (∀ (j : Nat) (F : Fact5), Fs[j]? = some F → F 2 (f j) w) → ∀ L, HeadInv md ops n L → (∀ j, j < n → L.getD j false = true) → wpAny P md ops Q (ops.size - n) L (putF f (ops.toList.take n) 0 a0) w) :
    ∀ (fuel : Nat) (L : Array Bool) (a : Act) (w : World) (f : Vals), (L.toList.take n).count false = fuel → HeadInv md ops n L → RInv ops n (at5 Fs (stg m1 m2 L)) (C (stg m1 m2 L)) a0 L a w f → wpAny P md ops Q (fuel + (ops.size - n)) L a w := by
  unfold orderB at h12
  simp only [Bool.and_eq_true, decide_eq_true_eq] at h12
  obtain ⟨hlt12, h12⟩ := h12
  intro fuel
  induction fuel with
  | zero =>
    intro L a w f hn hH inv
    have hall : ∀ j, j < n → L.getD j false = true := by
      intro j hj
      have hjs : j < L.size := by rw [hH.size]; have := hk.le; omega
      have hm : false ∉ L.toList.take n := List.count_eq_zero.1 hn
      rcases hb : L[j] with _ | _
      · refine absurd ?_ hm
        rw [List.mem_take_iff_getElem]
        exact ⟨j, by simp; omega, by simpa using hb⟩
      · simp [Array.getD, hjs, hb]
    rw [Nat.zero_add, inv.done hk hall]
    have hcw := inv.cw
    have hfc := inv.facts
    rw [show stg m1 m2 L = 2 by unfold stg; rw [hall m2 hmn, if_pos rfl]] at hcw hfc
    exact hfin f w hcw (fun j F hj => hfc j (F 2) (hall j (by have := (List.getElem?_eq_some_iff.1 hj).1; omega)) (by rw [at5_get, hj]; rfl)) L hH hall
  | succ fuel ih =>
    intro L a w f hn hH inv
    have hls : L.size = ops.size := hH.size
    obtain ⟨i0, hi0, hun0⟩ : ∃ i, i < n ∧ L.getD i true = false := by
      have hm : false ∈ L.toList.take n := List.count_pos_iff.1 (by omega)
      rw [List.mem_take_iff_getElem] at hm
      obtain ⟨i, hi, e⟩ := hm
      have hi' : i < L.size := by simp at hi; omega
      refine ⟨i, by simp at hi; omega, ?_⟩
      simp [Array.getD, hi']
      simpa using e
    have hnt := hno L hH i0 hi0 hun0
    have some_rdy : ∀ (i : Nat), i < n → L.getD i true = false → ∃ j, j ∈ Region.ready md ops L := by
      intro i
      induction i using Nat.strongRecOn with
      | _ i ih2 =>
        intro hi hun
        by_cases hr : i ∈ Region.ready md ops L
        · exact ⟨i, hr⟩
        · have his : i < ops.size := by have := hk.le; omega
          have hoi : ops[i]? = some ops[i] := Array.getElem?_eq_getElem his
          rw [mem_ready] at hr
          have : ¬ ∀ e ∈ ops[i].after, Region.binds md e = true → L.getD e.on false = true := fun hall => hr ⟨hun, ops[i], hoi, hall⟩
          simp only [Classical.not_forall] at this
          obtain ⟨e, he, hb, hne⟩ := this
          have hlt := hk.back i _ hi hoi e he hb
          have hes : e.on < L.size := by omega
          refine ih2 e.on hlt (by omega) ?_
          simp [Array.getD, hes] at hne ⊢
          exact hne
    rw [show fuel + 1 + (ops.size - n) = (fuel + (ops.size - n)) + 1 by omega]
    refine ⟨fun h0 => ?_, fun i hi => ?_⟩
    · obtain ⟨j, hj⟩ := some_rdy i0 hi0 hun0
      rw [h0] at hj; cases hj
    · have hin : i < n := by
        rcases Nat.lt_or_ge i n with h | h
        · exact h
        · exact absurd hi (hnt i h)
      obtain ⟨hun, o, ho, hall⟩ := mem_ready.1 hi
      have his : i < L.size := by rw [hls]; exact (Array.getElem?_eq_some_iff.1 ho).1
      have hcn : ((L.setIfInBounds i true).toList.take n).count false = fuel := by
        rw [Array.toList_setIfInBounds, List.take_set]
        have hi8 : i < (L.toList.take n).length := by simp; omega
        rw [List.count_set hi8]
        have hli : (L.toList.take n)[i] = false := by simpa [Array.getD, his] using hun
        rw [hli, hn]
        simp
      have hH' := hH.set hi hin
      obtain ⟨F, hF⟩ : ∃ F, Fs[i]? = some F := ⟨Fs[i], List.getElem?_eq_getElem (by omega)⟩
      have hsame := same_slots hk hH inv hin hi ho
      have hdeps : deps md o (at5 (Fs.take i) (stg m1 m2 L)) f w := by
        intro e he hb
        have hlt := hk.back i o hin ho e he hb
        unfold factOf
        rw [at5_get, List.getElem?_take, if_pos hlt]
        cases hG : Fs[e.on]? with
        | none => trivial
        | some G => exact inv.facts e.on (G _) (hall e he hb) (by rw [at5_get, hG]; rfl)
      have goonM : ∀ (S : Nat), stg m1 m2 L = S → stg m1 m2 (L.setIfInBounds i true) = S + 1 → ∀ v w', C (S + 1) w' → F (S + 1) v w' → wpAny P md ops Q (fuel + (ops.size - n)) (L.setIfInBounds i true) (a.put o.dst v) w' := fun S hS hS' v w' hc hv => by
        have hfc := inv.facts
        rw [hS] at hfc
        have inv0 : RInv ops n (at5 Fs (S + 1)) (fun _ => True) a0 L a w' f := ⟨trivial, fun j G hl hj => by
          rw [at5_get] at hj
          obtain ⟨G0, hG0, rfl⟩ := Option.map_eq_some_iff.1 hj
          exact (hst j G0 hG0).mv _ _ w w' (hfc j (G0 S) hl (by rw [at5_get, hG0]; rfl)), inv.defs, inv.size, inv.here, inv.off⟩
        have nx := inv0.next (R := fun a b => a = b) hk (fun j G hj v w w' e h => e ▸ h) (fun _ _ _ _ => trivial) hin hun ho rfl (w' := w') (v := v) (fun F' hF' => by rw [at5_get, hF] at hF'; cases hF'; exact hv)
        refine ih _ _ _ (fun j => if j = i then v else f j) hcn hH' ?_
        rw [hS']
        exact ⟨hc, nx.facts, nx.defs, nx.size, nx.here, nx.off⟩
      have hset : ∀ x, x ≠ i → (L.setIfInBounds i true).getD x false = L.getD x false := fun x hx => getD_set_ne false (Ne.symm hx)
      have hsi : (L.setIfInBounds i true).getD i false = true := by simp [Array.getD, his]
      have hli : L.getD i false = false := by simpa [Array.getD, his] using hun
      obtain ⟨o2, ho2, e2, he2, hb2, hon2⟩ := Region.waitsFor_spec h12
      by_cases him : i = m1
      · subst him
        have hl2 : L.getD m2 false = false := by
          rcases hb : L.getD m2 false with _ | _
          · rfl
          · have := hH.closed m2 o2 ho2 hb e2 he2 hb2
            rw [hon2, hli] at this
            cases this
        have hS : stg i m2 L = 0 := by unfold stg; rw [hl2, hli]; rfl
        have hS' : stg i m2 (L.setIfInBounds i true) = 0 + 1 := by unfold stg; rw [hset m2 (by omega), hl2, hsi]; rfl
        obtain ⟨hg, hop⟩ := hom1 o F ho hF
        have hcw := inv.cw
        rw [hS] at hcw hdeps
        have hop := hop f w hcw hdeps
        have goon := goonM 0 hS hS'
        unfold wpOp
        simp only [ho]
        unfold mvOp5 at hop
        rw [← exec_same (hk.sel i o · · ho) hsame] at hop
        have hw : Region.wanted o (yielded ops a.tmps) = true := by unfold Region.wanted; rw [hg]
        rw [if_pos hw]
        refine Or.inl ?_
        unfold Oper.wp
        generalize (execOp a.eval o).run P w = r at hop ⊢
        cases r with
        | ok nx w' =>
          cases nx <;> simp only at hop <;> simp only [Oper.upon]
          case value u => exact goon u w' hop.1 hop.2
          case skip => exact goon undef w' hop.1 hop.2
          case enter g args =>
            refine hop.mono fun e w'' ⟨v, he, hc, hv⟩ => ?_
            subst he
            exact goon v w'' hc hv
        | halt x w' => simp only at hop
      · by_cases him2 : i = m2
        · subst him2
          have : o2 = o := Option.some.inj (ho2.symm.trans ho)
          subst this
          have hl1 : L.getD m1 false = true := by rw [← hon2]; exact hall e2 he2 hb2
          have hS : stg m1 i L = 1 := by unfold stg; rw [hli, hl1]; rfl
          have hS' : stg m1 i (L.setIfInBounds i true) = 1 + 1 := by unfold stg; rw [hsi]; rfl
          obtain ⟨hg, hop⟩ := hom2 o2 F ho hF
          have hcw := inv.cw
          rw [hS] at hcw hdeps
          have hop := hop f w hcw hdeps
          have goon := goonM 1 hS hS'
          unfold wpOp
          simp only [ho]
          unfold mvOp5 at hop
          rw [← exec_same (hk.sel i o2 · · ho) hsame] at hop
          have hw : Region.wanted o2 (yielded ops a.tmps) = true := by unfold Region.wanted; rw [hg]
          rw [if_pos hw]
          refine Or.inl ?_
          unfold Oper.wp
          generalize (execOp a.eval o2).run P w = r at hop ⊢
          cases r with
          | ok nx w' =>
            cases nx <;> simp only at hop <;> simp only [Oper.upon]
            case value u => exact goon u w' hop.1 hop.2
            case skip => exact goon undef w' hop.1 hop.2
            case enter g args =>
              refine hop.mono fun e w'' ⟨v, he, hc, hv⟩ => ?_
              subst he
              exact goon v w'' hc hv
          | halt x w' => simp only at hop
        · have notm : ∀ x, Region.waitsFor md ops x i = true → L.getD x false = false := by
            intro x hx
            obtain ⟨ox, hox, e, he, hb, hon⟩ := Region.waitsFor_spec hx
            rcases hb3 : L.getD x false with _ | _
            · rfl
            · have := hH.closed x ox hox hb3 e he hb
              rw [hon, hli] at this
              cases this
          have hbn : stg m1 m2 L ≤ bnd md ops m1 m2 i := by
            unfold bnd
            split
            · rename_i hw
              have e1 := notm m1 hw
              have e2 : L.getD m2 false = false := by
                rcases hb : L.getD m2 false with _ | _
                · rfl
                · have := hH.closed m2 o2 ho2 hb e2 he2 hb2
                  rw [hon2, e1] at this
                  cases this
              unfold stg
              rw [e1, e2]
              exact Nat.le_refl _
            · split
              · rename_i hw
                unfold stg
                rw [notm m2 hw]
                simp only [Bool.false_eq_true, if_false]
                split <;> omega
              · unfold stg
                split
                · omega
                · split <;> omega
          have hop := hob i o F hin him him2 ho hF f _ w hbn inv.cw hdeps
          have hst' : stg m1 m2 (L.setIfInBounds i true) = stg m1 m2 L := by unfold stg; rw [hset m2 (Ne.symm him2), hset m1 (Ne.symm him)]
          have goon2 : ∀ v w', R1 w w' → F (stg m1 m2 L) v w' → wpAny P md ops Q (fuel + (ops.size - n)) (L.setIfInBounds i true) (a.put o.dst v) w' := fun v w' hr hv => by
            have nx := inv.next (R := R1) hk (fun j G hj => by
              rw [at5_get] at hj
              obtain ⟨G0, hG0, rfl⟩ := Option.map_eq_some_iff.1 hj
              exact (hst j G0 hG0).st _) (hC _) hin hun ho hr (v := v) (fun F' hF' => by rw [at5_get, hF] at hF'; cases hF'; exact hv)
            refine ih _ _ _ (fun j => if j = i then v else f j) hcn hH' ?_
            rw [hst']
            exact nx
          unfold wpOp
          simp only [ho]
          unfold relOp at hop
          rw [← wanted_same hsame, ← exec_same (hk.sel i o · · ho) hsame] at hop
          split
          · rename_i hw
            rw [if_pos hw] at hop
            refine Or.inl ?_
            unfold Oper.wp
            generalize (execOp a.eval o).run P w = r at hop ⊢
            cases r with
            | ok nx w' =>
              cases nx <;> simp only [relUpon] at hop <;> simp only [Oper.upon]
              case value u => exact goon2 u w' hop.1 hop.2
              case skip => exact goon2 undef w' hop.1 hop.2
              case enter g args =>
                refine hop.2.mono fun e w'' ⟨v, he, hr, hv⟩ => ?_
                subst he
                exact goon2 v w'' (hR _ _ _ hop.1 hr) hv
            | halt x w' => simp only [relUpon] at hop
          · rename_i hw
            rw [if_neg hw] at hop
            exact goon2 undef w (hRr w) hop
/-- The first n operations, two of which move memory; the rest, one behind the other, is walked. -/
theorem wp_region_rel5 {id : Nat} {Q : Exit → Act → World → Prop} {a : Act} {w : World} {l : List Oper} (n m1 m2 : Nat) (hm : P.follows .mixedOrders = true)
    (hB : (decide (m2 < n) && orderB .any l.toArray m1 m2 && relB .any l.toArray n && (Region.sinkB .any l.toArray n && Region.chainB .any l.toArray n && decide (n < l.length) && Region.seqB .any l.toArray (l.drop n).length n (wide (Array.replicate n true) (l.drop n).length))) = true) (hC0 : C 0 w.drew) (hC : ∀ b w w', C b w → R1 w w' → C b w') (hRr : ∀ a, R1 a a) (hR : ∀ a b c, R1 a b → R1 b c → R1 a c)
    (h : wpRel5 P .any l.toArray R1 C m1 m2 (fun Fs A => ∀ f w', C 2 w' → allF f w' (at5 Fs 2) 0 → wpList P l.toArray Q (l.drop n) (A f) w') (l.take n) [] (fun _ => a)) : (Code.region id l.toArray true).wp P Q a w := by
  simp only [Bool.and_eq_true, decide_eq_true_eq] at hB
  obtain ⟨⟨⟨h0, h12⟩, h1⟩, ⟨⟨h2, h3⟩, h4⟩, h5⟩ := hB
  have hk := relB_ok h1
  have hlt : m1 < m2 := by unfold orderB at h12; simp only [Bool.and_eq_true, decide_eq_true_eq] at h12; exact h12.1
  obtain ⟨Gs, hl, hi, hq⟩ := wpRel5_out _ _ _ h
  simp only [List.nil_append, List.length_nil, Nat.zero_add] at hi hq
  have hgl : Gs.length = n := by rw [hl, List.length_take]; have := hk.le; simp at this; omega
  refine wp_region_any hm ?_
  obtain ⟨s1, s2, s3⟩ := rel_start (md := .any) (ops := l.toArray) (C := C 0) (n := n) (Fs := at5 Gs 0) (a := a) (w := w.drew) (f := fun _ => undef) hk.le hC0
  have hd : (l.drop n).length = l.toArray.size - n := by simp
  have hz : stg m1 m2 (Array.replicate l.toArray.size false) = 0 := by unfold stg; rw [getD_replicate_false, getD_replicate_false]; rfl
  have H := rel_any5 (P := P) (R1 := R1) (C := C) (m1 := m1) (m2 := m2) (Fs := Gs) (a0 := a) (Q := Q) hk h0 h12 hgl
    (fun j F hj => by
      have hjl : j < Gs.length := (List.getElem?_eq_some_iff.1 hj).1
      obtain ⟨F', h1, h2, _⟩ := hi j (l.take n)[j] (List.getElem?_eq_getElem (by rw [← hl]; exact hjl))
      rw [h1] at hj; cases hj; exact h2) hC hRr hR
    (fun i o F hin him him2 ho hF f b w' hbn hc hdp => by
      obtain ⟨F', h1, _, _, _, h3⟩ := hi i o (by rw [List.getElem?_take, if_pos hin]; simpa using ho)
      rw [h1] at hF; cases hF
      have := h3 him him2 f b w' hbn hc hdp
      rw [List.take_take, Nat.min_eq_left (Nat.le_of_lt hin)] at this
      exact this)
    (fun o F ho hF => by
      obtain ⟨F', h1, _, h3, _⟩ := hi m1 o (by rw [List.getElem?_take, if_pos (by omega)]; simpa using ho)
      rw [h1] at hF; cases hF
      obtain ⟨hg, h3⟩ := h3 rfl
      refine ⟨hg, fun f w' hc hdp => ?_⟩
      have := h3 f w' hc hdp
      rw [List.take_take, Nat.min_eq_left (by omega)] at this
      exact this)
    (fun o F ho hF => by
      obtain ⟨F', h1, _, _, h3, _⟩ := hi m2 o (by rw [List.getElem?_take, if_pos h0]; simpa using ho)
      rw [h1] at hF; cases hF
      obtain ⟨hg, h3⟩ := h3 rfl
      refine ⟨hg, fun f w' hc hdp => ?_⟩
      have := h3 f w' hc hdp
      rw [List.take_take, Nat.min_eq_left (Nat.le_of_lt h0)] at this
      exact this)
    (fun L hL i hi hun t ht => tail_waits h2 h3 (by simpa using h4) hL _ i rfl hi hun t ht)
    (fun f w' hc hf L hL hall => by
      rw [list_true hL hk.le hall, ← hd]
      refine wpAny_of_seq (l.drop n) n _ _ w' (fun j => by rw [List.getElem?_toArray, List.getElem?_drop]) h5 ?_
      exact hq f w' hc (allF_of (at5 Gs 2) 0 (fun j F hj => by
        rw [Nat.zero_add]
        rw [at5_get] at hj
        obtain ⟨G0, hG0, rfl⟩ := Option.map_eq_some_iff.1 hj
        exact hf j G0 hG0)))
    n _ a w.drew (fun _ => undef) s3 s1 (by rw [hz]; exact s2)
  rw [show n + (l.toArray.size - n) = l.toArray.size by simp; omega] at H
  exact H
end
end Go.Proofs.Ytecelmhiffcaeaa
/- An append as an operation that moves memory, in a region of XRel5. -/
namespace Go.Proofs.Ytecelmhiffcaeaa
open Go.RowKit
set_option linter.unusedVariables false
set_option maxRecDepth 20000
section
variable {P : Program} {w : World} {base : Nat} {e : TypeId} {size n : Nat} {v : Value} {xs : List Value}
theorem mv5_app {C : World → Prop} {F : Fact} {o : Oper} {a : Act} (s x : Operand) (t : TypeId)
    (ho : o.op = .call { callee := .builtin .append, args := #[s, x], argTypes := #[t, t] }) (z : Value) (bytes : Nat)
    (ht : P.underlying t = some (.slice e)) (hinfo : (P.info? e).map (fun i => (i.zero, i.size, i.bytes)) = some (some z, size, bytes)) (hzs : z.cells.size = size) (hsz : 0 < size) (hb0 : 0 < bytes)
    (hs : a.eval s = v) (hown : w.ownsRow base e size v n xs) (A : Option Addr) (m c : Nat) (news : List Value) (hx : a.eval x = .slice A m c) (hl : news.length = m * size) (hsrc : Src w A news) (h1 : ∀ u ∈ news, u.oneCell' = true)
    (hbytes : (n + m) * bytes ≤ 140737488355328) (hbase : base ≤ w.heap.size)
    (h : ∀ v' w', w'.ownsRow base e size v' (n + m) (xs ++ news) → w.grownBy w' v.ownBlock → (v'.ownBlock = v.ownBlock ∨ v'.ownBlock = some w.heap.size) → C w' ∧ F v' w') :
    mvOp5 P C o a w F := by
  obtain ⟨v', w', hr, h2, h3, h5⟩ := run_app (P := P) (w := w) t o.type z bytes ht hinfo hzs hsz hb0 hown A m c news hl hsrc h1 hbytes hbase
  have H := h v' w' h2 h3 h5
  unfold mvOp5 execOp
  simp only [ho, resolve, invoke, builtin, Sem.run_bind, Sem.run_pure, Result.andThen_ok, List.map_toArray, List.map_cons, List.map_nil, hs, hx, hr]
  exact H
theorem wpList_appB {ops : Array Oper} {rest : List Oper} {o : Oper} {a : Act} {Q : Exit → Act → World → Prop} (hgd : o.guard = none) (s x : Operand) (t : TypeId)
    (ho : o.op = .call { callee := .builtin .append, args := #[s, x], argTypes := #[t, t] }) (z : Value) (bytes : Nat)
    (ht : P.underlying t = some (.slice e)) (hinfo : (P.info? e).map (fun i => (i.zero, i.size, i.bytes)) = some (some z, size, bytes)) (hzs : z.cells.size = size) (hsz : 0 < size) (hb0 : 0 < bytes)
    (hs : a.eval s = v) (hown : w.ownsRow base e size v n xs) (A : Option Addr) (m c : Nat) (news : List Value) (hx : a.eval x = .slice A m c) (hl : news.length = m * size) (hsrc : Src w A news) (h1 : ∀ u ∈ news, u.oneCell' = true)
    (hbytes : (n + m) * bytes ≤ 140737488355328) (hbase : base ≤ w.heap.size)
    (h : ∀ v' w', w'.ownsRow base e size v' (n + m) (xs ++ news) → w.grownBy w' v.ownBlock → (v'.ownBlock = v.ownBlock ∨ v'.ownBlock = some w.heap.size) → wpList P ops Q rest (a.put o.dst v') w') :
    wpList P ops Q (o :: rest) a w := by
  obtain ⟨v', w', hr, h2, h3, h5⟩ := run_app (P := P) (w := w) t o.type z bytes ht hinfo hzs hsz hb0 hown A m c news hl hsrc h1 hbytes hbase
  have H := h v' w' h2 h3 h5
  refine wpList_plain hgd fun K hK => ?_
  unfold Oper.wp execOp
  simp only [ho, resolve, invoke, builtin, Sem.run_bind, Sem.run_pure, Result.andThen_ok, List.map_toArray, List.map_cons, List.map_nil, hs, hx, hr]
  exact hK _ _ H
theorem Bk.grown {w w' : World} {g : Nat} {t : TypeId} {cs : List Value} {row : Option Nat} (h : Bk w g t cs) (hg : w.grownBy w' row) (hne : row ≠ some g) : Bk w' g t cs := (hg.block g h.lt (fun e => hne e.symm)).trans h
end
end Go.Proofs.Ytecelmhiffcaeaa
/- Package scan: read, blank. -/
namespace Go.Proofs.Ytecelmhiffcaeaa
open Go.RowKit
set_option linter.unusedVariables false
set_option maxRecDepth 20000
/-- What a page says; none: it is none. -/
noncomputable def scP (s : ByteArray) : Option Pc := if (readF s).2 = 0 then ofP (readF s).1.k (readF s).1.a (readF s).1.b (readF s).1.t else none
theorem readF_size (s : ByteArray) : (readF s).1.t.size ≤ s.size := by
  unfold readF
  split
  · exact Nat.zero_le _
  · split
    · exact Nat.zero_le _
    · split
      · exact Nat.zero_le _
      · split
        · exact Nat.zero_le _
        · split
          · show (fBody s).size ≤ s.size
            rw [ByteArray.size_extract]
            omega
          · exact Nat.zero_le _
set_option maxHeartbeats 1600000 in
theorem sread_any (s : ByteArray) (hs : s.size ≤ 9223372036854775807) (w : World) :
    Calls Try.prog 42 #[.string s] w fun e w' => e = .returned (.tuple #[pval (scP s), frv (readF s).1.k (readF s).1.a (readF s).1.b (readF s).1.t]) ∧ Kp w w' := by
  have HR := Lib.hid (fun W => readR s hs (readF s).1 (readF s).2 rfl W)
  have hsz := readF_size s
  have HO := Lib.hid (fun W => of_any (readF s).1.k (readF s).1.a (readF s).1.b (readF s).1.t (by omega) W)
  have hp : pval (scP s) = (if (readF s).2 = 0 then pval (ofP (readF s).1.k (readF s).1.a (readF s).1.b (readF s).1.t) else pval none) := by
    unfold scP
    split <;> rfl
  rw [hp]
  clear hp hsz
  generalize (readF s).1.k = k at *
  generalize (readF s).1.a = a at *
  generalize (readF s).1.b = b at *
  generalize (readF s).1.t = t at *
  generalize (readF s).2 = c at *
  generalize ofP k a b t = P at *
  by_cases hc : c = 0
  · subst hc
    rw [if_pos rfl]
    obtain ⟨d, hd⟩ : ∃ d, d = codeP P := ⟨_, rfl⟩
    have hd2 : d = 0 ∨ (d = 2 ∧ pval P = .nilIface) := by
      subst hd
      cases P with
      | some x => exact Or.inl rfl
      | none => exact Or.inr ⟨rfl, rfl⟩
    rw [← hd] at HO
    clear hd
    generalize pval P = PV at *
    rcases hd2 with rfl | ⟨rfl, rfl⟩
    · go_enter Try.func42, Try.ntmps42
      go_wp2_with fail
      refine (HR.out _).mono ?_
      rintro e w1 ⟨rfl, hk1⟩
      have hbR := ((Bk.new w 33 [.int .i64 0, .int .u32 0, .int .u32 0, .string ⟨#[]⟩]).keep hk1).alloc (fob k a b t)
      have hbN := Bk.new w1 33 [.int .i64 k, .int .u32 a, .int .u32 b, .string t]
      have hkA := ((Kp.one w (fob 0 0 0 ⟨#[]⟩)).trans hk1).alloc (fob k a b t)
      have hne : w1.heap.size ≠ w.heap.size := by have := ((Bk.new w 33 [.int .i64 0, .int .u32 0, .int .u32 0, .string ⟨#[]⟩]).keep hk1).lt; omega
      go_wp2_with fail
      refine (HO.out _).mono ?_
      rintro e wz ⟨rfl, hkz⟩
      replace hbR := hbR.keep hkz
      replace hbN := hbN.keep hkz
      have HN := Lib.hid (fun W (kk : Kp wz W) => (hbN.keep kk).c4g)
      go_wp2_with fail
      have hInh := fun (x v : Value) => (⟨fun h => h _ ((Kp.refl _).drew), fun h _ _ => h⟩ : (∀ Wz9, (fun W => Kp wz W) Wz9 → x = v) ↔ x = v)
      dsimp only at hInh
      refine wp_region_head 3 (C := fun W => Kp wz W) (by kernel_rfl) (by kernel_rfl) ((Kp.refl _).drew) ?_
      simp only [List.take_succ_cons, List.take_zero, List.drop_succ_cons, List.drop_zero]
      repeat (first | go_big_quiet_step ((intro hW; first | fail | (with_reducible rfl) | (obtain ⟨n0, n1, n2, n3⟩ := HN.out _ hW; (try go_simp); first | done | with_reducible rfl | exact ⟨rfl, rfl⟩))) | quiet_step ((intro hW; first | fail | (with_reducible rfl) | (obtain ⟨n0, n1, n2, n3⟩ := HN.out _ hW; (try go_simp); first | done | with_reducible rfl | exact ⟨rfl, rfl⟩))))
      refine wpQuiet_nil ?_
      intro wq hwq
      clear hInh
      have hR2 := hbR.keep hwq
      obtain ⟨f0, f1, f2, f3⟩ := (⟨hR2.free 0, hR2.free 1, hR2.free 2, hR2.free 3⟩ : _ ∧ _ ∧ _ ∧ _)
      obtain ⟨r0, r1, r2, r3⟩ := hR2.c4g
      go_wp2_with fail
      have hR9 := (((hR2.put 0 (.int .i64 k)).put 1 (.int .u32 a)).put 2 (.int .u32 b)).put 3 (.string t)
      have hK9 := (((((hkA.trans hkz).trans hwq).set (p := ⟨w.heap.size, 0, none⟩) (Nat.le_refl _) (.int .i64 k)).set (p := ⟨w.heap.size, 1, none⟩) (Nat.le_refl _) (.int .u32 a)).set (p := ⟨w.heap.size, 2, none⟩) (Nat.le_refl _) (.int .u32 b)).set (p := ⟨w.heap.size, 3, none⟩) (Nat.le_refl _) (.string t)
      generalize (((wq.setCell ⟨w.heap.size, 0, none⟩ (.int .i64 k)).setCell ⟨w.heap.size, 1, none⟩ (.int .u32 a)).setCell ⟨w.heap.size, 2, none⟩ (.int .u32 b)).setCell ⟨w.heap.size, 3, none⟩ (.string t) = w9 at *
      obtain ⟨x0, x1, x2, x3⟩ := (show _ ∧ _ ∧ _ ∧ _ from hR9.c4g)
      refine bodyPost_ret (v := .tuple #[PV, frv k a b t]) (by simp [results, Try.results42, go_sem, x0, x1, x2, x3]) rfl ⟨rfl, hK9⟩
    · go_enter Try.func42, Try.ntmps42
      go_wp2_with fail
      refine (HR.out _).mono ?_
      rintro e w1 ⟨rfl, hk1⟩
      have hbR := ((Bk.new w 33 [.int .i64 0, .int .u32 0, .int .u32 0, .string ⟨#[]⟩]).keep hk1).alloc (fob k a b t)
      have hbN := Bk.new w1 33 [.int .i64 k, .int .u32 a, .int .u32 b, .string t]
      have hkA := ((Kp.one w (fob 0 0 0 ⟨#[]⟩)).trans hk1).alloc (fob k a b t)
      have hne : w1.heap.size ≠ w.heap.size := by have := ((Bk.new w 33 [.int .i64 0, .int .u32 0, .int .u32 0, .string ⟨#[]⟩]).keep hk1).lt; omega
      go_wp2_with fail
      refine (HO.out _).mono ?_
      rintro e wz ⟨rfl, hkz⟩
      replace hbR := hbR.keep hkz
      replace hbN := hbN.keep hkz
      have HN := Lib.hid (fun W (kk : Kp wz W) => (hbN.keep kk).c4g)
      go_wp2_with fail
      have hInh := fun (x v : Value) => (⟨fun h => h _ ((Kp.refl _).drew), fun h _ _ => h⟩ : (∀ Wz9, (fun W => Kp wz W) Wz9 → x = v) ↔ x = v)
      dsimp only at hInh
      refine wp_region_head 2 (C := fun W => Kp wz W) (by kernel_rfl) (by kernel_rfl) ((Kp.refl _).drew) ?_
      simp only [List.take_succ_cons, List.take_zero, List.drop_succ_cons, List.drop_zero]
      repeat (first | go_big_quiet_step ((intro hW; first | fail | (with_reducible rfl) | (obtain ⟨n0, n1, n2, n3⟩ := HN.out _ hW; (try go_simp); first | done | with_reducible rfl | exact ⟨rfl, rfl⟩))) | quiet_step ((intro hW; first | fail | (with_reducible rfl) | (obtain ⟨n0, n1, n2, n3⟩ := HN.out _ hW; (try go_simp); first | done | with_reducible rfl | exact ⟨rfl, rfl⟩))))
      refine wpQuiet_nil ?_
      intro wq hwq
      clear hInh
      have hR2 := hbR.keep hwq
      obtain ⟨f0, f1, f2, f3⟩ := (⟨hR2.free 0, hR2.free 1, hR2.free 2, hR2.free 3⟩ : _ ∧ _ ∧ _ ∧ _)
      obtain ⟨r0, r1, r2, r3⟩ := hR2.c4g
      go_wp2_with fail
      have hR9 := (((hR2.put 0 (.int .i64 k)).put 1 (.int .u32 a)).put 2 (.int .u32 b)).put 3 (.string t)
      have hK9 := (((((hkA.trans hkz).trans hwq).set (p := ⟨w.heap.size, 0, none⟩) (Nat.le_refl _) (.int .i64 k)).set (p := ⟨w.heap.size, 1, none⟩) (Nat.le_refl _) (.int .u32 a)).set (p := ⟨w.heap.size, 2, none⟩) (Nat.le_refl _) (.int .u32 b)).set (p := ⟨w.heap.size, 3, none⟩) (Nat.le_refl _) (.string t)
      generalize (((wq.setCell ⟨w.heap.size, 0, none⟩ (.int .i64 k)).setCell ⟨w.heap.size, 1, none⟩ (.int .u32 a)).setCell ⟨w.heap.size, 2, none⟩ (.int .u32 b)).setCell ⟨w.heap.size, 3, none⟩ (.string t) = w9 at *
      obtain ⟨x0, x1, x2, x3⟩ := (show _ ∧ _ ∧ _ ∧ _ from hR9.c4g)
      refine bodyPost_ret (v := .tuple #[.nilIface, frv k a b t]) (by simp [results, Try.results42, go_sem, x0, x1, x2, x3]) rfl ⟨rfl, hK9⟩
  · rw [if_neg hc]
    have hb : (c == 0) = false := beq_eq_false_iff_ne.2 hc
    · go_enter Try.func42, Try.ntmps42
      go_wp2_with fail
      refine (HR.out _).mono ?_
      rintro e w1 ⟨rfl, hk1⟩
      have hbR := ((Bk.new w 33 [.int .i64 0, .int .u32 0, .int .u32 0, .string ⟨#[]⟩]).keep hk1).alloc (fob k a b t)
      have hbN := Bk.new w1 33 [.int .i64 k, .int .u32 a, .int .u32 b, .string t]
      have hkA := ((Kp.one w (fob 0 0 0 ⟨#[]⟩)).trans hk1).alloc (fob k a b t)
      have hne : w1.heap.size ≠ w.heap.size := by have := ((Bk.new w 33 [.int .i64 0, .int .u32 0, .int .u32 0, .string ⟨#[]⟩]).keep hk1).lt; omega
      have hkz : Kp (w1.alloc (fob k a b t)) (w1.alloc (fob k a b t)) := Kp.refl _
      go_wp2_with fail
      obtain ⟨wz, hwz⟩ : ∃ wz, wz = w1.alloc (fob k a b t) := ⟨_, rfl⟩
      rw [← hwz] at hbR hkA hkz
      have hbN : Bk wz w1.heap.size 33 [.int .i64 k, .int .u32 a, .int .u32 b, .string t] := by rw [hwz]; exact hbN
      generalize w1.alloc (.cells #[.int .i64 k, .int .u32 a, .int .u32 b, .string t] 33) = wy at *
      obtain rfl : wz = wy := hwz
      generalize w1.heap.size = nb9 at *
      have HN := Lib.hid (fun W (kk : Kp wz W) => (hbN.keep kk).c4g)
      have hInh := fun (x v : Value) => (⟨fun h => h _ ((Kp.refl _).drew), fun h _ _ => h⟩ : (∀ Wz9, (fun W => Kp wz W) Wz9 → x = v) ↔ x = v)
      dsimp only at hInh
      refine wp_region_head 2 (C := fun W => Kp wz W) (by kernel_rfl) (by kernel_rfl) ((Kp.refl _).drew) ?_
      simp only [List.take_succ_cons, List.take_zero, List.drop_succ_cons, List.drop_zero]
      repeat (first | go_big_quiet_step ((intro hW; first | fail | (with_reducible rfl) | (obtain ⟨n0, n1, n2, n3⟩ := HN.out _ hW; (try go_simp); first | done | with_reducible rfl | exact ⟨rfl, rfl⟩))) | quiet_step ((intro hW; first | fail | (with_reducible rfl) | (obtain ⟨n0, n1, n2, n3⟩ := HN.out _ hW; (try go_simp); first | done | with_reducible rfl | exact ⟨rfl, rfl⟩))))
      refine wpQuiet_nil ?_
      intro wq hwq
      clear hInh
      have hR2 := hbR.keep hwq
      obtain ⟨f0, f1, f2, f3⟩ := (⟨hR2.free 0, hR2.free 1, hR2.free 2, hR2.free 3⟩ : _ ∧ _ ∧ _ ∧ _)
      obtain ⟨r0, r1, r2, r3⟩ := hR2.c4g
      go_wp2_with fail
      have hR9 := (((hR2.put 0 (.int .i64 k)).put 1 (.int .u32 a)).put 2 (.int .u32 b)).put 3 (.string t)
      have hK9 := (((((hkA.trans hkz).trans hwq).set (p := ⟨w.heap.size, 0, none⟩) (Nat.le_refl _) (.int .i64 k)).set (p := ⟨w.heap.size, 1, none⟩) (Nat.le_refl _) (.int .u32 a)).set (p := ⟨w.heap.size, 2, none⟩) (Nat.le_refl _) (.int .u32 b)).set (p := ⟨w.heap.size, 3, none⟩) (Nat.le_refl _) (.string t)
      generalize (((wq.setCell ⟨w.heap.size, 0, none⟩ (.int .i64 k)).setCell ⟨w.heap.size, 1, none⟩ (.int .u32 a)).setCell ⟨w.heap.size, 2, none⟩ (.int .u32 b)).setCell ⟨w.heap.size, 3, none⟩ (.string t) = w9 at *
      obtain ⟨x0, x1, x2, x3⟩ := (show _ ∧ _ ∧ _ ∧ _ from hR9.c4g)
      refine bodyPost_ret (v := .tuple #[.nilIface, frv k a b t]) (by simp [results, Try.results42, go_sem, x0, x1, x2, x3]) rfl ⟨rfl, hK9⟩
end Go.Proofs.Ytecelmhiffcaeaa
/- Package scan: blank. -/
namespace Go.Proofs.Ytecelmhiffcaeaa
open Go.RowKit
set_option linter.unusedVariables false
set_option maxRecDepth 20000
set_option maxHeartbeats 1600000 in
theorem sblank_any (A : Option Addr) (c : Nat) (ss : List ByteArray) (W : World) (H : TextsAt W A ss) :
    Calls Try.prog 43 #[.slice A ss.length c] W fun e w' => e = .returned (.bool (ss.all blankB)) ∧ Kp W w' := by
  have hlx := H.1
  go_enter Try.func43, Try.ntmps43
  go_wp2_with fail
  go_loopw [7] (fun i wr => ∃ j : Nat, j ≤ ss.length ∧ i = .int .i64 j ∧ Kp W wr ∧ ∀ x, x < j → blankB (ss.getD x ⟨#[]⟩) = true) (fun i _ => ss.length - (intOf i).toNat)
  case atStart => exact ⟨0, by omega, rfl, Kp.refl _, by omega⟩
  case round =>
    obtain ⟨j, hj, rfl, hKr, hall⟩ := hrel
    have HALL := Lib.hid hall
    clear hall
    by_cases hlt : j < ss.length
    · have hl2 : (j : Int) < (ss.length : Int) := by omega
      obtain ⟨ad, rfl, hc⟩ := H.2.2 (by omega)
      have hcs := hKr.cell (hc j hlt)
      have hsz := H.2.1 _ (List.getElem_mem hlt)
      have hgd : ss.getD j ⟨#[]⟩ = ss[j] := by rw [List.getD_eq_getElem?_getD, List.getElem?_eq_getElem hlt]; rfl
      rw [← hgd] at hcs hsz
      have HBL := Lib.hid (fun W => blank_any (ss.getD j ⟨#[]⟩) hsz W)
      have q5 : IntKind.i64.wrap ((j : Int) + 1) = (j : Int) + 1 := IntWalk.i64_in _ (by omega)
      have HBB : Hid (blankB (ss.getD j ⟨#[]⟩) = blankB (ss.getD j ⟨#[]⟩)) := Lib.hid rfl
      have HAF : Hid (blankB (ss.getD j ⟨#[]⟩) = false → ss.all blankB = false) := Lib.hid (fun h => by
        rw [hgd] at h
        exact List.all_eq_false.2 ⟨_, List.getElem_mem hlt, by rw [h]; simp⟩)
      have HAS : Hid (blankB (ss.getD j ⟨#[]⟩) = true → ∀ x, x < j + 1 → blankB (ss.getD x ⟨#[]⟩) = true) := Lib.hid (fun h x hx => by
        by_cases e : x < j
        · exact HALL.out x e
        · obtain rfl : x = j := by omega
          exact h)
      clear hgd hc HBB
      generalize ss.getD j ⟨#[]⟩ = s at *
      generalize blankB s = bb at *
      cases bb with
      | true =>
        have HAT := Lib.hid (HAS.out rfl)
        clear HAS HAF
        go_wp2_with fail
        refine (HBL.out _).mono ?_
        rintro e w1 ⟨rfl, rfl⟩
        go_wp2_with fail
        go_roundw
        case rel => exact ⟨j + 1, by omega, by go_num, hKr, HAT.out⟩
        case measure => simp [intOf]; omega
      | false =>
        have HA := Lib.hid (HAF.out rfl)
        clear HAS HAF
        go_wp2_with fail
        refine (HBL.out _).mono ?_
        rintro e w1 ⟨rfl, rfl⟩
        go_wp2_with fail
        go_ret
        exact ⟨by rw [HA.out]; rfl, hKr⟩
    · obtain rfl : j = ss.length := by omega
      have ha : ss.all blankB = true := List.all_eq_true.2 (fun x hx => by
        obtain ⟨i, hi, rfl⟩ := List.mem_iff_getElem.1 hx
        have := HALL.out i hi
        rw [List.getD_eq_getElem?_getD, List.getElem?_eq_getElem hi] at this
        exact this)
      have HA := Lib.hid ha
      clear ha
      go_wp2_with fail
      go_ret
      exact ⟨by rw [HA.out]; rfl, hKr⟩
end Go.Proofs.Ytecelmhiffcaeaa
/- Package scan: Region's refusals. -/
namespace Go.Proofs.Ytecelmhiffcaeaa
open Go.RowKit
set_option linter.unusedVariables false
set_option maxRecDepth 20000
@[go_sem] theorem run_geo2 (a b c : Int) (w : World) : Sem.run Try.prog (Instr.field 23 (.agg #[.int .i64 a, .int .i64 b, .int .i64 c]) 2) w = .ok (.int .i64 c) w := by
  simp [Instr.field, part, asAgg, go_sem]
@[go_sem] theorem run_geo1 (a b c : Int) (w : World) : Sem.run Try.prog (Instr.field 23 (.agg #[.int .i64 a, .int .i64 b, .int .i64 c]) 1) w = .ok (.int .i64 b) w := by
  simp [Instr.field, part, asAgg, go_sem]
set_option maxHeartbeats 1600000 in
theorem sregion_nil (i : Int) (W : World) :
    Calls Try.prog 17 #[.pointer none, .int .i64 i] W fun e w' => e = .returned (.tuple #[.agg #[.int .i64 0, .int .u32 0, .slice none 0 0, .bool false], .int .i64 1]) ∧ Kp W w' := by
  go_enter Try.func17, Try.ntmps17
  go_wp2_with fail
  have hR9 := Bk.new W 44 [.int .i64 0, .int .u32 0, .slice none 0 0, .bool false]
  have hK9 : Kp W (W.alloc (.cells #[.int .i64 0, .int .u32 0, .slice none 0 0, .bool false] 44)) := Kp.one _ _
  generalize W.alloc (.cells #[.int .i64 0, .int .u32 0, .slice none 0 0, .bool false] 44) = wz at *
  obtain ⟨x0, x1, x2, x3⟩ := hR9.c4g
  refine bodyPost_ret (v := .tuple #[.agg #[.int .i64 0, .int .u32 0, .slice none 0 0, .bool false], .int .i64 1]) (by simp [results, Try.results17, go_sem, x0, x1, x2, x3]) rfl ⟨rfl, hK9⟩
section
variable {W : World} {g ib ic : Nat} {p s r : Int} {d : Dev} {v : Value}
set_option maxHeartbeats 1600000 in
theorem sregion_arg (h : FlAt W g ib ic p s r d v) (i : Int) (hi : i < 0 ∨ r ≤ i) :
    Calls Try.prog 17 #[.pointer (some ⟨g, 0, none⟩), .int .i64 i] W fun e w' => e = .returned (.tuple #[.agg #[.int .i64 0, .int .u32 0, .slice none 0 0, .bool false], .int .i64 1]) ∧ Kp W w' := by
  by_cases hi0 : i < 0
  · have d0 : decide (0 ≤ i) = false := by simp; omega
    go_enter Try.func17, Try.ntmps17
    go_wp2_with fail
    have hR9 := Bk.new W 44 [.int .i64 0, .int .u32 0, .slice none 0 0, .bool false]
    have hK9 : Kp W (W.alloc (.cells #[.int .i64 0, .int .u32 0, .slice none 0 0, .bool false] 44)) := Kp.one _ _
    generalize W.alloc (.cells #[.int .i64 0, .int .u32 0, .slice none 0 0, .bool false] 44) = wz at *
    obtain ⟨x0, x1, x2, x3⟩ := hR9.c4g
    refine bodyPost_ret (v := .tuple #[.agg #[.int .i64 0, .int .u32 0, .slice none 0 0, .bool false], .int .i64 1]) (by simp [results, Try.results17, go_sem, x0, x1, x2, x3]) rfl ⟨rfl, hK9⟩
  · have hi1 : r ≤ i := by omega
    have HG : Hid (∀ W', Kp W W' → Calls Try.prog 39 #[.pointer (some ⟨g, 0, none⟩)] W' fun e w' => e = .returned (.agg #[.int .i64 p, .int .i64 s, .int .i64 r]) ∧ Kp W' w') := Lib.hid (fun W' (k : Kp W W') => fgeom (h.keep k))
    clear hi
    go_enter Try.func17, Try.ntmps17
    go_wp2_with fail
    have hR0 := Bk.new W 44 [.int .i64 0, .int .u32 0, .slice none 0 0, .bool false]
    refine (HG.out _ (Kp.one _ _)).mono ?_
    rintro e w1 ⟨rfl, hk1⟩
    have hR1 := hR0.keep hk1
    have hK1 := (Kp.one W (.cells #[.int .i64 0, .int .u32 0, .slice none 0 0, .bool false] 44)).trans hk1
    obtain ⟨y0, y1, y2, y3⟩ := hR1.c4g
    have f0 := hR1.free 0
    have f1 := hR1.free 1
    have f2 := hR1.free 2
    have f3 := hR1.free 3
    have d1 : decide (r ≤ i) = true := by simpa using hi1
    go_wp2_with fail
    have hR9 := (((hR1.put 0 (.int .i64 0)).put 1 (.int .u32 0)).put 2 (.slice none 0 0)).put 3 (.bool false)
    have hK9 := (((hK1.set (p := ⟨W.heap.size, 0, none⟩) (Nat.le_refl _) (.int .i64 0)).set (p := ⟨W.heap.size, 1, none⟩) (Nat.le_refl _) (.int .u32 0)).set (p := ⟨W.heap.size, 2, none⟩) (Nat.le_refl _) (.slice none 0 0)).set (p := ⟨W.heap.size, 3, none⟩) (Nat.le_refl _) (.bool false)
    generalize (((w1.setCell ⟨W.heap.size, 0, none⟩ (.int .i64 0)).setCell ⟨W.heap.size, 1, none⟩ (.int .u32 0)).setCell ⟨W.heap.size, 2, none⟩ (.slice none 0 0)).setCell ⟨W.heap.size, 3, none⟩ (.bool false) = w9 at *
    obtain ⟨x0, x1, x2, x3⟩ := (show _ ∧ _ ∧ _ ∧ _ from hR9.c4g)
    refine bodyPost_ret (v := .tuple #[.agg #[.int .i64 0, .int .u32 0, .slice none 0 0, .bool false], .int .i64 1]) (by simp [results, Try.results17, go_sem, x0, x1, x2, x3]) rfl ⟨rfl, hK9⟩
end
end Go.Proofs.Ytecelmhiffcaeaa
/- Package scan: Region of a device that is down. -/
namespace Go.Proofs.Ytecelmhiffcaeaa
open Go.RowKit
set_option linter.unusedVariables false
set_option maxRecDepth 20000
section
variable {W : World} {g ib ic : Nat} {p s r : Int} {d : Dev} {v : Value}
set_option maxHeartbeats 3200000 in
theorem sregion_down (h : FlAt W g ib ic p s r d v) (ok : DevOk p s r d) (hd : d.down = true) (i : Int) (h0 : 0 ≤ i) (h1 : i < r) :
    Calls Try.prog 17 #[.pointer (some ⟨g, 0, none⟩), .int .i64 i] W fun e w' => e = .returned (.tuple #[.agg #[.int .i64 0, .int .u32 0, .slice none 0 0, .bool false], .int .i64 6]) ∧ Kp W w' := by
  have hR := ok.right
  obtain ⟨r1, r2, r3, r4, r5, r6⟩ := id hR
  have HG : Hid (∀ W', Kp W W' → Calls Try.prog 39 #[.pointer (some ⟨g, 0, none⟩)] W' fun e w' => e = .returned (.agg #[.int .i64 p, .int .i64 s, .int .i64 r]) ∧ Kp W' w') := Lib.hid (fun W' (k : Kp W W') => fgeom (h.keep k))
  have HRD : Hid (∀ W' pg, Kp W W' → Calls Try.prog 41 #[.pointer (some ⟨g, 0, none⟩), .int .i64 pg] W' fun e w' => e = .returned (.tuple #[.string ⟨#[]⟩, .int .i64 6]) ∧ Kp W' w') := Lib.hid (fun W' pg k => by
    have H := fread_any (h.keep k) ok pg
    rw [show readD p s r d pg = (⟨#[]⟩, 6) by unfold readD; rw [if_pos hd]] at H
    exact H)
  have HPG : Hid (∀ W', Calls Try.prog 40 #[.agg #[.int .i64 p, .int .i64 s, .int .i64 r], .int .i64 i, .int .i64 0] W' fun e w' => e = .returned (.tuple #[.int .i64 (i * s + 0), .bool true]) ∧ Kp W' w') := Lib.hid (fun W' => page_yes p s r i 0 hR h0 h1 (by omega) (by omega) W')
  have hR0 := Bk.new W 44 [.int .i64 0, .int .u32 0, .slice none 0 0, .bool false]
  have hK0 := Kp.one W (.cells #[.int .i64 0, .int .u32 0, .slice none 0 0, .bool false] 44)
  have d0 : decide (0 ≤ i) = true := by simpa using h0
  have d1 : decide (r ≤ i) = false := by simp; omega
  have d2 : decide ((0 : Int) < s) = true := by simp; omega
  go_enter Try.func17, Try.ntmps17
  go_wp2_with fail
  refine (HG.out _ hK0).mono ?_
  rintro e w1 ⟨rfl, hk1⟩
  have hK1 := hK0.trans hk1
  go_wp2_with fail
  refine (HG.out _ hK1).mono ?_
  rintro e w2 ⟨rfl, hk2⟩
  have hK2 := hK1.trans hk2
  have hR2 := (hR0.keep hk1).keep hk2
  clear hR0
  go_wp2_with fail
  go_loopw [6, 38] (fun v i wr => v = .slice none 0 0 ∧ i = .int .i64 0 ∧ Kp w2 wr) (fun _ _ _ => 0)
  case atStart => exact ⟨rfl, rfl, Kp.refl _⟩
  case round =>
    obtain ⟨rfl, rfl, hKr⟩ := hrel
    go_wp2_with fail
    refine (HG.out _ (hK2.trans hKr)).mono ?_
    rintro e w4 ⟨rfl, hk4⟩
    go_wp2_with fail
    refine (HPG.out _).mono ?_
    rintro e wq ⟨rfl, hk5⟩
    have hwq := hk4.trans hk5
    go_wp2_with fail
    refine (HRD.out _ _ ((hK2.trans hKr).trans hwq)).mono ?_
    rintro e w3 ⟨rfl, hk3⟩
    have hR3 := hR2.keep ((hKr.trans hwq).trans hk3)
    have hK3 := hK2.trans ((hKr.trans hwq).trans hk3)
    obtain ⟨y0, y1, y2, y3⟩ := hR3.c4g
    have f0 := hR3.free 0
    have f1 := hR3.free 1
    have f2 := hR3.free 2
    have f3 := hR3.free 3
    go_wp2_with fail
    have hR9 := (((hR3.put 0 (.int .i64 0)).put 1 (.int .u32 0)).put 2 (.slice none 0 0)).put 3 (.bool false)
    have hK9 := (((hK3.set (p := ⟨W.heap.size, 0, none⟩) (Nat.le_refl _) (.int .i64 0)).set (p := ⟨W.heap.size, 1, none⟩) (Nat.le_refl _) (.int .u32 0)).set (p := ⟨W.heap.size, 2, none⟩) (Nat.le_refl _) (.slice none 0 0)).set (p := ⟨W.heap.size, 3, none⟩) (Nat.le_refl _) (.bool false)
    generalize (((w3.setCell ⟨W.heap.size, 0, none⟩ (.int .i64 0)).setCell ⟨W.heap.size, 1, none⟩ (.int .u32 0)).setCell ⟨W.heap.size, 2, none⟩ (.slice none 0 0)).setCell ⟨W.heap.size, 3, none⟩ (.bool false) = w9 at *
    obtain ⟨x0, x1, x2, x3⟩ := (show _ ∧ _ ∧ _ ∧ _ from hR9.c4g)
    refine bodyPost_ret (v := .tuple #[.agg #[.int .i64 0, .int .u32 0, .slice none 0 0, .bool false], .int .i64 6]) (by simp [results, Try.results17, go_sem, x0, x1, x2, x3]) rfl ⟨rfl, hK9⟩
end
end Go.Proofs.Ytecelmhiffcaeaa
/- Package scan: All's refusals. -/
namespace Go.Proofs.Ytecelmhiffcaeaa
open Go.RowKit
set_option linter.unusedVariables false
set_option maxRecDepth 20000
set_option maxHeartbeats 1600000 in
theorem sall_nil (W : World) :
    Calls Try.prog 18 #[.pointer none] W fun e w' => e = .returned (.tuple #[.slice none 0 0, .int .i64 1]) ∧ Kp W w' := by
  go_enter Try.func18, Try.ntmps18
  go_wp2_with fail
  refine bodyPost_ret (v := .tuple #[.slice none 0 0, .int .i64 1]) (by simp [results, Try.results18, go_sem]) rfl ⟨rfl, Kp.refl _⟩
section
variable {W : World} {g ib ic : Nat} {p s r : Int} {d : Dev} {v : Value}
set_option maxHeartbeats 3200000 in
theorem sall_down (h : FlAt W g ib ic p s r d v) (ok : DevOk p s r d) (hd : d.down = true) :
    Calls Try.prog 18 #[.pointer (some ⟨g, 0, none⟩)] W fun e w' => e = .returned (.tuple #[.slice none 0 0, .int .i64 6]) ∧ Kp W w' := by
  have hR := ok.right
  obtain ⟨r1, r2, r3, r4, r5, r6⟩ := id hR
  have HG : Hid (∀ W', Kp W W' → Calls Try.prog 39 #[.pointer (some ⟨g, 0, none⟩)] W' fun e w' => e = .returned (.agg #[.int .i64 p, .int .i64 s, .int .i64 r]) ∧ Kp W' w') := Lib.hid (fun W' (k : Kp W W') => fgeom (h.keep k))
  have HRG := Lib.hid (fun W' (k : Kp W W') => sregion_down (h.keep k) ok hd 0 (by omega) (by omega))
  have d2 : decide ((0 : Int) < r) = true := by simp; omega
  go_enter Try.func18, Try.ntmps18
  go_wp2_with fail
  refine (HG.out _ (Kp.refl _)).mono ?_
  rintro e w1 ⟨rfl, hk1⟩
  go_wp2_with fail
  go_loopw [4, 13] (fun v i wr => v = .slice none 0 0 ∧ i = .int .i64 0 ∧ Kp W wr) (fun _ _ _ => 0)
  case atStart => exact ⟨rfl, rfl, hk1⟩
  case round =>
    obtain ⟨rfl, rfl, hKr⟩ := hrel
    go_wp2_with fail
    refine (HRG.out _ hKr).mono ?_
    rintro e w2 ⟨rfl, hk2⟩
    have hK2 := hKr.trans hk2
    go_wp2_with fail
    refine bodyPost_ret (v := .tuple #[.slice none 0 0, .int .i64 6]) (by simp [results, Try.results18, go_sem]) rfl ⟨rfl, hK2.alloc _⟩
end
end Go.Proofs.Ytecelmhiffcaeaa
/- Package scan: Region of a device that is up. -/
namespace Go.Proofs.Ytecelmhiffcaeaa
open Go.RowKit
set_option linter.unusedVariables false
set_option maxRecDepth 20000
theorem info_str : (Try.prog.info? 9).map (fun i => (i.zero, i.size, i.bytes)) = some (some (.string ⟨#[]⟩), 1, 16) := by kernel_rfl
theorem info_frm : (Try.prog.info? 33).map (fun i => (i.zero, i.size, i.bytes)) = some (some (.agg #[.int .i64 0, .int .u32 0, .int .u32 0, .string ⟨#[]⟩]), 4, 32) := by kernel_rfl
/-- Frames, as cells. -/
def fvs (l : List Fr) : List Value := l.flatMap fun x => [.int .i64 x.k, .int .u32 x.a, .int .u32 x.b, .string x.t]
theorem fvs_app (l m : List Fr) : fvs (l ++ m) = fvs l ++ fvs m := by simp [fvs]
theorem fvs_len (l : List Fr) : (fvs l).length = l.length * 4 := by
  induction l with
  | nil => rfl
  | cons x l ih => rw [show fvs (x :: l) = [.int .i64 x.k, .int .u32 x.a, .int .u32 x.b, .string x.t] ++ fvs l from rfl, List.length_append, ih]; simp; omega
/-- A page that goes on. -/
noncomputable def goodP (s : ByteArray) : Bool := match scP s with
  | none => false
  | some (.head _ _) => false
  | some _ => true
noncomputable def fdFrames : List ByteArray → List Fr
  | [] => []
  | s :: ss => if goodP s = true then (readF s).1 :: fdFrames ss else []
/-- What stands in a region. -/
structure Fd where
  rg : Int
  ep : Int
  fs : List Fr
  cl : Bool
/-- The head of a region's first page: its epoch. -/
noncomputable def epF (i : Int) (s : ByteArray) : Option Int := match scP s with
  | some (.head e r) => if r = i then some e else none
  | _ => none
noncomputable def regF (i : Int) (ss : List ByteArray) : Fd := match ss with
  | [] => ⟨i, 0, [], true⟩
  | s :: l => match epF i s with
    | none => ⟨i, 0, [], (s :: l).all blankB⟩
    | some e => ⟨i, e, fdFrames l, (l.drop (fdFrames l).length).all blankB⟩
noncomputable def pgs (d : Dev) (p s i : Int) : List ByteArray := (List.range s.toNat).map fun (x : Nat) => heldD d p (i * s + (x : Int))
theorem own_at2 {w : World} {base n : Nat} {e : TypeId} {size : Nat} {v : Value} {xs : List Value} (h : w.ownsRow base e size v n xs) (hn : 0 < n) : ∃ g c, v = .slice (some ⟨g, 0, none⟩) n c ∧ base ≤ g ∧ g < w.heap.size ∧ n ≤ c ∧ c ≤ 9223372036854775807 := by
  rcases h.2 with ⟨_, h1⟩ | ⟨g, cap, cur, rfl, hb, hh, h5, h6, _⟩
  · omega
  · exact ⟨g, cap, rfl, hb, (Array.getElem?_eq_some_iff.1 hh).1, h5, by simp only [maxLen] at h6; omega⟩
theorem own_setS {w : World} {base n : Nat} {e : TypeId} {size : Nat} {v : Value} {xs : List Value} (h : w.ownsRow base e size v n xs) {p : Addr} (hp : p.block < base) (u : Value) : (w.setCell p u).ownsRow base e size v n xs := by
  refine own_other (row := some p.block) h ⟨rfl, rfl, rfl, by simp, fun k hk hne => Below.heap_setCell w p u k (fun e => hne (by rw [e]))⟩ ?_
  rcases hv : v.ownBlock with _ | q
  · exact Or.inl rfl
  · refine Or.inr fun e => ?_
    injection e with e
    have := own_block_ge h q hv
    omega
theorem own_down {w : World} {base base' n : Nat} {e : TypeId} {size : Nat} {v : Value} {xs : List Value} (h : w.ownsRow base e size v n xs) (hb : base' ≤ base) : w.ownsRow base' e size v n xs := by
  rcases h with ⟨hl, h1 | ⟨q, cap, cur, e1, e2, e3⟩⟩
  · exact ⟨hl, Or.inl h1⟩
  · exact ⟨hl, Or.inr ⟨q, cap, cur, e1, Nat.le_trans hb e2, e3⟩⟩
theorem own_mv {S : List Nat} {w w' : World} {base n : Nat} {e : TypeId} {size : Nat} {v : Value} {xs : List Value} (h : w.ownsRow base e size v n xs) (k : Mv S w w') (hS : ∀ b ∈ S, b < base) : w'.ownsRow base e size v n xs := by
  rcases h with ⟨hl, h1 | ⟨q, cap, cur, e1, e2, e3, e4⟩⟩
  · exact ⟨hl, Or.inl h1⟩
  · refine ⟨hl, Or.inr ⟨q, cap, cur, e1, e2, ?_, e4⟩⟩
    rw [k.block q (Array.getElem?_eq_some_iff.1 e3).1 (fun hm => by have := hS q hm; omega)]
    exact e3
/-- The class of worlds of 'x.Frames, pages = append(x.Frames, a), pages[1:]'. -/
def RgC (S : List Nat) (gx : Nat) (wc : World) (Q : World → Prop) (st : Nat) (W : World) : Prop := Mv (gx :: S) wc W ∧ (st = 0 → Kp wc W) ∧ (st ≤ 1 → Mv S wc W) ∧ (st = 2 → Q W)
theorem RgC.keep {S : List Nat} {gx : Nat} {wc : World} {Q : World → Prop} (hQ : ∀ W W', Q W → Kp W W' → Q W') (st : Nat) (W W' : World) (h : RgC S gx wc Q st W) (k : Kp W W') : RgC S gx wc Q st W' :=
  ⟨h.1.trans (Mv.of k), fun e => (h.2.1 e).trans k, fun e => (h.2.2.1 e).trans (Mv.of k), fun e => hQ _ _ (h.2.2.2 e) k⟩
def OwnF (base n : Nat) (xs : List Value) : Fact := fun v W => W.ownsRow base 33 4 v n xs
theorem OwnF.st {base n : Nat} {xs : List Value} : Stable Kp (OwnF base n xs) := fun v W W' k h => own_keep h k
def BldF (t : TypeId) (cs : List Value) : Fact := fun v W => ∃ q, v = .slice (some ⟨q, 0, none⟩) 1 1 ∧ Bk W q t cs
theorem BldF.st {t : TypeId} {cs : List Value} : Stable Kp (BldF t cs) := fun v W W' k ⟨q, h1, h2⟩ => ⟨q, h1, h2.keep k⟩
/-- What stands behind the store. -/
def RgQ (gx base n : Nat) (i he : Int) (xs : List Value) (W : World) : Prop := ∃ A c, Bk W gx 44 [.int .i64 i, .int .u32 he, .slice A n c, .bool false] ∧ W.ownsRow base 33 4 (.slice A n c) n xs
theorem RgQ.keep {gx base n : Nat} {i he : Int} {xs : List Value} (W W' : World) (h : RgQ gx base n i he xs W) (k : Kp W W') : RgQ gx base n i he xs W' := by
  obtain ⟨A, c, h1, h2⟩ := h
  exact ⟨A, c, h1.keep k, own_keep h2 k⟩
noncomputable def rdf (s : ByteArray) : Fr := (readF s).1
/-- What holds at the head of the loop that reads frames. -/
def RgI (j cp gp : Nat) (i he : Int) (base : Nat) (tl : List ByteArray) (wp : World) (vp : Value) (wl2 : World) : Prop :=
  ∃ (k : Nat) (fv : Value) (A : Option Addr) (m c : Nat), m + (k + 1) = j ∧ c + (k + 1) = cp ∧ vp = .slice A m c ∧ (0 < m → A = some ⟨gp, k + 1, none⟩) ∧ Bk wl2 wp.heap.size 44 [.int .i64 i, .int .u32 he, fv, .bool false] ∧ wl2.ownsRow base 33 4 fv k (fvs ((tl.take k).map rdf)) ∧ Kp wp wl2 ∧ base ≤ wl2.heap.size ∧ ∀ z, z < k → goodP (tl.getD z ⟨#[]⟩) = true
def lenS : Value → Nat
  | .slice _ m _ => m
  | _ => 0
theorem regF_none {i : Int} {ss : List ByteArray} (h0 : 0 < ss.length) (h : epF i (ss.getD 0 ⟨#[]⟩) = none) : regF i ss = ⟨i, 0, [], ss.all blankB⟩ := by
  cases ss with
  | nil => simp at h0
  | cons a l =>
    have h : epF i a = none := h
    unfold regF
    simp [h]
theorem regF_some {i e : Int} {ss : List ByteArray} (h0 : 0 < ss.length) (h : epF i (ss.getD 0 ⟨#[]⟩) = some e) : regF i ss = ⟨i, e, fdFrames (ss.drop 1), ((ss.drop 1).drop (fdFrames (ss.drop 1)).length).all blankB⟩ := by
  cases ss with
  | nil => simp at h0
  | cons a l =>
    have h : epF i a = some e := h
    unfold regF
    simp [h]
theorem fdFrames_upto : ∀ (l : List ByteArray) (k : Nat), k ≤ l.length → (∀ z, z < k → goodP (l.getD z ⟨#[]⟩) = true) → (k < l.length → goodP (l.getD k ⟨#[]⟩) = false) → fdFrames l = (l.take k).map rdf
  | [], k, hk, _, _ => by simp [fdFrames]
  | s :: l, 0, hk, _, hs => by
    have : goodP s = false := hs (by simp)
    simp [fdFrames, this]
  | s :: l, k + 1, hk, hall, hs => by
    have h0 : goodP s = true := hall 0 (by omega)
    have := fdFrames_upto l k (by simpa using hk) (fun z hz => hall (z + 1) (by omega)) (fun h => hs (by simpa using h))
    simp [fdFrames, h0, this, rdf]
theorem scP_cases (s : ByteArray) : (scP s = none ∧ goodP s = false) ∨ (∃ e r, scP s = some (.head e r) ∧ goodP s = false) ∨ (∃ T V, pval (scP s) = .iface T V ∧ headV (scP s) = (.agg #[.int .u32 0, .int .u32 0], false) ∧ goodP s = true) := by
  unfold goodP
  rcases scP s with _ | ⟨e, r⟩ | ⟨s, a, t⟩ | ⟨s, p, v, f, u, z⟩ | ⟨s, g, f⟩
  · exact Or.inl ⟨rfl, rfl⟩
  · exact Or.inr (Or.inl ⟨e, r, rfl, rfl⟩)
  · exact Or.inr (Or.inr ⟨_, _, rfl, rfl, rfl⟩)
  · exact Or.inr (Or.inr ⟨_, _, rfl, rfl, rfl⟩)
  · exact Or.inr (Or.inr ⟨_, _, rfl, rfl, rfl⟩)
theorem epF_head (i : Int) (s : ByteArray) : ∃ he hr hb, headV (scP s) = (.agg #[.int .u32 he, .int .u32 hr], hb) ∧ epF i s = (if hb = true ∧ hr = i then some he else none) := by
  unfold epF
  rcases scP s with _ | ⟨e, r⟩ | ⟨s, a, t⟩ | ⟨s, p, v, f, u, z⟩ | ⟨s, g, f⟩
  · exact ⟨0, 0, false, rfl, by simp⟩
  · exact ⟨e, r, true, rfl, by simp⟩
  · exact ⟨0, 0, false, rfl, by simp⟩
  · exact ⟨0, 0, false, rfl, by simp⟩
  · exact ⟨0, 0, false, rfl, by simp⟩
def FdPost (W : World) (F : Fd) : Ending → World → Prop := fun e w' => ∃ fv, e = .returned (.tuple #[.agg #[.int .i64 F.rg, .int .u32 F.ep, fv, .bool F.cl], .int .i64 0]) ∧ w'.ownsRow W.heap.size 33 4 fv F.fs.length (fvs F.fs) ∧ Kp W w'
section
variable {W : World} {g ib ic : Nat} {p s r : Int} {d : Dev} {v : Value}
set_option maxHeartbeats 3200000 in
theorem sregion_up (h : FlAt W g ib ic p s r d v) (ok : DevOk p s r d) (hd : d.down = false) (i : Int) (i0 : Int) (hi0 : i0 = i) (h0 : 0 ≤ i) (h1 : i < r) :
    Calls Try.prog 17 #[.pointer (some ⟨g, 0, none⟩), .int .i64 i] W (FdPost W (regF i0 (pgs d p s i0))) := by
  have hszs : ∀ (x : Int), 0 ≤ x → x < s * r → ((heldD d p x).size : Int) = p := fun x x0 x1 => heldD_size ok x x0 x1
  have HSZ := Lib.hid hszs
  clear hszs
  have hR := ok.right
  obtain ⟨r1, r2, r3, r4, r5, r6⟩ := id hR
  have HG : Hid (∀ W', Kp W W' → Calls Try.prog 39 #[.pointer (some ⟨g, 0, none⟩)] W' fun e w' => e = .returned (.agg #[.int .i64 p, .int .i64 s, .int .i64 r]) ∧ Kp W' w') := Lib.hid (fun W' (k : Kp W W') => fgeom (h.keep k))
  have HRD : Hid (∀ W' pg, Kp W W' → 0 ≤ pg → pg < s * r → Calls Try.prog 41 #[.pointer (some ⟨g, 0, none⟩), .int .i64 pg] W' fun e w' => e = .returned (.tuple #[.string (heldD d p pg), .int .i64 0]) ∧ Kp W' w') := Lib.hid (fun W' pg k g0 g1 => by
    have H := fread_any (h.keep k) ok pg
    rw [show readD p s r d pg = (heldD d p pg, 0) by unfold readD; rw [if_neg (by rw [hd]; simp), if_neg (by omega)]] at H
    exact H)
  have HPG : Hid (∀ W' (x : Int), 0 ≤ x → x < s → Calls Try.prog 40 #[.agg #[.int .i64 p, .int .i64 s, .int .i64 r], .int .i64 i, .int .i64 x] W' fun e w' => e = .returned (.tuple #[.int .i64 (i * s + x), .bool true]) ∧ Kp W' w') := Lib.hid (fun W' x x0 x1 => page_yes p s r i x hR h0 h1 x0 x1 W')
  have hR0 := Bk.new W 44 [.int .i64 0, .int .u32 0, .slice none 0 0, .bool false]
  have hK0 := Kp.one W (.cells #[.int .i64 0, .int .u32 0, .slice none 0 0, .bool false] 44)
  have d0 : decide (0 ≤ i) = true := by simpa using h0
  have d1 : decide (r ≤ i) = false := by simp; omega
  have d2 : decide ((0 : Int) < s) = true := by simp; omega
  go_enter Try.func17, Try.ntmps17
  go_wp2_with fail
  refine (HG.out _ hK0).mono ?_
  rintro e w1 ⟨rfl, hk1⟩
  have hK1 := hK0.trans hk1
  go_wp2_with fail
  refine (HG.out _ hK1).mono ?_
  rintro e w2 ⟨rfl, hk2⟩
  have hK2 := hK1.trans hk2
  have hR2 := (hR0.keep hk1).keep hk2
  clear hR0
  go_wp2_with fail
  go_loopw [6, 38] (fun v i wr => ∃ j : Nat, (j : Int) ≤ s ∧ i = .int .i64 j ∧ wr.ownsRow w2.heap.size 9 1 v j ((List.range j).map fun (x : Nat) => Value.string (heldD d p (i0 * s + (x : Int)))) ∧ Kp w2 wr) (fun _ i _ => s.toNat - (intOf i).toNat)
  case atStart => exact ⟨0, by omega, rfl, World.ownsRow_nil _ _ _ _, Kp.refl _⟩
  case round =>
    obtain ⟨j, hj, rfl, hown, hKr⟩ := hrel
    by_cases hlt : (j : Int) < s
    · obtain ⟨m1, m2, m3⟩ := page_lt hR h0 h1 (show (0 : Int) ≤ (j : Int) by omega) hlt
      obtain ⟨A1, c1, rfl⟩ := own_slice hown
      have HOW := Lib.hid hown
      clear hown
      have q5 : IntKind.i64.wrap ((j : Int) + 1) = (j : Int) + 1 := IntWalk.i64_in _ (by omega)
      have d5 : decide ((j : Int) < s) = true := by simpa using hlt
      go_wp2_with fail
      refine (HG.out _ (hK2.trans hKr)).mono ?_
      rintro e w4 ⟨rfl, hk4⟩
      go_wp2_with fail
      refine (HPG.out _ _ (by omega) hlt).mono ?_
      rintro e wq ⟨rfl, hk5⟩
      have hwq := hk4.trans hk5
      go_wp2_with fail
      refine (HRD.out _ _ ((hK2.trans hKr).trans hwq) (by omega) (by omega)).mono ?_
      rintro e w3 ⟨rfl, hk3⟩
      obtain ⟨hb, hhb⟩ : ∃ hb, hb = heldD d p (i * s + (j : Int)) := ⟨_, rfl⟩
      rw [← hhb]
      have HHB := Lib.hid hhb
      have hkz := ((hwq.trans hk3).trans (Kp.one w3 (.cells #[.string hb] 9)))
      have hown3 := own_keep HOW.out hkz
      have hkz2 := hKr.trans hkz
      clear hhb
      go_wp2_with (at_builtin; refine wpList_app (w0 := w2) rfl _ _ _ rfl (.string ⟨#[]⟩) 16 Try.underlying53 info_str rfl (by decide) (by decide) rfl hown3 (some ⟨w3.heap.size, 0, none⟩) 1 1 [.string hb] rfl rfl (src_bk (Bk.new w3 9 [.string hb])) (by simp [Value.oneCell']) (by omega) hkz2 ?_; intro v1 w5 hown1 hkp1 hg1 hat1; obtain ⟨A2, c2, rfl⟩ := own_slice hown1; have HO1 := Lib.hid hown1; clear hown1 hg1 hat1)
      go_roundw
      case rel => exact ⟨j + 1, by omega, by go_num, (by rw [List.range_succ, List.map_append, List.map_cons, List.map_nil, show heldD d p (i0 * s + (j : Int)) = hb by rw [hi0, HHB.out]]; exact HO1.out), hkp1⟩
      case measure => simp [intOf]; omega
    · have d5 : decide ((j : Int) < s) = false := by simp; omega
      have hje : s.toNat = j := by omega
      have hk0 : ∀ W', Kp wr W' → Kp w2 W' := fun W' k => hKr.trans k
      have hpn : ((List.range j).map fun (x : Nat) => Value.string (heldD d p (i0 * s + (x : Int)))) = (pgs d p s i0).map Value.string := by unfold pgs; rw [List.map_map, hje]; rfl
      rw [hpn] at hown
      have hpl : (pgs d p s i0).length = j := by unfold pgs; simp; omega
      have hps : ∀ x ∈ pgs d p s i0, (x.size : Int) = p := by
        intro x hx
        unfold pgs at hx
        obtain ⟨y, hy, rfl⟩ := List.mem_map.1 hx
        rw [List.mem_range] at hy
        obtain ⟨m1, m2, m3⟩ := page_lt hR h0 h1 (show (0 : Int) ≤ (y : Int) by omega) (show (y : Int) < s by omega)
        rw [hi0]
        exact HSZ.out _ (by omega) (by omega)
      generalize pgs d p s i0 = ss at *
      obtain ⟨gp, cp, rfl, hgb, hgl, hcp, hcm⟩ := own_at2 hown (by omega)
      have hTX : ∀ W', Kp wr W' → ∀ y, y < j → W'.cell? ⟨gp, y, none⟩ = some (.string (ss.getD y ⟨#[]⟩)) := by
        intro W' k y hy
        have := (own_keep hown k).cellAt y (by rw [Nat.mul_one]; omega)
        rw [this, List.getElem?_map, List.getElem?_eq_getElem (by omega), List.getD_eq_getElem?_getD, List.getElem?_eq_getElem (by omega)]
        rfl
      have hPS : ∀ y, y < j → (ss.getD y ⟨#[]⟩).size ≤ 9223372036854775807 := by
        intro y hy
        rw [List.getD_eq_getElem?_getD, List.getElem?_eq_getElem (by omega)]
        have := hps (ss[y]'(by omega)) (List.getElem_mem _)
        show (ss[y]'(by omega)).size ≤ _
        omega
      have hn1 : 3 ≤ j := by omega
      have HTX := Lib.hid hTX
      have HPS := Lib.hid hPS
      have p0 : ∀ ob, (wr.alloc ob).cell? ⟨gp, 0, none⟩ = some (.string (ss.getD 0 ⟨#[]⟩)) := fun ob => hTX _ (Kp.one _ _) 0 (by omega)
      have HRE := Lib.hid (fun W => sread_any (ss.getD 0 ⟨#[]⟩) (HPS.out 0 (by omega)) W)
      have hta := fun W => ta_head (scP (ss.getD 0 ⟨#[]⟩)) W
      have hR4 := hR2.keep hKr
      have hX := Bk.new wr 44 [.int .i64 i, .int .u32 0, .slice none 0 0, .bool false]
      have HJE := Lib.hid hje
      have HOW := Lib.hid hown
      have HPL := Lib.hid hpl
      clear hown hTX hps hPS hje hpn hpl
      generalize hsz : ss.getD 0 ⟨#[]⟩ = s0 at *
      have HSZ0 := Lib.hid hsz
      clear hsz
      obtain ⟨he, hr, hb, hv1, hv2⟩ := epF_head i s0
      rw [hv1] at hta
      have HV2 := Lib.hid hv2
      clear hv1 hv2
      generalize scP s0 = P at *
      generalize pval P = PV at *
      have HBLK := Lib.hid (fun W' (k : Kp wr W') => by
        have := sblank_any (some ⟨gp, 0, none⟩) cp ss W' ⟨by rw [HPL.out]; omega, fun x hx => by
          obtain ⟨y, hy, rfl⟩ := List.mem_iff_getElem.1 hx
          have := HPS.out y (by rw [← HPL.out]; exact hy)
          rw [List.getD_eq_getElem?_getD, List.getElem?_eq_getElem hy] at this
          exact this, fun _ => ⟨⟨gp, 0, none⟩, rfl, fun y hy => by
            have := HTX.out W' k y (by rw [← HPL.out]; exact hy)
            rw [List.getD_eq_getElem?_getD, List.getElem?_eq_getElem hy] at this
            rw [add_none, Nat.zero_add]
            exact this⟩⟩
        rw [HPL.out] at this
        exact this)
      have qi : IntKind.u32.wrap i = i := IntWalk.u32_in _ (by omega)
      go_wp2_with fail
      refine (HRE.out _).mono ?_
      rintro e wa ⟨rfl, hka⟩
      have hcs : (hb = false) ∨ (hb = true ∧ hr ≠ i) ∨ (hb = true ∧ hr = i) := by
        cases hb
        · exact Or.inl rfl
        · by_cases e : hr = i
          · exact Or.inr (Or.inr ⟨rfl, e⟩)
          · exact Or.inr (Or.inl ⟨rfl, e⟩)
      have hkX := ((Kp.one wr (.cells #[.int .i64 i, .int .u32 0, .slice none 0 0, .bool false] 44)).trans hka)
      have hXa := hX.keep hka
      have hk9 : ∀ o1 o2, Kp wr ((wa.alloc o1).alloc o2) := fun o1 o2 => (hkX.alloc o1).alloc o2
      have fX1 : ∀ o1 o2, ((wa.alloc o1).alloc o2).frozen? ⟨wr.heap.size, 1, none⟩ = false := fun o1 o2 => ((hXa.alloc o1).alloc o2).free 1
      have cX1 : ∀ o1 o2, ((wa.alloc o1).alloc o2).cell? ⟨wr.heap.size, 1, none⟩ = some (.int .u32 0) := fun o1 o2 => ((hXa.alloc o1).alloc o2).cell 1
      have hc1 : cp ≠ 1 := by omega
      have hWr : W.heap.size < wr.heap.size := hR4.lt
      have hn1 : wr.heap.size ≠ W.heap.size := by omega
      have hn2 : W.heap.size ≠ wr.heap.size := by omega
      have hKW := (hK2.trans hKr)
      rcases hcs with rfl | ⟨rfl, hne⟩ | ⟨rfl, heq⟩
      · go_wp2_with fail
        refine (HBLK.out _ (hk9 _ _)).mono ?_
        rintro e wb ⟨rfl, hkb⟩
        have hXb := ((hXa.alloc _).alloc _).keep hkb
        have hRb := hR4.keep ((hk9 _ _).trans hkb)
        obtain ⟨x0, x1, x2, x3⟩ := hXb.c4g
        have x4 := hXb.free 3
        obtain ⟨y0, y1, y2, y3⟩ := hRb.c4g
        obtain ⟨f0, f1, f2, f3⟩ := (⟨hRb.free 0, hRb.free 1, hRb.free 2, hRb.free 3⟩ : _ ∧ _ ∧ _ ∧ _)
        go_wp2_with fail
        have hK9 := (((((hKW.trans ((hk9 _ _).trans hkb)).set (p := ⟨wr.heap.size, 3, none⟩) (Nat.le_of_lt hWr) (.bool (ss.all blankB))).set (p := ⟨W.heap.size, 0, none⟩) (Nat.le_refl _) (.int .i64 i)).set (p := ⟨W.heap.size, 1, none⟩) (Nat.le_refl _) (.int .u32 0)).set (p := ⟨W.heap.size, 2, none⟩) (Nat.le_refl _) (.slice none 0 0)).set (p := ⟨W.heap.size, 3, none⟩) (Nat.le_refl _) (.bool (ss.all blankB))
        have hR9 := ((((hRb.far (p := ⟨wr.heap.size, 3, none⟩) hn2 (.bool (ss.all blankB))).put 0 (.int .i64 i)).put 1 (.int .u32 0)).put 2 (.slice none 0 0)).put 3 (.bool (ss.all blankB))
        generalize ((((wb.setCell ⟨wr.heap.size, 3, none⟩ (.bool (ss.all blankB))).setCell ⟨W.heap.size, 0, none⟩ (.int .i64 i)).setCell ⟨W.heap.size, 1, none⟩ (.int .u32 0)).setCell ⟨W.heap.size, 2, none⟩ (.slice none 0 0)).setCell ⟨W.heap.size, 3, none⟩ (.bool (ss.all blankB)) = w9 at *
        obtain ⟨z0, z1, z2, z3⟩ := (show _ ∧ _ ∧ _ ∧ _ from hR9.c4g)
        have HRG : regF i0 ss = ⟨i, 0, [], ss.all blankB⟩ := by
          rw [hi0]
          exact regF_none (by rw [HPL.out]; omega) (by rw [HSZ0.out, HV2.out]; simp)
        refine bodyPost_ret (v := .tuple #[.agg #[.int .i64 i, .int .u32 0, .slice none 0 0, .bool (ss.all blankB)], .int .i64 0]) (by simp [results, Try.results17, go_sem, z0, z1, z2, z3]) rfl ?_
        rw [HRG]
        exact ⟨_, rfl, World.ownsRow_nil _ _ _ _, hK9⟩
      · have hbn : (hr != i) = true := by simpa using hne
        go_wp2_with fail
        refine (HBLK.out _ (hk9 _ _)).mono ?_
        rintro e wb ⟨rfl, hkb⟩
        have hXb := ((hXa.alloc _).alloc _).keep hkb
        have hRb := hR4.keep ((hk9 _ _).trans hkb)
        obtain ⟨x0, x1, x2, x3⟩ := hXb.c4g
        have x4 := hXb.free 3
        obtain ⟨y0, y1, y2, y3⟩ := hRb.c4g
        obtain ⟨f0, f1, f2, f3⟩ := (⟨hRb.free 0, hRb.free 1, hRb.free 2, hRb.free 3⟩ : _ ∧ _ ∧ _ ∧ _)
        go_wp2_with fail
        have hK9 := (((((hKW.trans ((hk9 _ _).trans hkb)).set (p := ⟨wr.heap.size, 3, none⟩) (Nat.le_of_lt hWr) (.bool (ss.all blankB))).set (p := ⟨W.heap.size, 0, none⟩) (Nat.le_refl _) (.int .i64 i)).set (p := ⟨W.heap.size, 1, none⟩) (Nat.le_refl _) (.int .u32 0)).set (p := ⟨W.heap.size, 2, none⟩) (Nat.le_refl _) (.slice none 0 0)).set (p := ⟨W.heap.size, 3, none⟩) (Nat.le_refl _) (.bool (ss.all blankB))
        have hR9 := ((((hRb.far (p := ⟨wr.heap.size, 3, none⟩) hn2 (.bool (ss.all blankB))).put 0 (.int .i64 i)).put 1 (.int .u32 0)).put 2 (.slice none 0 0)).put 3 (.bool (ss.all blankB))
        generalize ((((wb.setCell ⟨wr.heap.size, 3, none⟩ (.bool (ss.all blankB))).setCell ⟨W.heap.size, 0, none⟩ (.int .i64 i)).setCell ⟨W.heap.size, 1, none⟩ (.int .u32 0)).setCell ⟨W.heap.size, 2, none⟩ (.slice none 0 0)).setCell ⟨W.heap.size, 3, none⟩ (.bool (ss.all blankB)) = w9 at *
        obtain ⟨z0, z1, z2, z3⟩ := (show _ ∧ _ ∧ _ ∧ _ from hR9.c4g)
        have HRG : regF i0 ss = ⟨i, 0, [], ss.all blankB⟩ := by
          rw [hi0]
          exact regF_none (by rw [HPL.out]; omega) (by rw [HSZ0.out, HV2.out]; simp [hne])
        refine bodyPost_ret (v := .tuple #[.agg #[.int .i64 i, .int .u32 0, .slice none 0 0, .bool (ss.all blankB)], .int .i64 0]) (by simp [results, Try.results17, go_sem, z0, z1, z2, z3]) rfl ?_
        rw [HRG]
        exact ⟨_, rfl, World.ownsRow_nil _ _ _ _, hK9⟩
      · have hbn : (hr != i) = false := by simpa using heq
        obtain ⟨wp, hwp⟩ : ∃ wp, wp = wr := ⟨_, rfl⟩
        subst hwp
        have hri := heq.symm
        subst hri
        have HREG : Hid (regF i0 ss = ⟨i, he, fdFrames (ss.drop 1), ((ss.drop 1).drop (fdFrames (ss.drop 1)).length).all blankB⟩) := Lib.hid (by
          rw [hi0]
          exact regF_some (by rw [HPL.out]; omega) (by rw [HSZ0.out, HV2.out]; simp))
        have hXl := ((hXa.alloc (.cells #[.int .i64 (readF s0).1.k, .int .u32 (readF s0).1.a, .int .u32 (readF s0).1.b, .string (readF s0).1.t] 33)).alloc (.cells #[.int .u32 he, .int .u32 i] 84)).put 1 (.int .u32 he)
        have hKl := (hk9 (.cells #[.int .i64 (readF s0).1.k, .int .u32 (readF s0).1.a, .int .u32 (readF s0).1.b, .string (readF s0).1.t] 33) (.cells #[.int .u32 he, .int .u32 i] 84)).set (p := ⟨wp.heap.size, 1, none⟩) (Nat.le_refl _) (.int .u32 he)
        have hXl : Bk _ wp.heap.size 44 [.int .i64 i, .int .u32 he, .slice none 0 0, .bool false] := hXl
        go_wp2_with fail
        clear HBLK hk9 fX1 cX1 hkX hka hXa hX p0 HRE hta
        generalize ((wa.alloc (.cells #[.int .i64 (readF s0).1.k, .int .u32 (readF s0).1.a, .int .u32 (readF s0).1.b, .string (readF s0).1.t] 33)).alloc (.cells #[.int .u32 he, .int .u32 i] 84)).setCell ⟨wp.heap.size, 1, none⟩ (.int .u32 he) = wl at *
        have hb1 : wp.heap.size < wl.heap.size := hXl.lt
        have hb2 : W.heap.size < wl.heap.size := by omega
        obtain ⟨tl, htl⟩ : ∃ tl, tl = ss.drop 1 := ⟨_, rfl⟩
        have htg : ∀ z, tl.getD z ⟨#[]⟩ = ss.getD (z + 1) ⟨#[]⟩ := fun z => by rw [htl, List.getD_eq_getElem?_getD, List.getElem?_drop, Nat.add_comm 1 z, List.getD_eq_getElem?_getD]
        have HTG := Lib.hid htg
        have HTL := Lib.hid htl
        clear htg htl
        go_loopw [6] (fun vp wl2 => RgI j cp gp i he wl.heap.size tl wp vp wl2) (fun vp _ => lenS vp)
        case atStart => exact ⟨0, _, _, j - 1, cp - 1, by omega, by omega, rfl, fun _ => rfl, hXl, World.ownsRow_nil _ _ _ _, hKl, Nat.le_refl _, fun z hz => by omega⟩
        case round =>
          obtain ⟨k, fv, A, m, c, hm, hc, rfl, hA, hXr, hOr, hKr2, hwl2, hall⟩ := hrel
          obtain ⟨Af, cf, rfl⟩ := own_slice hOr
          have HALL := Lib.hid hall
          clear hall
          have HLE : Hid (k ≤ (ss.drop 1).length) := Lib.hid (by rw [List.length_drop, HPL.out]; omega)
          have HBL2 := Lib.hid (fun W' (kk : Kp wp W') => by
            have hdl : (ss.drop (k + 1)).length = m := by rw [List.length_drop, HPL.out]; omega
            have := sblank_any A c (ss.drop (k + 1)) W' ⟨by rw [hdl]; omega, fun x hx => by
              obtain ⟨y, hy, rfl⟩ := List.mem_iff_getElem.1 (List.mem_of_mem_drop hx)
              have := HPS.out y (by rw [← HPL.out]; exact hy)
              rw [List.getD_eq_getElem?_getD, List.getElem?_eq_getElem hy] at this
              exact this, fun hpos => ⟨⟨gp, k + 1, none⟩, hA (by omega), fun y hy => by
              have := HTX.out W' kk (k + 1 + y) (by omega)
              rw [List.getD_eq_getElem?_getD, List.getElem?_eq_getElem (by rw [HPL.out]; omega)] at this
              rw [add_none, List.getElem_drop]
              exact this⟩⟩
            rw [hdl] at this
            exact this)
          have HRr := hR4.keep hKr2
          have hKWr := hKW.trans hKr2
          rw [HTL.out] at HALL hOr
          by_cases hlt : 0 < m
          · have hkj : k + 1 < j := by omega
            obtain rfl := hA hlt
            have p1 := HTX.out _ hKr2 (k + 1) hkj
            have htk := HTG.out k
            have HRE1 := Lib.hid (fun W' => sread_any (ss.getD (k + 1) ⟨#[]⟩) (HPS.out _ hkj) W')
            have hta := fun W' => ta_head (scP (ss.getD (k + 1) ⟨#[]⟩)) W'
            have hsc := scP_cases (ss.getD (k + 1) ⟨#[]⟩)
            rw [← htk] at HRE1 hta hsc p1
            have hfr : rdf (tl.getD k ⟨#[]⟩) = (readF (tl.getD k ⟨#[]⟩)).1 := rfl
            have HDR : (ss.drop 1).getD k ⟨#[]⟩ = tl.getD k ⟨#[]⟩ := by rw [HTL.out]
            generalize hs1 : tl.getD k ⟨#[]⟩ = s1 at *
            have HS1 := Lib.hid hs1
            clear hs1 htk
            rw [← hfr] at HRE1
            generalize hx1 : rdf s1 = x1 at *
            have HX1 := Lib.hid hx1
            clear hx1 hfr
            have hmq : m ≠ 0 := by omega
            go_wp2_with fail
            refine (HRE1.out _).mono ?_
            rintro e wb ⟨rfl, hkb⟩
            have hXb := hXr.keep hkb
            rcases hsc with ⟨hP, hgd⟩ | ⟨e1, r1, hP, hgd⟩ | ⟨T, V, hP, hh, hgd⟩
            · rw [hP] at hta ⊢
              simp only [pval, headV] at hta ⊢
              have hkq := (hkb.alloc (.cells #[.int .i64 x1.k, .int .u32 x1.a, .int .u32 x1.b, .string x1.t] 33)).alloc (.cells #[.int .u32 0, .int .u32 0] 84)
              have hkF := hKr2.trans hkq
              have hXF := hXr.keep hkq
              have hRF := HRr.keep hkq
              have hOF := own_keep hOr hkq
              have hKF := hKWr.trans hkq
              go_wp2_with fail
              refine (HBL2.out _ hkF).mono ?_
              rintro e wd ⟨rfl, hkd⟩
              have hXd := hXF.keep hkd
              have hRd := hRF.keep hkd
              obtain ⟨x0, x1, x2, x3⟩ := hXd.c4g
              have x4 := hXd.free 3
              obtain ⟨y0, y1, y2, y3⟩ := hRd.c4g
              obtain ⟨f0, f1, f2, f3⟩ := (⟨hRd.free 0, hRd.free 1, hRd.free 2, hRd.free 3⟩ : _ ∧ _ ∧ _ ∧ _)
              have hOd := own_keep hOF hkd
              have hKd := hKF.trans hkd
              go_wp2_with fail
              generalize hbv : (ss.drop (k + 1)).all blankB = BV at *
              have hK9 := ((((hKd.set (p := ⟨wp.heap.size, 3, none⟩) (Nat.le_of_lt hWr) (.bool BV)).set (p := ⟨W.heap.size, 0, none⟩) (Nat.le_refl _) (.int .i64 i)).set (p := ⟨W.heap.size, 1, none⟩) (Nat.le_refl _) (.int .u32 he)).set (p := ⟨W.heap.size, 2, none⟩) (Nat.le_refl _) (.slice Af k cf)).set (p := ⟨W.heap.size, 3, none⟩) (Nat.le_refl _) (.bool BV)
              have hR9 := ((((hRd.far (p := ⟨wp.heap.size, 3, none⟩) hn2 (.bool BV)).put 0 (.int .i64 i)).put 1 (.int .u32 he)).put 2 (.slice Af k cf)).put 3 (.bool BV)
              have hO9 := own_setS (own_setS (own_setS (own_setS (own_setS hOd (p := ⟨wp.heap.size, 3, none⟩) hb1 (.bool BV)) (p := ⟨W.heap.size, 0, none⟩) hb2 (.int .i64 i)) (p := ⟨W.heap.size, 1, none⟩) hb2 (.int .u32 he)) (p := ⟨W.heap.size, 2, none⟩) hb2 (.slice Af k cf)) (p := ⟨W.heap.size, 3, none⟩) hb2 (.bool BV)
              generalize ((((wd.setCell ⟨wp.heap.size, 3, none⟩ (.bool BV)).setCell ⟨W.heap.size, 0, none⟩ (.int .i64 i)).setCell ⟨W.heap.size, 1, none⟩ (.int .u32 he)).setCell ⟨W.heap.size, 2, none⟩ (.slice Af k cf)).setCell ⟨W.heap.size, 3, none⟩ (.bool BV) = w9 at *
              obtain ⟨z0, z1, z2, z3⟩ := (show _ ∧ _ ∧ _ ∧ _ from hR9.c4g)
              refine bodyPost_ret (v := .tuple #[.agg #[.int .i64 i, .int .u32 he, (.slice Af k cf), .bool BV], .int .i64 0]) (by simp [results, Try.results17, go_sem, z0, z1, z2, z3]) rfl ?_
              have hfd := fdFrames_upto (ss.drop 1) k HLE.out HALL.out (fun _ => by rw [HDR]; exact hgd)
              have hfl : ((ss.drop 1).take k).length = k := by rw [List.length_take]; have := HLE.out; omega
              rw [HREG.out, hfd]
              refine ⟨(.slice Af k cf), ?_, ?_, hK9⟩
              · rw [List.length_map, hfl, List.drop_drop, Nat.add_comm 1 k, hbv]
              · rw [List.length_map, hfl]
                exact own_down hO9 (Nat.le_of_lt hb2)
            · rw [hP] at hta ⊢
              simp only [pval, headV] at hta ⊢
              have hkq := (hkb.alloc (.cells #[.int .i64 x1.k, .int .u32 x1.a, .int .u32 x1.b, .string x1.t] 33)).alloc (.cells #[.int .u32 e1, .int .u32 r1] 84)
              have hkF := hKr2.trans hkq
              have hXF := hXr.keep hkq
              have hRF := HRr.keep hkq
              have hOF := own_keep hOr hkq
              have hKF := hKWr.trans hkq
              go_wp2_with fail
              refine (HBL2.out _ hkF).mono ?_
              rintro e wd ⟨rfl, hkd⟩
              have hXd := hXF.keep hkd
              have hRd := hRF.keep hkd
              obtain ⟨x0, x1, x2, x3⟩ := hXd.c4g
              have x4 := hXd.free 3
              obtain ⟨y0, y1, y2, y3⟩ := hRd.c4g
              obtain ⟨f0, f1, f2, f3⟩ := (⟨hRd.free 0, hRd.free 1, hRd.free 2, hRd.free 3⟩ : _ ∧ _ ∧ _ ∧ _)
              have hOd := own_keep hOF hkd
              have hKd := hKF.trans hkd
              go_wp2_with fail
              generalize hbv : (ss.drop (k + 1)).all blankB = BV at *
              have hK9 := ((((hKd.set (p := ⟨wp.heap.size, 3, none⟩) (Nat.le_of_lt hWr) (.bool BV)).set (p := ⟨W.heap.size, 0, none⟩) (Nat.le_refl _) (.int .i64 i)).set (p := ⟨W.heap.size, 1, none⟩) (Nat.le_refl _) (.int .u32 he)).set (p := ⟨W.heap.size, 2, none⟩) (Nat.le_refl _) (.slice Af k cf)).set (p := ⟨W.heap.size, 3, none⟩) (Nat.le_refl _) (.bool BV)
              have hR9 := ((((hRd.far (p := ⟨wp.heap.size, 3, none⟩) hn2 (.bool BV)).put 0 (.int .i64 i)).put 1 (.int .u32 he)).put 2 (.slice Af k cf)).put 3 (.bool BV)
              have hO9 := own_setS (own_setS (own_setS (own_setS (own_setS hOd (p := ⟨wp.heap.size, 3, none⟩) hb1 (.bool BV)) (p := ⟨W.heap.size, 0, none⟩) hb2 (.int .i64 i)) (p := ⟨W.heap.size, 1, none⟩) hb2 (.int .u32 he)) (p := ⟨W.heap.size, 2, none⟩) hb2 (.slice Af k cf)) (p := ⟨W.heap.size, 3, none⟩) hb2 (.bool BV)
              generalize ((((wd.setCell ⟨wp.heap.size, 3, none⟩ (.bool BV)).setCell ⟨W.heap.size, 0, none⟩ (.int .i64 i)).setCell ⟨W.heap.size, 1, none⟩ (.int .u32 he)).setCell ⟨W.heap.size, 2, none⟩ (.slice Af k cf)).setCell ⟨W.heap.size, 3, none⟩ (.bool BV) = w9 at *
              obtain ⟨z0, z1, z2, z3⟩ := (show _ ∧ _ ∧ _ ∧ _ from hR9.c4g)
              refine bodyPost_ret (v := .tuple #[.agg #[.int .i64 i, .int .u32 he, (.slice Af k cf), .bool BV], .int .i64 0]) (by simp [results, Try.results17, go_sem, z0, z1, z2, z3]) rfl ?_
              have hfd := fdFrames_upto (ss.drop 1) k HLE.out HALL.out (fun _ => by rw [HDR]; exact hgd)
              have hfl : ((ss.drop 1).take k).length = k := by rw [List.length_take]; have := HLE.out; omega
              rw [HREG.out, hfd]
              refine ⟨(.slice Af k cf), ?_, ?_, hK9⟩
              · rw [List.length_map, hfl, List.drop_drop, Nat.add_comm 1 k, hbv]
              · rw [List.length_map, hfl]
                exact own_down hO9 (Nat.le_of_lt hb2)
            · rw [hP, hh] at hta
              rw [hP]
              have hkq := (hkb.alloc (.cells #[.int .i64 x1.k, .int .u32 x1.a, .int .u32 x1.b, .string x1.t] 33)).alloc (.cells #[.int .u32 0, .int .u32 0] 84)
              go_wp2_with fail
              have hXc := hXr.keep hkq
              have hOc := own_keep hOr hkq
              have hKc := hKr2.trans hkq
              have hAc := (Bk.new wb 33 [.int .i64 x1.k, .int .u32 x1.a, .int .u32 x1.b, .string x1.t]).alloc (.cells #[.int .u32 0, .int .u32 0] 84)
              have hwb : wr.heap.size ≤ wb.heap.size := hkb.size
              have hAS : ∀ q, (Value.slice Af k cf).ownBlock = some q → q ≠ wb.heap.size ∧ q ≠ wp.heap.size ∧ wl.heap.size ≤ q := fun q hq => by
                have h1 := hOr.lt q hq
                exact ⟨by omega, by omega, h1.1⟩
              generalize ((wb.alloc (.cells #[.int .i64 x1.k, .int .u32 x1.a, .int .u32 x1.b, .string x1.t] 33)).alloc (.cells #[.int .u32 0, .int .u32 0] 84)) = wc at *
              obtain ⟨gx, hgx⟩ : ∃ gx, gx = wp.heap.size := ⟨_, rfl⟩
              obtain ⟨bA, hbA⟩ : ∃ bA, bA = wb.heap.size := ⟨_, rfl⟩
              rw [← hgx, ← hbA] at hAS
              rw [← hgx] at hXc
              have hAc : Bk wc bA 33 [.int .i64 x1.k, .int .u32 x1.a, .int .u32 x1.b, .string x1.t] := by rw [hbA]; exact hAc
              rw [← hgx, ← hbA]
              obtain ⟨S, hS⟩ : ∃ S, S = (Value.slice Af k cf).ownBlock.toList := ⟨_, rfl⟩
              have hSm : ∀ q ∈ S, q ≠ bA ∧ q ≠ gx ∧ wl.heap.size ≤ q := fun q hq => hAS q (by rw [hS] at hq; simpa using hq)
              have HF := Lib.hid (fun (W' : World) (hh : Mv S wc W') => And.intro (((hXc.mv hh (fun hm => (hSm _ hm).2.1 rfl))).cell 2) ((hAc.mv hh (fun hm => (hSm _ hm).1 rfl)).c4g))
              have HX2 := Lib.hid (fun (W' : World) (hh : Mv S wc W') => hXc.mv hh (fun hm => (hSm _ hm).2.1 rfl))
              have HOC := Lib.hid hOc
              have HKC := Lib.hid hKc
              have HBL := Lib.hid (show wl.heap.size ≤ wc.heap.size from by have h2 := hAc.lt; omega)
              have HGX := Lib.hid hgx
              have HB1 : Hid (gx < wl.heap.size) := Lib.hid (by rw [hgx]; exact hb1)
              have HBA := Lib.hid hbA
              have HSD := Lib.hid hS
              have HSM := Lib.hid hSm
              clear hgx hbA hS hSm hAS
              have hmc : m ≤ c := by omega
              obtain ⟨XS, hXS⟩ : ∃ XS, XS = fvs (((ss.drop 1).take k).map rdf) := ⟨_, rfl⟩
              have HOC : Hid (wc.ownsRow wl.heap.size 33 4 (.slice Af k cf) k XS) := Lib.hid (by rw [hXS]; exact hOc)
              have HXS := Lib.hid hXS
              clear hXS
              have hm1 : (1 : Int) ≤ (m : Int) := by omega
              rcases (show c = 1 ∨ c ≠ 1 from by omega) with hcq | hcq
              all_goals
                refine wp_region_rel5 (R1 := Kp) (C := RgC S gx wc (RgQ gx wl.heap.size (k + 1) i he (XS ++ [.int .i64 x1.k, .int .u32 x1.a, .int .u32 x1.b, .string x1.t]))) 9 4 8 rfl (by kernel_rfl) ⟨(Mv.refl _).drew, fun _ => (Kp.refl _).drew, fun _ => (Mv.refl _).drew, fun e => by simp at e⟩ (RgC.keep RgQ.keep) Kp.refl (fun _ _ _ h k => h.trans k) ?_
                simp only [List.take_succ_cons, List.take_zero, List.drop_succ_cons, List.drop_zero]
                repeat (refine wpRel5_step 1 (by kernel_rfl) (by simp) (by simp) (fun K hK => ?_); apply rel5_eq; (case ob => (intro f b W hb0 hW hd; (obtain ⟨q2, n0, n1, n2, n3⟩ := HF.out _ (hW.2.2.1 hb0)); (try simp [deps, factOf, Region.binds, at5] at hd); unfold relOp; go_simp; (first | exact ⟨Kp.refl _, rfl⟩ | exact Kp.refl _ | (refine ⟨Kp.refl _, ?_⟩; fail)))); go_simp; refine hK _ _ ?_; clear hK K)
                refine wpRel5_step 0 (by kernel_rfl) (by simp) (by simp) (fun K hK => ?_)
                apply rel5_fact (BldF 33 [.int .i64 x1.k, .int .u32 x1.a, .int .u32 x1.b, .string x1.t]) (BldF.st)
                case ob =>
                  intro f b W hb0 hW hd
                  skip
                  (try simp [deps, factOf, Region.binds, at5] at hd)
                  unfold relOp
                  go_simp
                  exact ⟨Kp.one _ _, fun _ => ⟨_, rfl, Bk.new _ _ _⟩⟩
                go_simp
                refine hK _ _ ?_
                clear hK K
                refine wpRel5_move1 rfl (by decide) rfl (OwnF wl.heap.size (k + 1) (XS ++ [.int .i64 x1.k, .int .u32 x1.a, .int .u32 x1.b, .string x1.t])) OwnF.st ?ob (fun K hK => ?_)
                case ob =>
                  intro f W' hW hd
                  (try simp [deps, factOf, Region.binds, at5] at hd)
                  obtain ⟨e1, e3⟩ := hd
                  obtain ⟨q, e3, hq⟩ := e3
                  have hk0 : Kp wc W' := hW.2.1 rfl
                  have hown3 := own_keep HOC.out hk0
                  refine mv5_app _ _ _ rfl (.agg #[.int .i64 0, .int .u32 0, .int .u32 0, .string ⟨#[]⟩]) 32 Try.underlying29 info_frm rfl (by decide) (by decide) e1 hown3 (some ⟨q, 0, none⟩) 1 1 [.int .i64 x1.k, .int .u32 x1.a, .int .u32 x1.b, .string x1.t] e3 rfl (src_bk hq) (by simp [Value.oneCell']) (by omega) (Nat.le_trans HBL.out hk0.size) ?_
                  intro v1 w4 hown1 hg1 hat1
                  have hm4 : Mv S wc w4 := (Mv.of hk0).grown hg1 (fun q hq => by rw [HSD.out]; simpa using hq)
                  exact ⟨⟨hm4.sub (fun b hb => List.mem_cons_of_mem _ hb), fun e => by simp at e, fun _ => hm4, fun e => by simp at e⟩, hown1⟩
                go_simp
                refine hK _ _ ?_
                clear hK K
                repeat (refine wpRel5_step 2 (by kernel_rfl) (by simp) (by simp) (fun K hK => ?_); apply rel5_eq; (case ob => (intro f b W hb0 hW hd; (skip); (try simp [deps, factOf, Region.binds, at5] at hd); unfold relOp; go_simp; (first | exact ⟨Kp.refl _, rfl⟩ | exact Kp.refl _ | (refine ⟨Kp.refl _, ?_⟩; fail)))); go_simp; refine hK _ _ ?_; clear hK K)
                refine wpRel5_move2 rfl (by decide) rfl ?ob (fun K hK => ?_)
                case ob =>
                  intro f W' hW hd
                  (try simp [deps, factOf, Region.binds, at5] at hd)
                  obtain ⟨e7, e4, -⟩ := hd
                  have e4 : W'.ownsRow wl.heap.size 33 4 (f 4) (k + 1) (XS ++ [.int .i64 x1.k, .int .u32 x1.a, .int .u32 x1.b, .string x1.t]) := e4
                  obtain ⟨A4, c4, e5⟩ := own_slice e4
                  rw [e5] at e4
                  have hXw := HX2.out _ (hW.2.2.1 (Nat.le_refl 1))
                  have fz := hXw.free 2
                  have fc := hXw.cell 2
                  have hQ : RgC S gx wc (RgQ gx wl.heap.size (k + 1) i he (XS ++ [.int .i64 x1.k, .int .u32 x1.a, .int .u32 x1.b, .string x1.t])) 2 (W'.setCell ⟨gx, 2, none⟩ (.slice A4 (k + 1) c4)) :=
                    ⟨hW.1.set (p := ⟨gx, 2, none⟩) (List.mem_cons_self ..) _, fun e => by simp at e, fun e => by omega, fun _ => ⟨A4, c4, hXw.put 2 _, own_setS e4 (p := ⟨gx, 2, none⟩) HB1.out _⟩⟩
                  unfold mvOp5
                  rw [e7, e5]
                  go_simp
                  first | done | exact hQ
                go_simp
                refine hK _ _ ?_
                clear hK K
                refine wpRel5_nil ?_
                intro f W' hW hall
                have h6 := allF_get hall 6 _ rfl
                dsimp only at h6
                rw [Nat.zero_add] at h6
                dsimp only
                rw [h6]
                clear hall h6
                have hQ9 := hW.2.2.2 rfl
                have hK9 := Mv.kp HKC.out (fun b hb => by
                  rcases List.mem_cons.1 hb with rfl | hb
                  · rw [HGX.out]; exact Nat.le_refl _
                  · have := (HSM.out b hb).2.2; omega) hW.1
                have hS9 := Nat.le_trans HBL.out hW.1.size
                have HQ9 := Lib.hid hQ9
                clear hQ9 hW
                rw [HGX.out]
                go_wp2_with fail
                go_roundw
                case rel =>
                  obtain ⟨A4, c4, z1, z2⟩ := HQ9.out
                  rw [HGX.out] at z1
                  have hk1 : k < (ss.drop 1).length := by rw [List.length_drop, HPL.out]; omega
                  have hxs : XS ++ [.int .i64 x1.k, .int .u32 x1.a, .int .u32 x1.b, .string x1.t] = fvs ((tl.take (k + 1)).map rdf) := by
                    have e1 : (ss.drop 1)[k] = s1 := by rw [← HDR, List.getD_eq_getElem?_getD, List.getElem?_eq_getElem hk1]; rfl
                    rw [HXS.out, HTL.out, List.take_succ_eq_append_getElem hk1, List.map_append, fvs_app, e1, ← HX1.out]
                    rfl
                  rw [hxs] at z2
                  unfold RgI
                  refine ⟨k + 1, _, _, m - 1, c - 1, by omega, by omega, by first | rfl | rw [hcq], fun hp => by first | rfl | omega, z1, z2, hK9, hS9, fun z hz => ?_⟩
                  rcases Nat.lt_or_ge z k with hz2 | hz2
                  · have := HALL.out z hz2
                    rw [HTL.out]
                    exact this
                  · obtain rfl : z = k := by omega
                    rw [HTL.out, HDR]
                    exact hgd
                case measure => simp [lenS]; omega
          · obtain rfl : m = 0 := by omega
            go_wp2_with fail
            refine (HBL2.out _ hKr2).mono ?_
            rintro e wd ⟨rfl, hkd⟩
            have hXd := hXr.keep hkd
            have hRd := HRr.keep hkd
            obtain ⟨x0, x1, x2, x3⟩ := hXd.c4g
            have x4 := hXd.free 3
            obtain ⟨y0, y1, y2, y3⟩ := hRd.c4g
            obtain ⟨f0, f1, f2, f3⟩ := (⟨hRd.free 0, hRd.free 1, hRd.free 2, hRd.free 3⟩ : _ ∧ _ ∧ _ ∧ _)
            have hOd := own_keep hOr hkd
            have hKd := hKWr.trans hkd
            go_wp2_with fail
            generalize hbv : (ss.drop (k + 1)).all blankB = BV at *
            have hK9 := ((((hKd.set (p := ⟨wp.heap.size, 3, none⟩) (Nat.le_of_lt hWr) (.bool BV)).set (p := ⟨W.heap.size, 0, none⟩) (Nat.le_refl _) (.int .i64 i)).set (p := ⟨W.heap.size, 1, none⟩) (Nat.le_refl _) (.int .u32 he)).set (p := ⟨W.heap.size, 2, none⟩) (Nat.le_refl _) (.slice Af k cf)).set (p := ⟨W.heap.size, 3, none⟩) (Nat.le_refl _) (.bool BV)
            have hR9 := ((((hRd.far (p := ⟨wp.heap.size, 3, none⟩) hn2 (.bool BV)).put 0 (.int .i64 i)).put 1 (.int .u32 he)).put 2 (.slice Af k cf)).put 3 (.bool BV)
            have hO9 := own_setS (own_setS (own_setS (own_setS (own_setS hOd (p := ⟨wp.heap.size, 3, none⟩) hb1 (.bool BV)) (p := ⟨W.heap.size, 0, none⟩) hb2 (.int .i64 i)) (p := ⟨W.heap.size, 1, none⟩) hb2 (.int .u32 he)) (p := ⟨W.heap.size, 2, none⟩) hb2 (.slice Af k cf)) (p := ⟨W.heap.size, 3, none⟩) hb2 (.bool BV)
            generalize ((((wd.setCell ⟨wp.heap.size, 3, none⟩ (.bool BV)).setCell ⟨W.heap.size, 0, none⟩ (.int .i64 i)).setCell ⟨W.heap.size, 1, none⟩ (.int .u32 he)).setCell ⟨W.heap.size, 2, none⟩ (.slice Af k cf)).setCell ⟨W.heap.size, 3, none⟩ (.bool BV) = w9 at *
            obtain ⟨z0, z1, z2, z3⟩ := (show _ ∧ _ ∧ _ ∧ _ from hR9.c4g)
            refine bodyPost_ret (v := .tuple #[.agg #[.int .i64 i, .int .u32 he, (.slice Af k cf), .bool BV], .int .i64 0]) (by simp [results, Try.results17, go_sem, z0, z1, z2, z3]) rfl ?_
            have hfd := fdFrames_upto (ss.drop 1) k HLE.out HALL.out (fun h => absurd h (by rw [List.length_drop, HPL.out]; omega))
            have hfl : ((ss.drop 1).take k).length = k := by rw [List.length_take]; have := HLE.out; omega
            rw [HREG.out, hfd]
            refine ⟨(.slice Af k cf), ?_, ?_, hK9⟩
            · rw [List.length_map, hfl, List.drop_drop, Nat.add_comm 1 k, hbv]
            · rw [List.length_map, hfl]
              exact own_down hO9 (Nat.le_of_lt hb2)

end
end Go.Proofs.Ytecelmhiffcaeaa
/- Package scan: All of a device that is up. -/
namespace Go.Proofs.Ytecelmhiffcaeaa
open Go.RowKit
set_option linter.unusedVariables false
set_option maxRecDepth 20000
theorem info_fnd : (Try.prog.info? 44).map (fun i => (i.zero, i.size, i.bytes)) = some (some (.agg #[.int .i64 0, .int .u32 0, .slice none 0 0, .bool false]), 4, 48) := by kernel_rfl
/-- What was found, as cells: beside each the slice of its frames. -/
def fdCells (l : List (Fd × Value)) : List Value := l.flatMap fun x => [.int .i64 x.1.rg, .int .u32 x.1.ep, x.2, .bool x.1.cl]
theorem fdCells_app (l m : List (Fd × Value)) : fdCells (l ++ m) = fdCells l ++ fdCells m := by simp [fdCells]
theorem fdCells_len (l : List (Fd × Value)) : (fdCells l).length = l.length * 4 := by
  induction l with
  | nil => rfl
  | cons x l ih => rw [show fdCells (x :: l) = [.int .i64 x.1.rg, .int .u32 x.1.ep, x.2, .bool x.1.cl] ++ fdCells l from rfl, List.length_append, ih]; simp; omega
/-- The frames of what was found. -/
def FrsAt (W : World) (base : Nat) (l : List (Fd × Value)) : Prop := ∀ x ∈ l, W.ownsRow base 33 4 x.2 x.1.fs.length (fvs x.1.fs)
theorem FrsAt.keep {W W' : World} {base : Nat} {l : List (Fd × Value)} (h : FrsAt W base l) (k : Kp W W') : FrsAt W' base l := fun x hx => own_keep (h x hx) k
/-- A slice of what was found. -/
def FdsAt (W : World) (base : Nat) (v : Value) (l : List (Fd × Value)) : Prop := W.ownsRow base 44 4 v l.length (fdCells l) ∧ FrsAt W base l
theorem FdsAt.keep {W W' : World} {base : Nat} {v : Value} {l : List (Fd × Value)} (h : FdsAt W base v l) (k : Kp W W') : FdsAt W' base v l := ⟨own_keep h.1 k, h.2.keep k⟩
noncomputable def allF2 (d : Dev) (p s : Int) (k : Nat) : List Fd := (List.range k).map fun (x : Nat) => regF (x : Int) (pgs d p s (x : Int))
theorem allF2_len (d : Dev) (p s : Int) (k : Nat) : (allF2 d p s k).length = k := by simp [allF2]
def FdsPost (W : World) (L : List Fd) : Ending → World → Prop := fun e w' => ∃ v l, e = .returned (.tuple #[v, .int .i64 0]) ∧ l.map Prod.fst = L ∧ FdsAt w' W.heap.size v l ∧ Kp W w'
/-- What holds at the head of All's loop. -/
def FdsI (W : World) (d : Dev) (p s : Int) (r : Int) (v i : Value) (wr : World) : Prop := ∃ (k : Nat) (l : List (Fd × Value)), (k : Int) ≤ r ∧ i = .int .i64 k ∧ l.map Prod.fst = allF2 d p s k ∧ FdsAt wr W.heap.size v l ∧ Kp W wr
section
variable {W : World} {g ib ic : Nat} {p s r : Int} {d : Dev} {v : Value}
set_option maxHeartbeats 3200000 in
theorem sall_up (h : FlAt W g ib ic p s r d v) (ok : DevOk p s r d) (hd : d.down = false) :
    Calls Try.prog 18 #[.pointer (some ⟨g, 0, none⟩)] W (FdsPost W (allF2 d p s r.toNat)) := by
  have hR := ok.right
  obtain ⟨r1, r2, r3, r4, r5, r6⟩ := id hR
  have HG : Hid (∀ W', Kp W W' → Calls Try.prog 39 #[.pointer (some ⟨g, 0, none⟩)] W' fun e w' => e = .returned (.agg #[.int .i64 p, .int .i64 s, .int .i64 r]) ∧ Kp W' w') := Lib.hid (fun W' (k : Kp W W') => fgeom (h.keep k))
  have HRG := Lib.hid (fun W' (k : Kp W W') (i : Int) h0 h1 => sregion_up (h.keep k) ok hd i i rfl h0 h1)
  have d2 : decide ((0 : Int) < r) = true := by simp; omega
  go_enter Try.func18, Try.ntmps18
  go_wp2_with fail
  refine (HG.out _ (Kp.refl _)).mono ?_
  rintro e w1 ⟨rfl, hk1⟩
  go_wp2_with fail
  go_loopw [4, 13] (fun v i wr => FdsI W d p s r v i wr) (fun _ i _ => r.toNat - (intOf i).toNat)
  case atStart => exact ⟨0, [], by omega, rfl, rfl, ⟨World.ownsRow_nil _ _ _ _, fun x hx => by simp at hx⟩, hk1⟩
  case round =>
    obtain ⟨k, l, hk, rfl, hl, ⟨hO, hF⟩, hKr⟩ := hrel
    obtain ⟨A1, c1, rfl⟩ := own_slice hO
    have hll : l.length = k := by rw [← List.length_map (f := Prod.fst), hl, allF2_len]
    by_cases hlt : (k : Int) < r
    · have q5 : IntKind.i64.wrap ((k : Int) + 1) = (k : Int) + 1 := IntWalk.i64_in _ (by omega)
      have d5 : decide ((k : Int) < r) = true := by simpa using hlt
      rw [hll] at hO
      have HO := Lib.hid hO
      have HF := Lib.hid hF
      have HL := Lib.hid hl
      have HLL := Lib.hid hll
      have hst : allF2 d p s (k + 1) = allF2 d p s k ++ [regF (k : Int) (pgs d p s (k : Int))] := by unfold allF2; rw [List.range_succ, List.map_append]; rfl
      generalize hF0 : regF (k : Int) (pgs d p s (k : Int)) = F at *
      have HST := Lib.hid hst
      have HF0 := Lib.hid hF0
      clear hO hF hl hst hF0 hll
      go_wp2_with fail
      refine (HRG.out _ hKr _ (by omega) hlt).mono ?_
      rw [HF0.out]
      rintro e w2 ⟨fv, rfl, hfo, hk2⟩
      obtain ⟨A2, c2, rfl⟩ := own_slice hfo
      have hX := Bk.new w2 44 [.int .i64 F.rg, .int .u32 F.ep, .slice A2 F.fs.length c2, .bool F.cl]
      have hY : Bk ((w2.alloc (.cells #[.int .i64 F.rg, .int .u32 F.ep, .slice A2 F.fs.length c2, .bool F.cl] 44)).alloc (.cells #[.int .i64 F.rg, .int .u32 F.ep, .slice A2 F.fs.length c2, .bool F.cl] 44)) (w2.heap.size + 1) 44 [.int .i64 F.rg, .int .u32 F.ep, .slice A2 F.fs.length c2, .bool F.cl] := by
        have := Bk.new (w2.alloc (.cells #[.int .i64 F.rg, .int .u32 F.ep, .slice A2 F.fs.length c2, .bool F.cl] 44)) 44 [.int .i64 F.rg, .int .u32 F.ep, .slice A2 F.fs.length c2, .bool F.cl]
        rw [show (w2.alloc (.cells #[.int .i64 F.rg, .int .u32 F.ep, .slice A2 F.fs.length c2, .bool F.cl] 44)).heap.size = w2.heap.size + 1 by simp] at this
        exact this
      have hkq := (hk2.alloc (.cells #[.int .i64 F.rg, .int .u32 F.ep, .slice A2 F.fs.length c2, .bool F.cl] 44)).alloc (.cells #[.int .i64 F.rg, .int .u32 F.ep, .slice A2 F.fs.length c2, .bool F.cl] 44)
      have hkq2 := ((Kp.one w2 (.cells #[.int .i64 F.rg, .int .u32 F.ep, .slice A2 F.fs.length c2, .bool F.cl] 44))).alloc (.cells #[.int .i64 F.rg, .int .u32 F.ep, .slice A2 F.fs.length c2, .bool F.cl] 44)
      have hkz2 := hKr.trans hkq
      have hown3 := own_keep HO.out hkq
      have hown3 : World.ownsRow _ W.heap.size 44 4 (.slice A1 k c1) k (fdCells l) := hown3
      have hfo3 := own_down (own_keep hfo hkq2) hKr.size
      have hF3 := HF.out.keep hkq
      have HF3 : Hid (FrsAt _ W.heap.size (l ++ [(F, .slice A2 F.fs.length c2)])) := Lib.hid (fun x hx => by
        rcases List.mem_append.1 hx with hx | hx
        · exact hF3 x hx
        · rw [List.mem_singleton] at hx
          subst hx
          exact hfo3)
      have HOW := Lib.hid hown3
      clear hfo3 hF3 hfo
      rw [HLL.out]
      go_wp2_with (at_builtin; refine wpList_app (w0 := W) rfl _ _ _ rfl (.agg #[.int .i64 0, .int .u32 0, .slice none 0 0, .bool false]) 48 Try.underlying47 info_fnd rfl (by decide) (by decide) rfl HOW.out (some ⟨w2.heap.size + 1, 0, none⟩) 1 1 [.int .i64 F.rg, .int .u32 F.ep, .slice A2 F.fs.length c2, .bool F.cl] rfl rfl (src_bk hY) (by simp [Value.oneCell']) (by omega) hkz2 ?_; intro v1 w5 hown1 hkp1 hg1 hat1; have HTN := Lib.hid (show FrsAt w5 W.heap.size (l ++ [(F, .slice A2 F.fs.length c2)]) from fun x hx => own_other (HF3.out x hx) hg1 (own_type_ne (HF3.out x hx) HOW.out (by decide))); obtain ⟨A3, c3, rfl⟩ := own_slice hown1; have HO1 := Lib.hid hown1; clear hown1 hg1 hat1)
      go_roundw
      case rel => exact ⟨k + 1, l ++ [(F, .slice A2 F.fs.length c2)], by omega, by go_num, by rw [List.map_append, HL.out, HST.out]; rfl, ⟨by rw [List.length_append, HLL.out, fdCells_app]; exact HO1.out, HTN.out⟩, hkp1⟩
      case measure => simp [intOf]; omega
    · have d5 : decide ((k : Int) < r) = false := by simp; omega
      have hke : r.toNat = k := by omega
      rw [hke]
      have HO := Lib.hid hO
      clear hO
      go_wp2_with fail
      refine bodyPost_ret (v := .tuple #[.slice A1 l.length c1, .int .i64 0]) (by simp [results, Try.results18, go_sem, hll]) rfl ?_
      exact ⟨_, l, rfl, hl, ⟨HO.out, hF⟩, hKr⟩
end
end Go.Proofs.Ytecelmhiffcaeaa
/- alive of scan's laws. -/
namespace Go.Proofs.Ytecelmhiffcaeaa
open Go.RowKit
set_option linter.unusedVariables false
set_option maxRecDepth 20000
theorem scP_blank {s : ByteArray} (h : blankB s = true) : scP s = none := by
  have : (readF s).2 ≠ 0 := by
    unfold readF
    by_cases h1 : s.size < 32 ∨ 128 < s.size
    · rw [if_pos h1]; decide
    · rw [if_neg h1, if_pos h]; decide
  unfold scP
  rw [if_neg this]
theorem epF_blank {i : Int} {s : ByteArray} (h : blankB s = true) : epF i s = none := by unfold epF; rw [scP_blank h]
theorem regF_blank {i : Int} {ss : List ByteArray} (h : ss.all blankB = true) : regF i ss = ⟨i, 0, [], true⟩ := by
  cases ss with
  | nil => rfl
  | cons a l =>
    have ha : blankB a = true := by simp at h; exact h.1
    have hn : epF i ((a :: l).getD 0 ⟨#[]⟩) = none := epF_blank ha
    have hl : 0 < (a :: l).length := Nat.succ_pos _
    have e := regF_none (i := i) (ss := a :: l) hl hn
    rw [e, h]
def sD : Dev := newD 32 3 4 ⟨#[]⟩
theorem sD_bl : (List.range 12).all (fun x => blankB (heldD sD 32 ((x : Nat) : Int))) = true := by kernel_rfl
theorem sD_reg : regF 2 (pgs sD 32 3 2) = ⟨2, 0, [], true⟩ := by
  refine regF_blank (List.all_eq_true.2 fun x hx => ?_)
  unfold pgs at hx
  obtain ⟨y, hy, rfl⟩ := List.mem_map.1 hx
  rw [List.mem_range] at hy
  have := List.all_eq_true.1 sD_bl (y + 6) (List.mem_range.2 (by omega))
  rw [show (2 : Int) * 3 + (y : Int) = ((y + 6 : Nat) : Int) by omega]
  exact this
theorem snew0 (w : World) : Calls Try.prog 16 #[geo 32 3 4, .string ⟨#[]⟩] w fun e w' => ∃ g ib ic v, e = .returned (.tuple #[.pointer (some ⟨g, 0, none⟩), .int .i64 0]) ∧ FlS w w' g ib ic 32 3 4 sD v :=
  new_S tinyR ⟨#[]⟩ (by decide) w
set_option maxHeartbeats 3200000 in
theorem salive (w : World) : Calls Try.prog 9 #[] w fun e w' => e = .returned (.bool true) ∧ Kp w w' := by
  have HRG := Lib.hid (fun (w0 W : World) g ib ic v (h : FlS w0 W g ib ic 32 3 4 sD v) => sregion_up h.at_ h.ok rfl 2 2 rfl (by decide) (by decide))
  rw [sD_reg] at HRG
  have HAL := Lib.hid (fun (w0 W : World) g ib ic v (h : FlS w0 W g ib ic 32 3 4 sD v) => sall_up h.at_ h.ok rfl)
  go_enter Try.func9, Try.ntmps9
  go_wp2_with fail
  refine (snew0 _).mono ?_
  rintro e w1 ⟨g, ib, ic, v, rfl, h1⟩
  go_wp2_with fail
  refine (HRG.out _ _ _ _ _ _ h1).mono ?_
  rintro e w2 ⟨fv, rfl, ho, hk2⟩
  have hx := Bk.new w2 44 [.int .i64 2, .int .u32 0, fv, .bool true]
  have h2 := (h1.keep hk2).keep (Kp.one w2 (.cells #[.int .i64 2, .int .u32 0, fv, .bool true] 44))
  obtain ⟨A1, c1, rfl⟩ := own_slice ho
  go_wp2_with fail
  refine (HAL.out _ _ _ _ _ _ h2).mono ?_
  rintro e w3 ⟨fv3, l, rfl, hl, ⟨ho3, -⟩, hk3⟩
  obtain ⟨A3, c3, rfl⟩ := own_slice ho3
  have hll : l.length = 4 := by rw [← List.length_map (f := Prod.fst), hl, allF2_len]; rfl
  rw [hll]
  have hx3 := hx.keep hk3
  obtain ⟨x0, x1, x2, x3⟩ := hx3.c4g
  have hkF := h2.kp.trans hk3
  clear hl ho3 hx
  go_wp2_with fail
  go_ret
  exact ⟨rfl, hkF⟩
end Go.Proofs.Ytecelmhiffcaeaa
