/- A region that draws its order, whose first operations read or call (whatever the callees make, as long as a class of worlds is kept), and whose last ones write. -/
import Derived.Test.YtinkookmjnflhaaBase
import Derived.StillTail
namespace Go.Proofs.Ytinkookmjnflhaa
open Go.RowKit
set_option linter.unusedVariables false

section
variable {P : Program} {md : Region.Mode} {C : World → Prop} {pre tail : List Oper}

/-- An operation that hangs on no world. -/
theorem quiet_pure {x : Value} {C : World → Prop} {K : Act → Prop} {F : Value → Act} (h : K (F x)) : ∃ v, (∀ w, C w → x = v) ∧ K (F v) := ⟨x, fun _ _ => rfl, h⟩
/-- What has come up, of the first operations, seen among all of them. -/
def wide (l : Array Bool) (g : Nat) : Array Bool := l ++ Array.replicate g false
theorem wide_getD (l : Array Bool) (g k : Nat) : (wide l g).getD k false = l.getD k false := by
  unfold wide
  by_cases h : k < l.size
  · simp [Array.getD, h]; intro h2; omega
  · by_cases h2 : k < l.size + g
    · simp [Array.getD, h, h2]
      rw [Array.getElem_append_right (by omega)]; simp
    · simp [Array.getD, h, h2]
theorem wide_getD_lt (l : Array Bool) (g k : Nat) (h : k < l.size) : (wide l g).getD k true = l.getD k true := by
  unfold wide
  simp [Array.getD, h]; intro h2; omega
theorem wide_set (l : Array Bool) (g i : Nat) (h : i < l.size) : (wide l g).setIfInBounds i true = wide (l.setIfInBounds i true) g := by
  unfold wide
  exact Array.setIfInBounds_append_left h
theorem ready_wide {l : Array Bool} {i : Nat} (hl : l.size = pre.length) (hi : i < pre.length) :
    i ∈ Region.ready md (pre ++ tail).toArray (wide l tail.length) ↔ i ∈ Region.ready md pre.toArray l := by
  rw [mem_ready, mem_ready, wide_getD_lt _ _ _ (by omega)]
  have e : (pre ++ tail).toArray[i]? = pre.toArray[i]? := by simp [List.getElem?_append_left hi]
  rw [e]
  simp only [wide_getD]
/-- Edges of the first operations go back; their guards lie among them. -/
def headB (md : Region.Mode) (pre : List Oper) : Bool :=
  pre.zipIdx.all fun x => (x.1.after.all fun e => !Region.binds md e || decide (e.on < x.2)) && (match x.1.guard with | none => true | some (k, _) => decide (k < pre.length))
theorem headB_spec (h : headB md pre = true) {j : Nat} {o : Oper} (ho : pre[j]? = some o) :
    (∀ e ∈ o.after, Region.binds md e = true → e.on < j) ∧ (∀ k b, o.guard = some (k, b) → k < pre.length) := by
  have hm : (o, j) ∈ pre.zipIdx := by rw [List.mem_zipIdx_iff_getElem?]; exact ho
  have := List.all_eq_true.1 h _ hm
  simp only [Bool.and_eq_true] at this
  refine ⟨fun e he hb => ?_, fun k b hg => ?_⟩
  · have := (Array.all_eq_true'.1 this.1) e he
    simp only [hb, Bool.not_true, Bool.false_or, decide_eq_true_eq] at this
    exact this
  · have h2 := this.2
    rw [hg] at h2
    simpa using h2
theorem wanted_wide {o : Oper} (hg : ∀ k b, o.guard = some (k, b) → k < pre.length) (t : Array Value) :
    Region.wanted o (yielded (pre ++ tail).toArray t) = Region.wanted o (yielded pre.toArray t) := by
  unfold Region.wanted
  rcases hgo : o.guard with _ | ⟨k, b⟩
  · rfl
  · have hk := hg k b hgo
    have e : (pre ++ tail).toArray[k]? = pre.toArray[k]? := by simp [List.getElem?_append_left hk]
    simp only [yielded, e]
/-- Where one is left, one may come up. -/
theorem some_ready (h : headB md pre = true) {l : Array Bool} (hl : l.size = pre.length) : ∀ (i : Nat), i < pre.length → l.getD i true = false → ∃ j, j ∈ Region.ready md pre.toArray l := by
  intro i
  induction i using Nat.strongRecOn with
  | _ i ih =>
    intro hi hun
    by_cases hr : i ∈ Region.ready md pre.toArray l
    · exact ⟨i, hr⟩
    · have hoi : pre[i]? = some pre[i] := List.getElem?_eq_getElem hi
      rw [mem_ready] at hr
      have : ¬ ∀ e ∈ pre[i].after, Region.binds md e = true → l.getD e.on false = true := fun hall => hr ⟨hun, pre[i], by simp, hall⟩
      simp only [Classical.not_forall] at this
      obtain ⟨e, he, hb, hne⟩ := this
      have hlt := (headB_spec h hoi).1 e he hb
      have hes : e.on < l.size := by omega
      refine ih e.on hlt (by omega) ?_
      simp [Array.getD, hes] at hne ⊢
      exact hne
theorem all_true {l : Array Bool} (h : l.toList.count false = 0) : l = Array.replicate l.size true := by
  apply Array.ext
  · simp
  · intro i h1 h2
    have hm : false ∉ l.toList := List.count_eq_zero.1 h
    simp
    rcases hb : l[i] with _ | _
    · exact absurd (by rw [← hb]; simp) hm
    · rfl

theorem tail_any (hB : headB md pre = true) (hs : Region.sinkB md (pre ++ tail).toArray pre.length = true) (hc : Region.chainB md (pre ++ tail).toArray pre.length = true) (ht : 0 < tail.length)
    {QT : Act → Prop} {Q : Exit → Act → World → Prop}
    (hfin : ∀ a w, C w → QT a → wpAny P md (pre ++ tail).toArray Q tail.length (wide (Array.replicate pre.length true) tail.length) a w) :
    ∀ (fuel : Nat) (l : Array Bool) (a : Act) (w : World), l.size = pre.length → l.toList.count false = fuel → HeadInv md (pre ++ tail).toArray pre.length (wide l tail.length) → C w →
      wpAnyQ P md pre.toArray C QT fuel l a → wpAny P md (pre ++ tail).toArray Q (fuel + tail.length) (wide l tail.length) a w := by
  intro fuel
  induction fuel with
  | zero =>
    intro l a w hl hn inv hw h
    rw [all_true hn, hl, Nat.zero_add]
    exact hfin a w hw h.2
  | succ fuel ih =>
    intro l a w hl hn inv hw h
    obtain ⟨i0, hi0, hun0⟩ : ∃ i, i < pre.length ∧ l.getD i true = false := by
      have hm : false ∈ l.toList := List.count_pos_iff.1 (by omega)
      obtain ⟨i, hi, e⟩ := List.mem_iff_getElem.1 hm
      have hi' : i < l.size := by simpa using hi
      refine ⟨i, by omega, ?_⟩
      simp [Array.getD, hi']
      simpa using e
    have hno := tail_waits hs hc (by simp; omega) inv _ i0 rfl hi0 (by rw [wide_getD_lt _ _ _ (by omega)]; exact hun0)
    rw [show fuel + 1 + tail.length = (fuel + tail.length) + 1 by omega]
    refine ⟨fun h0 => ?_, fun i hi => ?_⟩
    · obtain ⟨j, hj⟩ := some_ready hB hl i0 hi0 hun0
      have hjl : j < pre.length := by
        obtain ⟨_, o, ho, _⟩ := mem_ready.1 hj
        have := (Array.getElem?_eq_some_iff.1 ho).1
        simpa using this
      have := (ready_wide (tail := tail) hl hjl).2 hj
      rw [h0] at this
      cases this
    · have hil : i < pre.length := by
        rcases Nat.lt_or_ge i pre.length with h1 | h1
        · exact h1
        · exact absurd hi (hno i h1)
      have hi' := (ready_wide hl hil).1 hi
      have hun := (mem_ready.1 hi').1
      have hq := h.2 i hi'
      have inv' := inv.set hi hil
      rw [wide_set _ _ _ (by omega)] at inv' ⊢
      have hls : (l.setIfInBounds i true).size = pre.length := by simpa using hl
      have hcn : (l.setIfInBounds i true).toList.count false = fuel := by
        have hi9 : i < l.size := by omega
        have hi8 : i < l.toList.length := by simpa using hi9
        rw [Array.toList_setIfInBounds, List.count_set hi8]
        have hli : l.toList[i] = false := by simpa [Array.getD, hi9] using hun
        rw [hli, hn]
        simp
      have key : wpOp P pre.toArray Q i (wpAny P md (pre ++ tail).toArray Q (fuel + tail.length) (wide (l.setIfInBounds i true) tail.length)) a w :=
        wpOp_of_qOp hw (fun a' w' hw' hk => ih _ a' w' hls hcn inv' hw' hk) hq
      unfold wpOp at key ⊢
      have e : (pre ++ tail).toArray[i]? = pre.toArray[i]? := by simp [List.getElem?_append_left hil]
      rw [e]
      have hoi : pre.toArray[i]? = some pre[i] := by simp
      rw [hoi] at key ⊢
      simp only [wanted_wide (headB_spec hB (List.getElem?_eq_getElem hil)).2] at key ⊢
      exact key

/-- All that is asked of the operations themselves. -/
def splitB (md : Region.Mode) (pre tail : List Oper) : Bool :=
  headB md pre && Region.sinkB md (pre ++ tail).toArray pre.length && Region.chainB md (pre ++ tail).toArray pre.length && decide (0 < tail.length) && Region.lexB md pre.toArray &&
    Region.seqB md (pre ++ tail).toArray tail.length pre.length (wide (Array.replicate pre.length true) tail.length)

theorem wp_region_head {id : Nat} {Q : Exit → Act → World → Prop} {a : Act} {w : World} {l : List Oper} (n : Nat) (hm : P.follows .mixedOrders = true) (hB : splitB .any (l.take n) (l.drop n) = true) (hC : C w.drew)
    (h : wpQuiet P (l.take n).toArray C (fun a' => ∀ w', C w' → wpList P l.toArray Q (l.drop n) a' w') (l.take n) a) : (Code.region id l.toArray true).wp P Q a w := by
  obtain ⟨pre, hpre⟩ : ∃ pre, pre = l.take n := ⟨_, rfl⟩
  obtain ⟨tail, htail⟩ : ∃ tail, tail = l.drop n := ⟨_, rfl⟩
  have hl : l = pre ++ tail := by rw [hpre, htail, List.take_append_drop]
  rw [← hpre, ← htail] at hB h
  rw [hl] at h ⊢
  clear hpre htail hl
  simp only [splitB, Bool.and_eq_true, decide_eq_true_eq] at hB
  obtain ⟨⟨⟨⟨⟨h1, h2⟩, h3⟩, h4⟩, h5⟩, h6⟩ := hB
  simp only [Region.lexB, Bool.and_eq_true] at h5
  have hq := wpAnyQ_lex (C := C) (md := .any) h5.1 pre 0 (Array.replicate pre.length false) a (by simp) (by simpa using h5.2) h
  have hw0 : wide (Array.replicate pre.length false) tail.length = Array.replicate (pre ++ tail).toArray.size false := by
    unfold wide; simp [Array.replicate_append_replicate]
  have inv0 : HeadInv .any (pre ++ tail).toArray pre.length (wide (Array.replicate pre.length false) tail.length) := by
    rw [hw0]
    exact ⟨by simp, fun j oj _ hl => (by rw [getD_replicate_false] at hl; cases hl), fun t _ ht => getD_in (by simpa using ht) (getD_replicate_false _ _)⟩
  have H := tail_any (P := P) (C := C) h1 h2 h3 h4 (Q := Q) (QT := fun a' => ∀ w', C w' → wpList P (pre ++ tail).toArray Q tail a' w')
    (fun a' w' hw' hk => wpAny_of_seq tail pre.length _ a' w' (fun j => by rw [List.getElem?_toArray, List.getElem?_append_right (by omega)]; congr 1; omega) h6 (hk w' hw')) pre.length (Array.replicate pre.length false) a w.drew (by simp) (by simp) inv0 hC hq
  refine wp_region_any hm ?_
  rw [hw0] at H
  have e : pre.length + tail.length = (pre ++ tail).toArray.size := by simp
  rw [e] at H
  exact H
theorem wp_region_quietC {id : Nat} {Q : Exit → Act → World → Prop} {a : Act} {w : World} {l : List Oper} (hm : P.follows .mixedOrders = true) (hB : Region.lexB .any l.toArray = true) (hC : C w.drew)
    (h : wpQuiet P l.toArray C (fun a' => ∀ w', C w' → Q .normal a' w') l a) : (Code.region id l.toArray true).wp P Q a w :=
  wp_region_quiet (C := C) hm hB hC (by simpa using h)
end
end Go.Proofs.Ytinkookmjnflhaa
