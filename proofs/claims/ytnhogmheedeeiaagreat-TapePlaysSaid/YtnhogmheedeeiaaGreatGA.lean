/- Merged texts: Base, Pick, Tail, Open, CrcMath, CrcWalk, Fill, Bytes, Geom, Geom2, Rel, Put, Slices, Blank, Small, Mv, OpenN, Rel2, Rel3. -/
import Derived.Test.YtnhogmheedeeiaaGreatProg
import Derived.WalkKit
import Derived.WalkSpells
import Derived.WalkLawsBesides
import Derived.Lib.Hide
import Derived.Deep.QuietTactic
import Derived.BigQuiet
import Derived.StillTail
import Derived.ProofKit
import Derived.OpenShut
import Derived.ShutString
import Derived.SizedLaws
import Derived.SliceStrings
import Derived.Lib.SmallJoins
import Derived.Deep.Slices
import Derived.Deep.Fields
import Derived.Laws.BitsAllLaws
import Derived.Laws.ByValue
import Derived.Deep.OwnRows
import Derived.Lib.ConvBytes
import Derived.Deep.RegionHeld3
import Derived.Maps.AppendAt
import Derived.OwnWalk
set_option linter.unusedSimpArgs false
set_option linter.unusedVariables false
/- Small words: what a call leaves of old memory; strings and their bytes. -/
namespace Go.Proofs.YtnhogmheedeeiaaGreat
open Go.RowKit

/-- Nothing that was there has turned. -/
def Kp (w w' : World) : Prop := Below w.heap.size w w'
theorem Kp.refl (w : World) : Kp w w := Below.refl _ _
theorem Kp.trans {a b c : World} (h : Kp a b) (k : Kp b c) : Kp a c := Below.trans h (Below.mono k h.size)
theorem Kp.alloc {a b : World} (h : Kp a b) (o : Obj) : Kp a (b.alloc o) := Below.alloc h h.size o
theorem Kp.drew {a b : World} (h : Kp a b) : Kp a b.drew := Below.drew h
theorem Kp.drewN {a b : World} (h : Kp a b) (n : Nat) : Kp a (b.drewN n) := ⟨h.os, h.tape, h.output, h.size, h.block⟩
theorem Kp.size {a b : World} (h : Kp a b) : a.heap.size ≤ b.heap.size := Below.size h
theorem Kp.cell {a b : World} (h : Kp a b) {p : Addr} {v : Value} (hc : a.cell? p = some v) : b.cell? p = some v :=
  (Below.cell h (World.block_lt_of_cell? a p hc)).trans hc
theorem Kp.set {a b : World} (h : Kp a b) {p : Addr} (hp : a.heap.size ≤ p.block) (v : Value) : Kp a (b.setCell p v) := Below.setCell h hp v
theorem Kp.grown {a b c : World} (h : Kp a b) {row : Option Nat} (hg : b.grownBy c row) (hr : ∀ k, row = some k → a.heap.size ≤ k) : Kp a c := Below.grown h hg h.size hr
theorem Kp.one (w : World) (o : Obj) : Kp w (w.alloc o) := (Kp.refl w).alloc o

/-- A slice of texts, nil let in. -/
def TextsAt (w : World) (A : Option Addr) (ss : List ByteArray) : Prop :=
  ss.length ≤ 9223372036854775807 ∧ (∀ s ∈ ss, s.size ≤ 9223372036854775807) ∧ (0 < ss.length → ∃ ad, A = some ad ∧ ∀ j (h : j < ss.length), w.cell? (ad.add j) = some (.string ss[j]))
theorem TextsAt.keep {w w' : World} {A : Option Addr} {ss : List ByteArray} (h : TextsAt w A ss) (k : Kp w w') : TextsAt w' A ss :=
  ⟨h.1, h.2.1, fun hn => by
    obtain ⟨ad, e, hc⟩ := h.2.2 hn
    exact ⟨ad, e, fun j hj => k.cell (hc j hj)⟩⟩

/-- The bytes of a string, as numbers. -/
def nb (s : ByteArray) : List Nat := s.data.toList.map UInt8.toNat
theorem nb_len (s : ByteArray) : (nb s).length = s.size := by rw [nb, List.length_map, Array.length_toList]; rfl
theorem nb_lt (s : ByteArray) : ∀ b ∈ nb s, b < 256 := by
  intro b hb
  obtain ⟨u, _, rfl⟩ := List.mem_map.1 hb
  exact u.toNat_lt
theorem nb_take (s : ByteArray) (k : Nat) (h : k < s.size) : (nb s).take (k + 1) = (nb s).take k ++ [s[k].toNat] := by
  rw [List.take_succ_eq_append_getElem (by rw [nb_len]; exact h)]
  simp [nb]
  rfl
theorem nb_append (a b : ByteArray) : nb (a ++ b) = nb a ++ nb b := by simp [nb, ByteArray.data_append]
theorem nb_inj {a b : ByteArray} (h : nb a = nb b) : a = b := by
  have h1 : a.data.toList = b.data.toList := by
    have inj : Function.Injective UInt8.toNat := fun x y e => UInt8.toNat_inj.1 e
    exact (List.map_inj_right (fun x y e => inj e)).1 h
  exact ByteArray.ext (Array.toList_inj.1 h1)
/-- The byte at a place, 0 behind the end. -/
def byteAt (s : ByteArray) (i : Nat) : Nat := (nb s).getD i 0
theorem byteAt_get (s : ByteArray) (i : Nat) (h : i < s.size) : byteAt s i = s[i].toNat := by
  unfold byteAt
  rw [List.getD_eq_getElem?_getD, List.getElem?_eq_getElem (by rw [nb_len]; exact h)]
  simp [nb]
  rfl
theorem byteAt_lt (s : ByteArray) (i : Nat) : byteAt s i < 256 := by
  by_cases h : i < s.size
  · rw [byteAt_get s i h]; exact s[i].toNat_lt
  · unfold byteAt
    rw [List.getD_eq_getElem?_getD, List.getElem?_eq_none (by rw [nb_len]; omega)]
    decide
theorem byteAt_drop (s : ByteArray) (k i : Nat) (h : k ≤ s.size) : byteAt (s.extract k s.size) i = byteAt s (k + i) := by
  unfold byteAt nb
  rw [ByteArray.data_extract]
  simp [List.getD_eq_getElem?_getD, Array.toList_extract, List.extract, List.getElem?_take, List.getElem?_drop]
  by_cases hi : i < s.size - k
  · rw [if_pos hi]
  · rw [if_neg hi, Array.getElem?_eq_none (by show s.size ≤ _; omega)]
    rfl

/-- Block g is just these cells, none of them frozen. -/
def Bk (w : World) (g : Nat) (t : TypeId) (cs : List Value) : Prop := w.heap[g]? = some (.cells cs.toArray t (0, 0))
section
variable {w w' : World} {g : Nat} {t : TypeId} {cs : List Value}
theorem Bk.lt (h : Bk w g t cs) : g < w.heap.size := (Array.getElem?_eq_some_iff.1 h).1
theorem Bk.cell (h : Bk w g t cs) (i : Nat) : w.cell? ⟨g, i, none⟩ = cs[i]? := by
  have := cell_of_row w g i cs.toArray t (0, 0) h
  simpa using this
theorem Bk.free (h : Bk w g t cs) (i : Nat) : w.frozen? ⟨g, i, none⟩ = false := by
  unfold Bk at h
  simp [World.frozen?, h]
theorem Bk.new (w : World) (t : TypeId) (cs : List Value) : Bk (w.alloc (.cells cs.toArray t)) w.heap.size t cs := heap_alloc_new w _
theorem Bk.drew (h : Bk w g t cs) : Bk w.drew g t cs := h
theorem Bk.drewN (h : Bk w g t cs) (n : Nat) : Bk (w.drewN n) g t cs := h
theorem Bk.alloc (h : Bk w g t cs) (o : Obj) : Bk (w.alloc o) g t cs := (Below.heap_alloc w o g h.lt).trans h
theorem Bk.put (h : Bk w g t cs) (i : Nat) (u : Value) : Bk (w.setCell ⟨g, i, none⟩ u) g t (cs.set i u) := by
  unfold Bk at h ⊢
  simp [World.setCell, Array.getElem?_modify, h]
theorem Bk.far (h : Bk w g t cs) {p : Addr} (hp : g ≠ p.block) (u : Value) : Bk (w.setCell p u) g t cs := (Below.heap_setCell w p u g hp).trans h
theorem Bk.keep (h : Bk w g t cs) (k : Kp w w') : Bk w' g t cs := (Below.block k g h.lt).trans h
end
end Go.Proofs.YtnhogmheedeeiaaGreat
/- The contract of cachepotbook.Pick; two small closers. -/
namespace Go.Proofs.YtnhogmheedeeiaaGreat
open Go.RowKit
set_option linter.unusedVariables false
set_option maxRecDepth 20000

theorem ret_bool {a b : Bool} (h : a = b) : Ending.returned (.bool a) = .returned (.bool b) := by rw [h]
theorem ret_int {k : IntKind} {a b : Int} (h : a = b) : Ending.returned (.int k a) = .returned (.int k b) := by rw [h]

theorem emod_of_tmod (n m : Int) (hm : 0 < m) : n % m = if n.tmod m < 0 then n.tmod m + m else n.tmod m := by
  have h1 := Int.tmod_lt_of_pos n hm
  have h2 := Int.lt_tmod_of_pos n hm
  have h3 := Int.tmod_add_mul_tdiv n m
  generalize n.tmod m = x at *
  generalize n.tdiv m = q at *
  subst h3
  rw [Int.add_mul_emod_self_left]
  split
  · rw [← Int.add_emod_right, Int.emod_eq_of_lt (by omega) (by omega)]
  · rw [Int.emod_eq_of_lt (by omega) (by omega)]

set_option maxHeartbeats 400000 in
theorem pick_any (n m : Int) (hm : 0 < m) (hm2 : m ≤ 1000000000) (h1 : -9223372036854775808 ≤ n) (h2 : n ≤ 9223372036854775807) (w : World) :
    Calls Tryz.prog 7 #[.int .i64 n, .int .i64 m] w fun e w' => e = .returned (.int .i64 (n % m)) ∧ w = w' := by
  go_enter Tryz.func7, Tryz.ntmps7
  have hb1 := Int.tmod_lt_of_pos n hm
  have hb2 := Int.lt_tmod_of_pos n hm
  have he := Lib.hid (emod_of_tmod n m hm)
  go_wp2
  all_goals go_ret
  · have hneg : n.tmod m < 0 := by assumption
    exact ⟨by rw [he.out, if_pos hneg]; rfl, rfl⟩
  · have hpos : 0 ≤ n.tmod m := by assumption
    exact ⟨by rw [he.out, if_neg (by omega)]; rfl, rfl⟩

end Go.Proofs.YtnhogmheedeeiaaGreat
/- A region that draws its order, whose first operations read or call (whatever the callees make, as long as a class of worlds is kept), and whose last ones write. -/
namespace Go.Proofs.YtnhogmheedeeiaaGreat
open Go.RowKit
set_option linter.unusedVariables false
set_option maxRecDepth 20000

section
variable {P : Program} {md : Region.Mode} {C : World → Prop} {pre tail : List Oper}

/-- An operation that hangs on no world. -/
theorem quiet_pure {x : Value} {C : World → Prop} {K : Act → Prop} {F : Value → Act} (h : K (F x)) : ∃ v, (∀ w, C w → x = v) ∧ K (F v) := ⟨x, fun _ _ => rfl, h⟩
/-- What has come up, of the first operations, seen among all of them. -/
def wide (l : Array Bool) (g : Nat) : Array Bool := l ++ Array.replicate g false
theorem wide_getD (l : Array Bool) (g k : Nat) : (wide l g).getD k false = l.getD k false := by
  unfold wide
  by_cases h : k < l.size
  · simp [Array.getD, h]; intro h2; omega
  · by_cases h2 : k < l.size + g
    · simp [Array.getD, h, h2]
      rw [Array.getElem_append_right (by omega)]; simp
    · simp [Array.getD, h, h2]
theorem wide_getD_lt (l : Array Bool) (g k : Nat) (h : k < l.size) : (wide l g).getD k true = l.getD k true := by
  unfold wide
  simp [Array.getD, h]; intro h2; omega
theorem wide_set (l : Array Bool) (g i : Nat) (h : i < l.size) : (wide l g).setIfInBounds i true = wide (l.setIfInBounds i true) g := by
  unfold wide
  exact Array.setIfInBounds_append_left h
theorem ready_wide {l : Array Bool} {i : Nat} (hl : l.size = pre.length) (hi : i < pre.length) :
    i ∈ Region.ready md (pre ++ tail).toArray (wide l tail.length) ↔ i ∈ Region.ready md pre.toArray l := by
  rw [mem_ready, mem_ready, wide_getD_lt _ _ _ (by omega)]
  have e : (pre ++ tail).toArray[i]? = pre.toArray[i]? := by simp [List.getElem?_append_left hi]
  rw [e]
  simp only [wide_getD]
/-- Edges of the first operations go back; their guards lie among them. -/
def headB (md : Region.Mode) (pre : List Oper) : Bool :=
  pre.zipIdx.all fun x => (x.1.after.all fun e => !Region.binds md e || decide (e.on < x.2)) && (match x.1.guard with | none => true | some (k, _) => decide (k < pre.length))
theorem headB_spec (h : headB md pre = true) {j : Nat} {o : Oper} (ho : pre[j]? = some o) :
    (∀ e ∈ o.after, Region.binds md e = true → e.on < j) ∧ (∀ k b, o.guard = some (k, b) → k < pre.length) := by
  have hm : (o, j) ∈ pre.zipIdx := by rw [List.mem_zipIdx_iff_getElem?]; exact ho
  have := List.all_eq_true.1 h _ hm
  simp only [Bool.and_eq_true] at this
  refine ⟨fun e he hb => ?_, fun k b hg => ?_⟩
  · have := (Array.all_eq_true'.1 this.1) e he
    simp only [hb, Bool.not_true, Bool.false_or, decide_eq_true_eq] at this
    exact this
  · have h2 := this.2
    rw [hg] at h2
    simpa using h2
theorem wanted_wide {o : Oper} (hg : ∀ k b, o.guard = some (k, b) → k < pre.length) (t : Array Value) :
    Region.wanted o (yielded (pre ++ tail).toArray t) = Region.wanted o (yielded pre.toArray t) := by
  unfold Region.wanted
  rcases hgo : o.guard with _ | ⟨k, b⟩
  · rfl
  · have hk := hg k b hgo
    have e : (pre ++ tail).toArray[k]? = pre.toArray[k]? := by simp [List.getElem?_append_left hk]
    simp only [yielded, e]
/-- Where one is left, one may come up. -/
theorem some_ready (h : headB md pre = true) {l : Array Bool} (hl : l.size = pre.length) : ∀ (i : Nat), i < pre.length → l.getD i true = false → ∃ j, j ∈ Region.ready md pre.toArray l := by
  intro i
  induction i using Nat.strongRecOn with
  | _ i ih =>
    intro hi hun
    by_cases hr : i ∈ Region.ready md pre.toArray l
    · exact ⟨i, hr⟩
    · have hoi : pre[i]? = some pre[i] := List.getElem?_eq_getElem hi
      rw [mem_ready] at hr
      have : ¬ ∀ e ∈ pre[i].after, Region.binds md e = true → l.getD e.on false = true := fun hall => hr ⟨hun, pre[i], by simp, hall⟩
      simp only [Classical.not_forall] at this
      obtain ⟨e, he, hb, hne⟩ := this
      have hlt := (headB_spec h hoi).1 e he hb
      have hes : e.on < l.size := by omega
      refine ih e.on hlt (by omega) ?_
      simp [Array.getD, hes] at hne ⊢
      exact hne
theorem all_true {l : Array Bool} (h : l.toList.count false = 0) : l = Array.replicate l.size true := by
  apply Array.ext
  · simp
  · intro i h1 h2
    have hm : false ∉ l.toList := List.count_eq_zero.1 h
    simp
    rcases hb : l[i] with _ | _
    · exact absurd (by rw [← hb]; simp) hm
    · rfl

theorem tail_any (hB : headB md pre = true) (hs : Region.sinkB md (pre ++ tail).toArray pre.length = true) (hc : Region.chainB md (pre ++ tail).toArray pre.length = true) (ht : 0 < tail.length)
    {QT : Act → Prop} {Q : Exit → Act → World → Prop}
    (hfin : ∀ a w, C w → QT a → wpAny P md (pre ++ tail).toArray Q tail.length (wide (Array.replicate pre.length true) tail.length) a w) :
    ∀ (fuel : Nat) (l : Array Bool) (a : Act) (w : World), l.size = pre.length → l.toList.count false = fuel → HeadInv md (pre ++ tail).toArray pre.length (wide l tail.length) → C w →
      wpAnyQ P md pre.toArray C QT fuel l a → wpAny P md (pre ++ tail).toArray Q (fuel + tail.length) (wide l tail.length) a w := by
  intro fuel
  induction fuel with
  | zero =>
    intro l a w hl hn inv hw h
    rw [all_true hn, hl, Nat.zero_add]
    exact hfin a w hw h.2
  | succ fuel ih =>
    intro l a w hl hn inv hw h
    obtain ⟨i0, hi0, hun0⟩ : ∃ i, i < pre.length ∧ l.getD i true = false := by
      have hm : false ∈ l.toList := List.count_pos_iff.1 (by omega)
      obtain ⟨i, hi, e⟩ := List.mem_iff_getElem.1 hm
      have hi' : i < l.size := by simpa using hi
      refine ⟨i, by omega, ?_⟩
      simp [Array.getD, hi']
      simpa using e
    have hno := tail_waits hs hc (by simp; omega) inv _ i0 rfl hi0 (by rw [wide_getD_lt _ _ _ (by omega)]; exact hun0)
    rw [show fuel + 1 + tail.length = (fuel + tail.length) + 1 by omega]
    refine ⟨fun h0 => ?_, fun i hi => ?_⟩
    · obtain ⟨j, hj⟩ := some_ready hB hl i0 hi0 hun0
      have hjl : j < pre.length := by
        obtain ⟨_, o, ho, _⟩ := mem_ready.1 hj
        have := (Array.getElem?_eq_some_iff.1 ho).1
        simpa using this
      have := (ready_wide (tail := tail) hl hjl).2 hj
      rw [h0] at this
      cases this
    · have hil : i < pre.length := by
        rcases Nat.lt_or_ge i pre.length with h1 | h1
        · exact h1
        · exact absurd hi (hno i h1)
      have hi' := (ready_wide hl hil).1 hi
      have hun := (mem_ready.1 hi').1
      have hq := h.2 i hi'
      have inv' := inv.set hi hil
      rw [wide_set _ _ _ (by omega)] at inv' ⊢
      have hls : (l.setIfInBounds i true).size = pre.length := by simpa using hl
      have hcn : (l.setIfInBounds i true).toList.count false = fuel := by
        have hi9 : i < l.size := by omega
        have hi8 : i < l.toList.length := by simpa using hi9
        rw [Array.toList_setIfInBounds, List.count_set hi8]
        have hli : l.toList[i] = false := by simpa [Array.getD, hi9] using hun
        rw [hli, hn]
        simp
      have key : wpOp P pre.toArray Q i (wpAny P md (pre ++ tail).toArray Q (fuel + tail.length) (wide (l.setIfInBounds i true) tail.length)) a w :=
        wpOp_of_qOp hw (fun a' w' hw' hk => ih _ a' w' hls hcn inv' hw' hk) hq
      unfold wpOp at key ⊢
      have e : (pre ++ tail).toArray[i]? = pre.toArray[i]? := by simp [List.getElem?_append_left hil]
      rw [e]
      have hoi : pre.toArray[i]? = some pre[i] := by simp
      rw [hoi] at key ⊢
      simp only [wanted_wide (headB_spec hB (List.getElem?_eq_getElem hil)).2] at key ⊢
      exact key

/-- All that is asked of the operations themselves. -/
def splitB (md : Region.Mode) (pre tail : List Oper) : Bool :=
  headB md pre && Region.sinkB md (pre ++ tail).toArray pre.length && Region.chainB md (pre ++ tail).toArray pre.length && decide (0 < tail.length) && Region.lexB md pre.toArray &&
    Region.seqB md (pre ++ tail).toArray tail.length pre.length (wide (Array.replicate pre.length true) tail.length)

theorem wp_region_head {id : Nat} {Q : Exit → Act → World → Prop} {a : Act} {w : World} {l : List Oper} (n : Nat) (hm : P.follows .mixedOrders = true) (hB : splitB .any (l.take n) (l.drop n) = true) (hC : C w.drew)
    (h : wpQuiet P (l.take n).toArray C (fun a' => ∀ w', C w' → wpList P l.toArray Q (l.drop n) a' w') (l.take n) a) : (Code.region id l.toArray true).wp P Q a w := by
  obtain ⟨pre, hpre⟩ : ∃ pre, pre = l.take n := ⟨_, rfl⟩
  obtain ⟨tail, htail⟩ : ∃ tail, tail = l.drop n := ⟨_, rfl⟩
  have hl : l = pre ++ tail := by rw [hpre, htail, List.take_append_drop]
  rw [← hpre, ← htail] at hB h
  rw [hl] at h ⊢
  clear hpre htail hl
  simp only [splitB, Bool.and_eq_true, decide_eq_true_eq] at hB
  obtain ⟨⟨⟨⟨⟨h1, h2⟩, h3⟩, h4⟩, h5⟩, h6⟩ := hB
  simp only [Region.lexB, Bool.and_eq_true] at h5
  have hq := wpAnyQ_lex (C := C) (md := .any) h5.1 pre 0 (Array.replicate pre.length false) a (by simp) (by simpa using h5.2) h
  have hw0 : wide (Array.replicate pre.length false) tail.length = Array.replicate (pre ++ tail).toArray.size false := by
    unfold wide; simp [Array.replicate_append_replicate]
  have inv0 : HeadInv .any (pre ++ tail).toArray pre.length (wide (Array.replicate pre.length false) tail.length) := by
    rw [hw0]
    exact ⟨by simp, fun j oj _ hl => (by rw [getD_replicate_false] at hl; cases hl), fun t _ ht => getD_in (by simpa using ht) (getD_replicate_false _ _)⟩
  have H := tail_any (P := P) (C := C) h1 h2 h3 h4 (Q := Q) (QT := fun a' => ∀ w', C w' → wpList P (pre ++ tail).toArray Q tail a' w')
    (fun a' w' hw' hk => wpAny_of_seq tail pre.length _ a' w' (fun j => by rw [List.getElem?_toArray, List.getElem?_append_right (by omega)]; congr 1; omega) h6 (hk w' hw')) pre.length (Array.replicate pre.length false) a w.drew (by simp) (by simp) inv0 hC hq
  refine wp_region_any hm ?_
  rw [hw0] at H
  have e : pre.length + tail.length = (pre ++ tail).toArray.size := by simp
  rw [e] at H
  exact H
theorem wp_region_quietC {id : Nat} {Q : Exit → Act → World → Prop} {a : Act} {w : World} {l : List Oper} (hm : P.follows .mixedOrders = true) (hB : Region.lexB .any l.toArray = true) (hC : C w.drew)
    (h : wpQuiet P l.toArray C (fun a' => ∀ w', C w' → Q .normal a' w') l a) : (Code.region id l.toArray true).wp P Q a w :=
  wp_region_quiet (C := C) hm hB hC (by simpa using h)
end
end Go.Proofs.YtnhogmheedeeiaaGreat
/- Arguments opened: what a row's proof hands to the walks. -/
namespace Go.Proofs.YtnhogmheedeeiaaGreat
open Go.ChangeShapes Go.WideShapes Go.ChangeAt Go.RowKit
theorem size_of_toList (s : ByteArray) : s.data.toList.length = s.size := by rw [Array.length_toList]; rfl

/-- Each string, slice and map of a reading is within the form's reach. -/
def Sized {H : Type} (P : Program) (t : TypeId) (d : DataW H) : Prop := ∀ n ∈ d.weights P t, n ≤ reachBytes
section
variable {H : Type} {P : Program}
theorem sized_arg {ts : List TypeId} {ds : List (DataW H)} (h : (DataW.weightsEach P ts ds).all (· ≤ reachBytes) = true) {j : Nat} {t : TypeId} {d : DataW H} (ht : ts[j]? = some t) (hd : ds[j]? = some d) : Sized P t d := by
  intro n hn
  have := List.all_eq_true.1 h n (DataW.weights_mem_each ht hd n hn)
  simpa using this
theorem Sized.string {t : TypeId} {bytes : List UInt8} (h : Sized (H := H) P t (.lit (.string bytes))) : bytes.length ≤ 140737488351232 := by
  have := h bytes.length (by simp [DataW.weights])
  simpa [reachBytes] using this
theorem mem_weightsAll {e : TypeId} : ∀ {l : List (DataW H)} {d : DataW H}, d ∈ l → ∀ n ∈ d.weights P e, n ∈ DataW.weightsAll P e l
  | x :: r, d, hd, n, hn => by
    simp only [DataW.weightsAll, List.mem_append]
    rcases List.mem_cons.1 hd with rfl | hd
    · exact .inl hn
    · exact .inr (mem_weightsAll hd n hn)
theorem Sized.slice {t e : TypeId} {elems spare : List (DataW H)} (h : Sized P t (.slice elems spare)) (hu : P.underlying t = some (.slice e)) :
    (elems.length + spare.length) * P.bytesOf e ≤ 140737488351232 ∧ (∀ d ∈ elems, Sized P e d) ∧ ∀ d ∈ spare, Sized P e d := by
  refine ⟨?_, fun d hd n hn => h n ?_, fun d hd n hn => h n ?_⟩
  · have := h ((elems.length + spare.length) * P.bytesOf e) (by simp [DataW.weights, hu])
    simpa [reachBytes] using this
  · simp only [DataW.weights, hu, List.mem_cons, List.mem_append]
    exact .inr (.inl (mem_weightsAll hd n hn))
  · simp only [DataW.weights, hu, List.mem_cons, List.mem_append]
    exact .inr (.inr (mem_weightsAll hd n hn))
theorem Sized.field {t : TypeId} {fs : Array Field} {parts : List (DataW H)} (h : Sized P t (.agg parts)) (hu : P.underlying t = some (.struct fs)) {j : Nat} {f : Field} {d : DataW H} (hf : fs[j]? = some f) (hd : parts[j]? = some d) : Sized P f.type d := by
  intro n hn
  refine h n ?_
  simp only [DataW.weights, hu]
  exact DataW.weights_mem_each (j := j) (by simp [hf]) hd n hn
end

theorem add_none' (b off j : Nat) : (⟨b, off, none⟩ : Addr).add j = ⟨b, off + j, none⟩ := by unfold Addr.add; split <;> simp_all
section
variable {H : Type} {enc : TypeId × Value → H} {P : Program} {w : World} {base : Nat}
/-- A slice of texts that came in. -/
theorem open_texts {r : Reach} {b0 : Nat} {t e : TypeId} (ht : P.underlying t = some (.slice e)) (he : P.underlying e = some .string) (hc : P.cellsOf e = 1) (hby : P.bytesOf e = 16) {v : Value} {d : DataW H} {p : List MemPlace}
    (hs : Sized P t d) (hv : Value.okWide P w r b0 t v) (h : DataW.Trod enc P w base (fun _ => true) true t v d p) :
    ∃ (A : Option Addr) (c : Nat) (ss : List ByteArray), v = .slice A ss.length c ∧ TextsAt w A ss ∧ (∀ s ∈ ss, s.size ≤ 140737488351232) ∧ ss.length * 16 ≤ 140737488351232 ∧
      ((d = .nil ∧ ss = []) ∨ ∃ more, d = .slice (strs ss) more) := by
  obtain ⟨a0, len0, cap0, rfl⟩ := okWide_slice ht hv
  obtain ⟨fuel, hf⟩ := h
  rcases open_strings ht he hc hf with ⟨hcs, hx⟩ | ⟨a, len, cap, ss, hcs, _, hl, hm, hz, hx, hcell, _⟩
  · simp [Value.cells] at hcs
    obtain ⟨rfl, rfl, rfl⟩ := hcs
    simp only [Prod.mk.injEq] at hx
    exact ⟨none, 0, [], rfl, ⟨by simp, by simp, by simp⟩, by simp, by simp, .inl ⟨hx.1, rfl⟩⟩
  · simp [Value.cells] at hcs
    obtain ⟨rfl, rfl, rfl⟩ := hcs
    simp only [Prod.mk.injEq] at hx
    obtain ⟨rfl, _⟩ := hx
    simp only [if_true] at hz
    have hlen : (ss.take len0).length = len0 := by rw [List.length_take]; omega
    obtain ⟨s1, s2, _⟩ := hs.slice ht
    rw [hby] at s1
    simp only [strs, List.length_map, List.length_take, List.length_drop] at s1
    have hel : ∀ s ∈ ss.take len0, s.size ≤ 140737488351232 := fun s hs' => by
      have := (s2 (.lit (.string s.data.toList)) (List.mem_map.2 ⟨s, hs', rfl⟩)).string
      rwa [size_of_toList] at this
    refine ⟨some a, cap0, ss.take len0, by rw [hlen], ⟨by omega, fun s hs' => by have := hel s hs'; omega, fun _ => ⟨a, rfl, fun j hj => ?_⟩⟩, hel, by omega, .inr ⟨_, rfl⟩⟩
    rw [hcell j (by omega)]
    rw [List.getElem_take, List.getD_eq_getElem?_getD, List.getElem?_eq_getElem (by omega)]
    rfl
theorem field_int {t : TypeId} {k : IntKind} {v : Value} {y : DataW H × List MemPlace} {n : Nat} {spare : Nat → Bool} {held : Bool} (ht : P.underlying t = some (.int k)) (h : DataW.trod enc P w base spare held n t [v] = some y) :
    ∃ a, v = .int k a ∧ (Lit.int k a).wf = true ∧ y = (.lit (.int k a), []) := by
  obtain ⟨a, hcs, hy, hw⟩ := DataW.trod_int ht h
  exact ⟨a, by simpa using hcs, hw, hy⟩
theorem field_bool {t : TypeId} {v : Value} {y : DataW H × List MemPlace} {n : Nat} {spare : Nat → Bool} {held : Bool} (ht : P.underlying t = some .bool) (h : DataW.trod enc P w base spare held n t [v] = some y) :
    ∃ a, v = .bool a ∧ y = (.lit (.bool a), []) := by
  obtain ⟨a, hcs, hy⟩ := DataW.trod_bool ht h
  exact ⟨a, by simpa using hcs, hy⟩
theorem field_string {t : TypeId} {v : Value} {y : DataW H × List MemPlace} {n : Nat} {spare : Nat → Bool} {held : Bool} (ht : P.underlying t = some .string) (h : DataW.trod enc P w base spare held n t [v] = some y) :
    ∃ a : ByteArray, v = .string a ∧ y = (.lit (.string a.data.toList), []) := by
  obtain ⟨a, hcs, hy, _⟩ := DataW.trod_string ht h
  exact ⟨a, by simpa using hcs, hy⟩
theorem Sized.str {t : TypeId} {s : ByteArray} (h : Sized (H := H) P t (.lit (.string s.data.toList))) : s.size ≤ 140737488351232 := by
  have := h.string
  rwa [size_of_toList] at this
/-- A slice that came in, whatever its elements: of one reading each ('dat'), of so many cells each ('cells'). -/
theorem open_elems {α : Type} [Inhabited α] {r : Reach} {b0 : Nat} {t e : TypeId} {sz : Nat} (cells : α → List Value) (dat : α → DataW H) (good : α → Prop) (ht : P.underlying t = some (.slice e)) (hC : P.cellsOf e = sz) (hz : 0 < sz)
    (hel : ∀ n cs' x, DataW.trod enc P w base (fun _ => true) true n e cs' = some x → cs'.length = sz → ∃ y, cs' = cells y ∧ x.1 = dat y ∧ good y)
    {v : Value} {d : DataW H} {p : List MemPlace} (hs : Sized P t d) (hv : Value.okWide P w r b0 t v) (h : DataW.Trod enc P w base (fun _ => true) true t v d p) :
    ∃ (A : Option Addr) (c : Nat) (ys : List α), v = .slice A ys.length c ∧ ys.length ≤ 9223372036854775807 ∧ ys.length * P.bytesOf e ≤ 140737488351232 ∧ (∀ y ∈ ys, good y ∧ Sized P e (dat y)) ∧
      (0 < ys.length → ∃ b off, A = some ⟨b, off, none⟩ ∧ ∀ j (h : j < ys.length) i, i < sz → w.cell? ⟨b, off + (j * sz + i), none⟩ = (cells ys[j])[i]?) ∧
      ((d = .nil ∧ ys = []) ∨ ∃ more, d = .slice (ys.map dat) more) := by
  obtain ⟨a0, len0, cap0, rfl⟩ := okWide_slice ht hv
  obtain ⟨fuel, hf⟩ := h
  rcases Go.Deep.open_slice ht hf with ⟨hcs, hx⟩ | ⟨a, len, cap, m, n, D, Pl, hcs, hb, hl, hm, hmm, hx, hi⟩
  · simp [Value.cells] at hcs
    obtain ⟨rfl, rfl, rfl⟩ := hcs
    simp only [Prod.mk.injEq] at hx
    exact ⟨none, 0, [], rfl, by simp, by simp, by simp, by simp, .inl ⟨hx.1, rfl⟩⟩
  · simp [Value.cells] at hcs
    obtain ⟨rfl, rfl, rfl⟩ := hcs
    simp only [Prod.mk.injEq] at hx
    obtain ⟨rfl, _⟩ := hx
    simp only [if_true] at hmm
    subst hmm
    have each : ∀ j, j < len0 → ∃ y : α, D j = dat y ∧ good y ∧ ∀ i, i < sz → w.cell? (a.add (j * sz + i)) = (cells y)[i]? := fun j hj => by
      obtain ⟨cs', hc, htr⟩ := hi j (by omega)
      rw [hC] at hc
      obtain ⟨_, hcl, hat⟩ := World.cells?_some hc
      obtain ⟨y, rfl, hy, hg⟩ := hel n cs' _ htr hcl
      exact ⟨y, hy, hg, fun i hi => by rw [← Go.Deep.add_add]; exact hat i hi⟩
    obtain ⟨F, hF⟩ := Go.Deep.choose_lt each
    have hle : ((List.range len0).map F).length = len0 := by simp
    have hD : (List.range len0).map D = ((List.range len0).map F).map dat := by
      rw [List.map_map]
      exact List.map_congr_left fun j hj => (hF j (by simpa using hj)).1
    obtain ⟨s1, s2, _⟩ := hs.slice ht
    simp only [List.length_map, List.length_range] at s1
    refine ⟨some a, _, (List.range len0).map F, by rw [hle], by rw [hle]; simp only [maxLen] at hm; omega, ?_, ?_, ?_, .inr ⟨_, by rw [hD]⟩⟩
    · rw [hle]
      exact Nat.le_trans (Nat.mul_le_mul_right _ (by omega)) s1
    · intro y hy
      obtain ⟨j, hj, rfl⟩ := List.mem_map.1 hy
      have hj' : j < len0 := by simpa using hj
      refine ⟨(hF j hj').2.1, ?_⟩
      have := s2 (D j) (List.mem_map.2 ⟨j, hj, rfl⟩)
      rwa [(hF j hj').1] at this
    · intro hpos
      rw [hle] at hpos
      obtain ⟨b, off, spot⟩ := a
      have c0 := (hF 0 hpos).2.2 0 hz
      obtain ⟨cs', hc, htr⟩ := hi 0 (by omega)
      rw [hC] at hc
      obtain ⟨_, hcl, hat⟩ := World.cells?_some hc
      have h00 := hat 0 hz
      rw [List.getElem?_eq_getElem (by omega)] at h00
      have hspot : spot = none := by
        have := World.cell?_spot h00
        simpa [Addr.add] using this
      subst hspot
      refine ⟨b, off, rfl, fun j hj i hi => ?_⟩
      have hj' : j < len0 := by rw [hle] at hj; exact hj
      have := (hF j hj').2.2 i hi
      rw [add_none'] at this
      rw [this]
      simp
theorem el_int {k : IntKind} {e : TypeId} (he : P.underlying e = some (.int k)) : ∀ n cs' x, DataW.trod enc P w base (fun _ => true) true n e cs' = some x → cs'.length = 1 → ∃ y : Int, cs' = [Value.int k y] ∧ x.1 = .lit (.int k y) ∧ (Lit.int k y).wf = true := fun n cs' x h _ => by
  obtain ⟨a, hcs, hy, hw⟩ := DataW.trod_int he h
  exact ⟨a, hcs, by rw [hy], hw⟩
theorem el_bool {e : TypeId} (he : P.underlying e = some .bool) : ∀ n cs' x, DataW.trod enc P w base (fun _ => true) true n e cs' = some x → cs'.length = 1 → ∃ y : Bool, cs' = [Value.bool y] ∧ x.1 = .lit (.bool y) ∧ True := fun n cs' x h _ => by
  obtain ⟨a, hcs, hy⟩ := DataW.trod_bool he h
  exact ⟨a, hcs, by rw [hy], trivial⟩
end
end Go.Proofs.YtnhogmheedeeiaaGreat
/- CRC-32 over natural numbers: the step is linear and injective; burst, tail, adds. No program in sight. -/
namespace Go.Proofs.YtnhogmheedeeiaaGreat.Crc
def P : Nat := 3988292384
def s1 (x : Nat) : Nat := if x % 2 = 1 then (x / 2) ^^^ P else x / 2
theorem s1_lt (x : Nat) (h : x < 2^32) : s1 x < 2^32 := by
  unfold s1 P
  split
  · exact Nat.xor_lt_two_pow (by omega) (by decide)
  · omega
theorem xor_div2 (x y : Nat) : (x ^^^ y) / 2 = (x / 2) ^^^ (y / 2) := by
  have := Nat.xor_div_two_pow (a := x) (b := y) (n := 1)
  simpa using this
theorem xor_mod2 (x y : Nat) : (x ^^^ y) % 2 = (x % 2 + y % 2) % 2 := by
  have := Nat.xor_mod_two_pow (a := x) (b := y) (n := 1)
  simp at this
  rw [this]
  have hx : x % 2 = 0 ∨ x % 2 = 1 := by omega
  have hy : y % 2 = 0 ∨ y % 2 = 1 := by omega
  rcases hx with h | h <;> rcases hy with h' | h' <;> rw [h, h'] <;> rfl
theorem s1_xor (x y : Nat) : s1 (x ^^^ y) = s1 x ^^^ s1 y := by
  unfold s1
  rw [xor_div2, xor_mod2]
  have hx : x % 2 = 0 ∨ x % 2 = 1 := by omega
  have hy : y % 2 = 0 ∨ y % 2 = 1 := by omega
  rcases hx with h | h <;> rcases hy with h' | h' <;> rw [h, h'] <;> simp
  · ac_rfl
  · ac_rfl
  · rw [show x / 2 ^^^ P ^^^ (y / 2 ^^^ P) = (x/2 ^^^ y/2) ^^^ (P ^^^ P) by ac_rfl, Nat.xor_self, Nat.xor_zero]
theorem s1_zero : s1 0 = 0 := rfl
theorem s1_inj0 (x : Nat) (h : x < 2^32) (e : s1 x = 0) : x = 0 := by
  unfold s1 at e
  split at e
  · have : x / 2 = P := by
      have := congrArg (· ^^^ P) e
      simp only [Nat.xor_assoc, Nat.xor_self, Nat.xor_zero, Nat.zero_xor] at this
      exact this
    unfold P at this; omega
  · omega
theorem xor_eq0 {x y : Nat} (h : x ^^^ y = 0) : x = y := by
  have := congrArg (· ^^^ y) h
  simpa [Nat.xor_assoc] using this
theorem s1_inj (x y : Nat) (hx : x < 2^32) (hy : y < 2^32) (e : s1 x = s1 y) : x = y := by
  apply xor_eq0
  apply s1_inj0 _ (Nat.xor_lt_two_pow hx hy)
  rw [s1_xor, e, Nat.xor_self]

def s8 (x : Nat) : Nat := s1 (s1 (s1 (s1 (s1 (s1 (s1 (s1 x)))))))
theorem s8_lt (x : Nat) (h : x < 2^32) : s8 x < 2^32 := by
  unfold s8; repeat (first | exact h | apply s1_lt)
theorem s8_xor (x y : Nat) : s8 (x ^^^ y) = s8 x ^^^ s8 y := by
  unfold s8; simp only [s1_xor]
theorem s8_inj (x y : Nat) (hx : x < 2^32) (hy : y < 2^32) (e : s8 x = s8 y) : x = y := by
  unfold s8 at e
  have l := s1_lt
  apply s1_inj _ _ hx hy
  apply s1_inj _ _ (l _ hx) (l _ hy)
  apply s1_inj _ _ (l _ (l _ hx)) (l _ (l _ hy))
  apply s1_inj _ _ (l _ (l _ (l _ hx))) (l _ (l _ (l _ hy)))
  apply s1_inj _ _ (l _ (l _ (l _ (l _ hx)))) (l _ (l _ (l _ (l _ hy))))
  apply s1_inj _ _ (l _ (l _ (l _ (l _ (l _ hx))))) (l _ (l _ (l _ (l _ (l _ hy)))))
  apply s1_inj _ _ (l _ (l _ (l _ (l _ (l _ (l _ hx)))))) (l _ (l _ (l _ (l _ (l _ (l _ hy))))))
  exact s1_inj _ _ (l _ (l _ (l _ (l _ (l _ (l _ (l _ hx))))))) (l _ (l _ (l _ (l _ (l _ (l _ (l _ hy))))))) e
theorem s1_two (z : Nat) : s1 (2 * z) = z := by
  unfold s1; rw [if_neg (by omega)]; omega
theorem s8_shift (y : Nat) : s8 (256 * y) = y := by
  unfold s8
  rw [show 256 * y = 2 * (2 * (2 * (2 * (2 * (2 * (2 * (2 * y))))))) by omega]
  simp only [s1_two]
theorem split256 (a y : Nat) (h : a < 256) : a + 256 * y = a ^^^ 256 * y := by
  have h1 := Nat.two_pow_add_eq_or_of_lt (i := 8) (b := a) (by simpa using h) y
  have h2 : 2 ^ 8 * y ^^^ a = 2 ^ 8 * y ||| a := by
    apply Nat.eq_of_testBit_eq
    intro j
    rw [Nat.testBit_xor, Nat.testBit_or, Nat.testBit_two_pow_mul]
    by_cases hj : 8 ≤ j
    · have : a.testBit j = false := Nat.testBit_lt_two_pow (Nat.lt_of_lt_of_le h (by
        calc 256 = 2 ^ 8 := by decide
          _ ≤ 2 ^ j := Nat.pow_le_pow_right (by decide) hj))
      simp [this]
    · simp [hj]
  simp only [Nat.reducePow] at h1 h2
  rw [Nat.xor_comm a, h2, ← h1]; omega
theorem s8_word (c a y : Nat) (h : a < 256) : s8 (c ^^^ (a + 256 * y)) = s8 (c ^^^ a) ^^^ y := by
  rw [split256 a y h, ← Nat.xor_assoc, s8_xor (c ^^^ a), s8_shift]

def crcs (c : Nat) (l : List Nat) : Nat := l.foldl (fun c b => s8 (c ^^^ b)) c
theorem crcs_append (c : Nat) (l m : List Nat) : crcs c (l ++ m) = crcs (crcs c l) m := by simp [crcs]
theorem crcs_cons (c b : Nat) (m : List Nat) : crcs c (b :: m) = crcs (s8 (c ^^^ b)) m := rfl
theorem crcs_nil (c : Nat) : crcs c [] = c := rfl
def Bytes (l : List Nat) : Prop := ∀ b ∈ l, b < 256
theorem crcs_lt (l : List Nat) : ∀ c, c < 2^32 → Bytes l → crcs c l < 2^32 := by
  induction l with
  | nil => intro c h _; exact h
  | cons b l ih =>
    intro c h hb
    rw [crcs_cons]
    exact ih _ (s8_lt _ (Nat.xor_lt_two_pow h (by have := hb b (by simp); omega))) (fun x hx => hb x (by simp [hx]))
theorem crcs_inj (l : List Nat) : ∀ c d, c < 2^32 → d < 2^32 → Bytes l → crcs c l = crcs d l → c = d := by
  induction l with
  | nil => intro c d _ _ _ h; exact h
  | cons b l ih =>
    intro c d hc hd hb h
    have b32 : b < 2^32 := by have := hb b (by simp); omega
    rw [crcs_cons, crcs_cons] at h
    have h1 := ih _ _ (s8_lt _ (Nat.xor_lt_two_pow hc b32)) (s8_lt _ (Nat.xor_lt_two_pow hd b32)) (fun x hx => hb x (by simp [hx])) h
    have h2 := s8_inj _ _ (Nat.xor_lt_two_pow hc b32) (Nat.xor_lt_two_pow hd b32) h1
    have := congrArg (· ^^^ b) h2
    simpa [Nat.xor_assoc] using this
def word (a b c d : Nat) : Nat := a + 256 * (b + 256 * (c + 256 * d))
def s32 (x : Nat) : Nat := s8 (s8 (s8 (s8 x)))
theorem crcs_word (c a0 a1 a2 a3 : Nat) (h0 : a0 < 256) (h1 : a1 < 256) (h2 : a2 < 256) : crcs c [a0, a1, a2, a3] = s32 (c ^^^ word a0 a1 a2 a3) := by
  unfold word s32
  rw [s8_word _ _ _ h0, s8_word _ _ _ h1, s8_word _ _ _ h2]
  rfl
theorem word_lt (a b c d : Nat) (h0 : a < 256) (h1 : b < 256) (h2 : c < 256) (h3 : d < 256) : word a b c d < 2^32 := by unfold word; omega
theorem s32_inj (x y : Nat) (hx : x < 2^32) (hy : y < 2^32) (e : s32 x = s32 y) : x = y := by
  unfold s32 at e
  have l := s8_lt
  apply s8_inj _ _ hx hy
  apply s8_inj _ _ (l _ hx) (l _ hy)
  apply s8_inj _ _ (l _ (l _ hx)) (l _ (l _ hy))
  exact s8_inj _ _ (l _ (l _ (l _ hx))) (l _ (l _ (l _ hy))) e
theorem burst (c : Nat) (hc : c < 2^32) (p q : List Nat) (hp : Bytes p) (hq : Bytes q) (a0 a1 a2 a3 b0 b1 b2 b3 : Nat)
    (h0 : a0 < 256) (h1 : a1 < 256) (h2 : a2 < 256) (h3 : a3 < 256) (k0 : b0 < 256) (k1 : b1 < 256) (k2 : b2 < 256) (k3 : b3 < 256)
    (e : crcs c (p ++ ([a0, a1, a2, a3] ++ q)) = crcs c (p ++ ([b0, b1, b2, b3] ++ q))) : a0 = b0 ∧ a1 = b1 ∧ a2 = b2 ∧ a3 = b3 := by
  have hs := crcs_lt p c hc hp
  have hwa := word_lt a0 a1 a2 a3 h0 h1 h2 h3
  have hwb := word_lt b0 b1 b2 b3 k0 k1 k2 k3
  rw [crcs_append, crcs_append, crcs_append c p, crcs_append _ _ q, crcs_word _ _ _ _ _ h0 h1 h2, crcs_word _ _ _ _ _ k0 k1 k2] at e
  have l := s8_lt
  have e1 := crcs_inj q _ _ (by unfold s32; exact l _ (l _ (l _ (l _ (Nat.xor_lt_two_pow hs hwa))))) (by unfold s32; exact l _ (l _ (l _ (l _ (Nat.xor_lt_two_pow hs hwb))))) hq e
  have e2 := s32_inj _ _ (Nat.xor_lt_two_pow hs hwa) (Nat.xor_lt_two_pow hs hwb) e1
  have e3 := congrArg (crcs c p ^^^ ·) e2
  simp only [← Nat.xor_assoc, Nat.xor_self, Nat.zero_xor] at e3
  unfold word at e3
  omega
def F : Nat := 4294967295
theorem not32 (x : Nat) (h : x < 2^32) : 4294967295 - x = x ^^^ F := by
  have := BitVec.toNat_not (x := BitVec.ofNat 32 x)
  have h2 : (~~~ BitVec.ofNat 32 x) = BitVec.ofNat 32 x ^^^ BitVec.allOnes 32 := BitVec.xor_allOnes.symm
  rw [h2, BitVec.toNat_xor, BitVec.toNat_ofNat, BitVec.toNat_allOnes, Nat.mod_eq_of_lt h] at this
  unfold F; simp at this ⊢; omega
theorem tail (c a0 a1 a2 a3 : Nat) (h0 : a0 < 256) (h1 : a1 < 256) (h2 : a2 < 256) (e : word a0 a1 a2 a3 = c ^^^ F) : crcs c [a0, a1, a2, a3] ^^^ F = 0x2144DF1C := by
  rw [crcs_word _ _ _ _ _ h0 h1 h2, e, ← Nat.xor_assoc, Nat.xor_self, Nat.zero_xor]
  decide +kernel
theorem xor3 (x y z a b c : Nat) : (x ^^^ y ^^^ z) ^^^ (a ^^^ b ^^^ c) = (x ^^^ a) ^^^ (y ^^^ b) ^^^ (z ^^^ c) := by ac_rfl
theorem adds (n : Nat) : ∀ (x y z : List Nat) (c d e : Nat), x.length = n → y.length = n → z.length = n →
    crcs (c ^^^ d ^^^ e) (List.zipWith (· ^^^ ·) (List.zipWith (· ^^^ ·) x y) z) = crcs c x ^^^ crcs d y ^^^ crcs e z := by
  induction n with
  | zero => intro x y z c d e hx hy hz; simp [List.eq_nil_of_length_eq_zero hx, List.eq_nil_of_length_eq_zero hy, List.eq_nil_of_length_eq_zero hz, crcs]
  | succ n ih =>
    intro x y z c d e hx hy hz
    match x, y, z, hx, hy, hz with
    | a :: x, b :: y, g :: z, hx, hy, hz =>
      simp only [List.zipWith_cons_cons, crcs_cons]
      rw [xor3, s8_xor, s8_xor]
      exact ih x y z _ _ _ (by simpa using hx) (by simpa using hy) (by simpa using hz)
end Go.Proofs.YtnhogmheedeeiaaGreat.Crc
/- The contracts of package crc: Step, Sum, Put, Get; and of the reference: CrcStep, Crc, Put4, Get4. -/
namespace Go.Proofs.YtnhogmheedeeiaaGreat
open Go.RowKit

namespace Crc
def it : Nat → Nat → Nat
  | 0, x => x
  | k + 1, x => s1 (it k x)
theorem it_lt (k x : Nat) (h : x < 2 ^ 32) : it k x < 2 ^ 32 := by
  induction k with
  | zero => exact h
  | succ k ih => exact s1_lt _ ih
theorem and_one (x : Nat) (h : x < 4294967296) : bits .and .u32 (x : Int) 1 = ((x % 2 : Nat) : Int) := by
  have := u32_and_nat x 1 h (by omega)
  rw [Nat.and_one_is_mod] at this
  exact this
theorem odd_step (x : Nat) (h : x < 4294967296) (e : (bits .and .u32 (x : Int) 1 == 1) = true) : bits .xor .u32 ((x : Int) / 2) 3988292384 = ((s1 x : Nat) : Int) := by
  rw [and_one x h] at e
  have e' : x % 2 = 1 := by have := beq_iff_eq.1 e; omega
  have := u32_xor_nat (x / 2) 3988292384 (by omega) (by omega)
  unfold s1 P
  rw [if_pos e', ← this]
  rfl
theorem even_step (x : Nat) (h : x < 4294967296) (e : (bits .and .u32 (x : Int) 1 == 1) = false) : (x : Int) / 2 = ((s1 x : Nat) : Int) := by
  rw [and_one x h] at e
  have e' : ¬ x % 2 = 1 := by intro h1; rw [h1] at e; simp at e
  unfold s1
  rw [if_neg e']
  rfl
theorem it8 (x : Nat) : it 8 x = s8 x := rfl
end Crc

set_option maxHeartbeats 400000 in
theorem step_any (c b : Nat) (hc : c < 4294967296) (hb : b < 256) (w : World) :
    Calls Tryz.prog 90 #[.int .u32 c, .int .u8 b] w fun e w' => e = .returned (.int .u32 (Crc.s8 (c ^^^ b) : Nat)) ∧ w = w' := by
  have hx := u32_xor_nat c b hc (by omega)
  go_enter Tryz.func90, Tryz.ntmps90
  go_wp2
  go_loop [0, 10] (fun cv i => ∃ k : Nat, k ≤ 8 ∧ i = .int .i64 k ∧ cv = .int .u32 ((Crc.it k (c ^^^ b) : Nat) : Int)) (fun _ i => 8 - (intOf i).toNat)
  case atStart => exact ⟨0, by omega, rfl, rfl⟩
  case round =>
    obtain ⟨k, hk, rfl, rfl⟩ := hrel
    by_cases h8 : k < 8
    · obtain ⟨x, hx0⟩ : ∃ x, x = Crc.it k (c ^^^ b) := ⟨_, rfl⟩
      have hxl : x < 4294967296 := by rw [hx0]; exact Crc.it_lt k _ (Nat.xor_lt_two_pow (n := 32) hc (by omega))
      rw [← hx0]
      have HX := Lib.hid hx0
      clear hx0 hx
      go_wp2
      · have ho : (bits .and .u32 (x : Int) 1 == 1) = true := by assumption
        go_round
        case rel => exact ⟨k + 1, by omega, by go_num, by rw [Crc.odd_step x hxl ho]; show _ = Value.int .u32 ((Crc.s1 (Crc.it k (c ^^^ b)) : Nat) : Int); rw [← HX.out]⟩
        case measure => simp [intOf]; omega
      · have ho : (bits .and .u32 (x : Int) 1 == 1) = false := by assumption
        go_round
        case rel => exact ⟨k + 1, by omega, by go_num, by rw [Crc.even_step x hxl ho]; show _ = Value.int .u32 ((Crc.s1 (Crc.it k (c ^^^ b)) : Nat) : Int); rw [← HX.out]⟩
        case measure => simp [intOf]; omega
    · obtain rfl : k = 8 := by omega
      go_wp2
      go_ret
      exact ⟨rfl, rfl⟩

theorem nb_bytes (s : ByteArray) : Crc.Bytes (nb s) := nb_lt s
theorem crcs_take (c : Nat) (s : ByteArray) (k : Nat) (h : k < s.size) : Crc.crcs c ((nb s).take (k + 1)) = Crc.s8 (Crc.crcs c ((nb s).take k) ^^^ s[k].toNat) := by
  rw [nb_take s k h, Crc.crcs_append]; rfl
theorem crcs_lt_take (c : Nat) (hc : c < 2 ^ 32) (s : ByteArray) (k : Nat) : Crc.crcs c ((nb s).take k) < 2 ^ 32 :=
  Crc.crcs_lt _ _ hc fun b hb => nb_bytes s b (List.mem_of_mem_take hb)

set_option maxHeartbeats 400000 in
theorem refstep_any (c b : Nat) (hc : c < 4294967296) (hb : b < 256) (w : World) :
    Calls Tryz.prog 101 #[.int .u32 c, .int .u8 b] w fun e w' => e = .returned (.int .u32 (Crc.s8 (c ^^^ b) : Nat)) ∧ w = w' := by
  have hx := u32_xor_nat c b hc (by omega)
  go_enter Tryz.func101, Tryz.ntmps101
  go_wp2
  go_loop [0, 5] (fun cv i => ∃ k : Nat, k ≤ 8 ∧ i = .int .i64 k ∧ cv = .int .u32 ((Crc.it k (c ^^^ b) : Nat) : Int)) (fun _ i => 8 - (intOf i).toNat)
  case atStart => exact ⟨0, by omega, rfl, rfl⟩
  case round =>
    obtain ⟨k, hk, rfl, rfl⟩ := hrel
    by_cases h8 : k < 8
    · obtain ⟨x, hx0⟩ : ∃ x, x = Crc.it k (c ^^^ b) := ⟨_, rfl⟩
      have hxl : x < 4294967296 := by rw [hx0]; exact Crc.it_lt k _ (Nat.xor_lt_two_pow (n := 32) hc (by omega))
      rw [← hx0]
      have HX := Lib.hid hx0
      clear hx0 hx
      go_wp2
      · have ho : ((x : Int) % 2 == 1) = true := by assumption
        go_round
        case rel => exact ⟨k + 1, by omega, by go_num, by rw [Crc.odd_step x hxl (by rw [Crc.and_one x hxl]; exact ho)]; show _ = Value.int .u32 ((Crc.s1 (Crc.it k (c ^^^ b)) : Nat) : Int); rw [← HX.out]⟩
        case measure => simp [intOf]; omega
      · have ho : ((x : Int) % 2 == 1) = false := by assumption
        go_round
        case rel => exact ⟨k + 1, by omega, by go_num, by rw [Crc.even_step x hxl (by rw [Crc.and_one x hxl]; exact ho)]; show _ = Value.int .u32 ((Crc.s1 (Crc.it k (c ^^^ b)) : Nat) : Int); rw [← HX.out]⟩
        case measure => simp [intOf]; omega
    · obtain rfl : k = 8 := by omega
      go_wp2
      go_ret
      exact ⟨rfl, rfl⟩

/-- The reference's sum of one text. -/
def crcOf (s : ByteArray) : Nat := Crc.crcs 4294967295 (nb s)
theorem crcOf_lt (s : ByteArray) : crcOf s < 4294967296 := Crc.crcs_lt _ _ (by omega) (nb_bytes s)
/-- The checksum of a text. -/
def crcN (s : ByteArray) : Nat := crcOf s ^^^ Crc.F
theorem crcN_lt (s : ByteArray) : crcN s < 4294967296 := Nat.xor_lt_two_pow (n := 32) (crcOf_lt s) (by decide)
theorem not_u32 (x : Nat) (h : x < 4294967296) : (4294967295 : Int) - (x : Int) = ((x ^^^ Crc.F : Nat) : Int) := by
  have := Crc.not32 x h
  omega
theorem crcN_eq (s : ByteArray) : (4294967295 : Int) - (crcOf s : Int) = (crcN s : Int) := not_u32 _ (crcOf_lt s)

set_option maxHeartbeats 400000 in
theorem refcrc_any (s : ByteArray) (hs : s.size ≤ 9223372036854775807) (w : World) :
    Calls Tryz.prog 94 #[.string s] w fun e w' => e = .returned (.int .u32 (crcN s : Nat)) ∧ w = w' := by
  have hl := crcOf_lt s
  go_enter Tryz.func94, Tryz.ntmps94
  go_wp2_with fail
  go_loop [3, 4] (fun cv i => ∃ k : Nat, k ≤ s.size ∧ i = .int .i64 k ∧ cv = .int .u32 ((Crc.crcs 4294967295 ((nb s).take k) : Nat) : Int)) (fun _ i => s.size - (intOf i).toNat)
  case atStart => exact ⟨0, by omega, rfl, rfl⟩
  case round =>
    obtain ⟨k, hk, rfl, rfl⟩ := hrel
    by_cases hlt : k < s.size
    · obtain ⟨x, hx0⟩ : ∃ x, x = Crc.crcs 4294967295 ((nb s).take k) := ⟨_, rfl⟩
      have hxl : x < 4294967296 := by rw [hx0]; exact crcs_lt_take _ (by omega) s k
      rw [← hx0]
      have HX := Lib.hid hx0
      have hb := s[k].toNat_lt
      clear hx0
      go_wp2_with (go_at_call 101; refine (refstep_any _ _ hxl hb _).mono ?_; rintro e w' ⟨rfl, rfl⟩)
      go_round
      case rel => exact ⟨k + 1, by omega, by go_num, by rw [crcs_take _ s k hlt, ← HX.out]⟩
      case measure => simp [intOf]; omega
    · obtain rfl : k = s.size := by omega
      have e : Crc.crcs 4294967295 ((nb s).take s.size) = crcOf s := by rw [← nb_len s, List.take_length]; rfl
      rw [e]
      clear e
      go_wp2_with fail
      go_ret
      exact ⟨by rw [← crcN_eq]; rfl, rfl⟩

def sums (c : Nat) (ss : List ByteArray) : Nat := ss.foldl (fun c s => Crc.crcs c (nb s)) c
theorem sums_lt (ss : List ByteArray) : ∀ c, c < 4294967296 → sums c ss < 4294967296 := by
  induction ss with
  | nil => intro c h; exact h
  | cons s ss ih => intro c h; exact ih _ (Crc.crcs_lt _ _ h (nb_bytes s))
theorem sums_take (c : Nat) (ss : List ByteArray) (k : Nat) (h : k < ss.length) : sums c (ss.take (k + 1)) = Crc.crcs (sums c (ss.take k)) (nb ss[k]) := by
  unfold sums
  rw [List.take_succ_eq_append_getElem h, List.foldl_append]
  rfl
theorem not_xor (x : Nat) (h : x < 4294967296) : bits .xor .u32 IntKind.u32.max (x : Int) = (4294967295 : Int) - (x : Int) := by
  have := u32_xor_nat 4294967295 x (by omega) h
  rw [not_u32 x h, Nat.xor_comm, Crc.F, ← this]
  rfl

/-- The checksum of texts, one behind the other. -/
def sumN (ss : List ByteArray) : Nat := sums 4294967295 ss ^^^ Crc.F
theorem sumN_eq (ss : List ByteArray) : (4294967295 : Int) - (sums 4294967295 ss : Int) = (sumN ss : Int) := not_u32 _ (sums_lt _ _ (by omega))
theorem sumN_lt (ss : List ByteArray) : sumN ss < 4294967296 := Nat.xor_lt_two_pow (n := 32) (sums_lt _ _ (by omega)) (by decide)
theorem sumN_one (s : ByteArray) : sumN [s] = crcN s := rfl

set_option maxHeartbeats 800000 in
theorem sum_any (ss : List ByteArray) (A : Option Addr) (cap : Nat) (w : World) (H : TextsAt w A ss) :
    Calls Tryz.prog 67 #[.slice A ss.length cap] w fun e w' => e = .returned (.int .u32 (sumN ss : Nat)) ∧ w = w' := by
  obtain ⟨hlen, hsz, hat⟩ := H
  have hl := sums_lt ss 4294967295 (by omega)
  go_enter Tryz.func67, Tryz.ntmps67
  go_wp2_with fail
  go_loop [3, 9] (fun cv i => ∃ k : Nat, k ≤ ss.length ∧ i = .int .i64 k ∧ cv = .int .u32 ((sums 4294967295 (ss.take k) : Nat) : Int)) (fun _ i => ss.length - (intOf i).toNat)
  case atStart => exact ⟨0, by omega, rfl, rfl⟩
  case round =>
    obtain ⟨k, hk, rfl, rfl⟩ := hrel
    by_cases hlt : k < ss.length
    · obtain ⟨ad, rfl, hc⟩ := hat (by omega)
      obtain ⟨s, hs0⟩ : ∃ s, s = ss[k] := ⟨_, rfl⟩
      have hck : w.cell? (ad.add k) = some (.string s) := by rw [hs0]; exact hc k hlt
      have hss : s.size ≤ 9223372036854775807 := by rw [hs0]; exact hsz _ (List.getElem_mem hlt)
      obtain ⟨x, hx0⟩ : ∃ x, x = sums 4294967295 (ss.take k) := ⟨_, rfl⟩
      have hxl : x < 4294967296 := by rw [hx0]; exact sums_lt _ _ (by omega)
      have hst := sums_take 4294967295 ss k hlt
      rw [← hx0, ← hs0] at hst
      have HST := Lib.hid hst
      rw [← hx0]
      clear hx0 hs0 hc hsz hst hat
      go_wp2_with fail
      go_loop [3, 15] (fun cv i => ∃ j : Nat, j ≤ s.size ∧ i = .int .i64 j ∧ cv = .int .u32 ((Crc.crcs x ((nb s).take j) : Nat) : Int)) (fun _ i => s.size - (intOf i).toNat)
      case atStart => exact ⟨0, by omega, rfl, rfl⟩
      case round =>
        obtain ⟨j, hj, rfl, rfl⟩ := hrel
        by_cases hjl : j < s.size
        · obtain ⟨y, hy0⟩ : ∃ y, y = Crc.crcs x ((nb s).take j) := ⟨_, rfl⟩
          have hyl : y < 4294967296 := by rw [hy0]; exact crcs_lt_take _ hxl s j
          rw [← hy0]
          have HY := Lib.hid hy0
          have hb := s[j].toNat_lt
          clear hy0
          go_wp2_with (go_at_call 90; refine (step_any _ _ hyl hb _).mono ?_; rintro e w' ⟨rfl, rfl⟩)
          go_round
          case rel => exact ⟨j + 1, by omega, by go_num, by rw [crcs_take _ s j hjl, ← HY.out]⟩
          case measure => simp [intOf]; omega
        · obtain rfl : j = s.size := by omega
          have e : Crc.crcs x ((nb s).take s.size) = Crc.crcs x (nb s) := by rw [← nb_len s, List.take_length]
          rw [e]
          clear e
          go_wp2_with fail
          go_round
          case rel => exact ⟨k + 1, by omega, by go_num, by rw [HST.out]⟩
          case measure => simp [intOf]; omega
    · obtain rfl : k = ss.length := by omega
      rw [List.take_length]
      clear hat
      go_wp2_with fail
      go_ret
      exact ⟨by rw [← sumN_eq, ← not_xor _ hl]; rfl, rfl⟩

theorem sum1 (s : ByteArray) (hs : s.size ≤ 9223372036854775807) (w : World) (B : Nat) (h : w.cell? ⟨B, 0, none⟩ = some (.string s)) :
    Calls Tryz.prog 67 #[.slice (some ⟨B, 0, none⟩) 1 1] w fun e w' => e = .returned (.int .u32 (crcN s : Nat)) ∧ w = w' :=
  sum_any [s] _ 1 w ⟨by simp, by simpa using hs, fun _ => ⟨_, rfl, fun j hj => by
    obtain rfl : j = 0 := by simp at hj; omega
    exact h⟩⟩

theorem sum2 (s t : ByteArray) (hs : s.size ≤ 9223372036854775807) (ht : t.size ≤ 9223372036854775807) (w : World) (B : Nat) (h : w.cell? ⟨B, 0, none⟩ = some (.string s)) (h1 : w.cell? ⟨B, 1, none⟩ = some (.string t)) :
    Calls Tryz.prog 67 #[.slice (some ⟨B, 0, none⟩) 2 2] w fun e w' => e = .returned (.int .u32 (sumN [s, t] : Nat)) ∧ w = w' :=
  sum_any [s, t] _ 2 w ⟨by simp, by simp; exact ⟨hs, ht⟩, fun _ => ⟨_, rfl, fun j hj => by
    match j, hj with
    | 0, _ => exact h
    | 1, _ => exact h1⟩⟩

theorem strOf4 (w : World) (b0 b1 b2 b3 : Int) :
    (convert 55 9 (.slice (some ⟨w.heap.size, 0, none⟩) 4 4)).run Tryz.prog (w.alloc (.cells #[.int .u8 b0, .int .u8 b1, .int .u8 b2, .int .u8 b3] 5)) =
      .ok (.string (strOfNums [b0, b1, b2, b3])) (w.alloc (.cells #[.int .u8 b0, .int .u8 b1, .int .u8 b2, .int .u8 b3] 5)) := by
  refine run_convert_bytes_arg _ 55 5 Tryz.underlying55 Tryz.underlying5 w.heap.size 0 4 4 [b0, b1, b2, b3] rfl (fun i hi => ?_) 9 Tryz.underlying9
  match i, hi with
  | 0, _ => rw [World.cell?_alloc_at _ _ _ _ rfl]; rfl
  | 1, _ => rw [World.cell?_alloc_at _ _ _ _ rfl]; rfl
  | 2, _ => rw [World.cell?_alloc_at _ _ _ _ rfl]; rfl
  | 3, _ => rw [World.cell?_alloc_at _ _ _ _ rfl]; rfl

/-- A number's four bytes. -/
def put (c : Nat) : ByteArray := strOfNums [(c : Int) % 256, (c : Int) / 256 % 256, (c : Int) / 65536 % 256, (c : Int) / 16777216]

set_option maxHeartbeats 400000 in
theorem put_any (c : Nat) (hc : c < 4294967296) (w : World) :
    Calls Tryz.prog 66 #[.int .u32 c] w fun e w' => e = .returned (.string (put c)) ∧ Kp w w' := by
  have kc := strOf4 w ((c : Int) % 256) ((c : Int) / 256 % 256) ((c : Int) / 65536 % 256) ((c : Int) / 16777216)
  go_enter Tryz.func66, Tryz.ntmps66
  go_wp2
  go_ret
  exact ⟨rfl, Kp.one _ _⟩

def get4 (s : ByteArray) (i : Nat) : Nat := Crc.word (byteAt s i) (byteAt s (i + 1)) (byteAt s (i + 2)) (byteAt s (i + 3))

set_option maxHeartbeats 400000 in
theorem get_no (s : ByteArray) (k : Int) (_hs : s.size ≤ 9223372036854775807) (h : k < 0 ∨ (s.size : Int) < k ∨ (s.size : Int) - k < 4) (w : World) :
    Calls Tryz.prog 68 #[.string s, .int .i64 k] w fun e w' => e = .returned (.tuple #[.int .u32 0, .bool false]) ∧ w = w' := by
  by_cases h1 : k < 0
  · go_enter Tryz.func68, Tryz.ntmps68
    go_wp2
    go_ret2
    exact ⟨rfl, rfl⟩
  by_cases h2 : (s.size : Int) < k
  · go_enter Tryz.func68, Tryz.ntmps68
    go_wp2
    go_ret2
    exact ⟨rfl, rfl⟩
  have h3 : (s.size : Int) - k < 4 := by omega
  clear h
  go_enter Tryz.func68, Tryz.ntmps68
  go_wp2
  go_ret2
  exact ⟨rfl, rfl⟩

theorem or_add (a b k : Nat) (h : a < 2 ^ k) : a ||| b * 2 ^ k = a + b * 2 ^ k := by
  have := Nat.two_pow_add_eq_or_of_lt h b
  rw [Nat.or_comm, Nat.mul_comm b, ← this, Nat.add_comm]
theorem or4 (a b c d : Nat) (ha : a < 256) (hb : b < 256) (hc : c < 256) (hd : d < 256) :
    bits .or .u32 (bits .or .u32 (bits .or .u32 ((a : Int) % 4294967296) ((b : Int) % 4294967296 * 256 % 4294967296)) ((c : Int) % 4294967296 * 65536 % 4294967296)) ((d : Int) % 4294967296 * 16777216 % 4294967296) = ((Crc.word a b c d : Nat) : Int) := by
  have e0 : (a : Int) % 4294967296 = (a : Nat) := by omega
  have e1 : (b : Int) % 4294967296 * 256 % 4294967296 = ((b * 2 ^ 8 : Nat) : Int) := by omega
  have e2 : (c : Int) % 4294967296 * 65536 % 4294967296 = ((c * 2 ^ 16 : Nat) : Int) := by omega
  have e3 : (d : Int) % 4294967296 * 16777216 % 4294967296 = ((d * 2 ^ 24 : Nat) : Int) := by omega
  rw [e0, e1, e2, e3, u32_or_nat _ _ (by omega) (by omega), or_add a b 8 ha, u32_or_nat _ _ (by omega) (by omega), or_add _ c 16 (by omega), u32_or_nat _ _ (by omega) (by omega), or_add _ d 24 (by omega)]
  unfold Crc.word
  omega
set_option maxHeartbeats 400000 in
theorem get_yes (s : ByteArray) (k : Nat) (hs : s.size ≤ 9223372036854775807) (h : k + 4 ≤ s.size) (w : World) :
    Calls Tryz.prog 68 #[.string s, .int .i64 k] w fun e w' => e = .returned (.tuple #[.int .u32 (get4 s k : Nat), .bool true]) ∧ ∃ n, w' = w.drewN n := by
  have h1 : ¬ ((k : Int) < 0) := by omega
  have h2 : ¬ ((s.size : Int) < (k : Int)) := by omega
  have h3 : 4 ≤ (s.size : Int) - (k : Int) := by omega
  go_enter Tryz.func68, Tryz.ntmps68
  go_wp2
  generalize ht : s.extract k s.size = t
  have ht4 : 4 ≤ t.size := by rw [← ht]; simp; omega
  have HT := Lib.hid ht
  clear ht h h1 h2 h3
  have q0 : 0 < t.size := by omega
  have q1 : (1 : Int) < (t.size : Int) := by omega
  have q2 : (2 : Int) < (t.size : Int) := by omega
  have q3 : (3 : Int) < (t.size : Int) := by omega
  go_quiet (fail)
  go_wp2
  go_ret2
  refine ⟨?_, _, rfl⟩
  have e : Crc.word t[0].toNat t[1].toNat t[2].toNat t[3].toNat = get4 s k := by
    rw [← byteAt_get, ← byteAt_get, ← byteAt_get, ← byteAt_get, ← HT.out, byteAt_drop _ _ _ (by omega), byteAt_drop _ _ _ (by omega), byteAt_drop _ _ _ (by omega), byteAt_drop _ _ _ (by omega)]
    rfl
  have o := or4 _ _ _ _ t[0].toNat_lt t[1].toNat_lt t[2].toNat_lt t[3].toNat_lt
  rw [e] at o
  rw [← o]
  rfl


end Go.Proofs.YtnhogmheedeeiaaGreat
/- Rows of bytes that a call makes; the contracts of the reference's Fill and of cachepotbook.Short. -/
namespace Go.Proofs.YtnhogmheedeeiaaGreat
open Go.RowKit
set_option linter.unusedVariables false
set_option maxRecDepth 20000

theorem beq_bytes (a b : ByteArray) : (a.toList == b.toList) = decide (a = b) := by
  rw [Bool.eq_iff_iff]
  simp only [beq_iff_eq, decide_eq_true_eq, ByteArray.toList_eq]
  exact ⟨fun h => ByteArray.ext (Array.toList_inj.1 h), fun h => by rw [h]⟩
/-- Bytes as values. -/
def vb (xs : List Int) : List Value := xs.map (Value.int .u8)
theorem made_eq (z : Value) (n : Nat) : madeCells #[z] n = (List.replicate n z).toArray := by
  apply Array.ext
  · simp [madeCells]
  · intro i h1 h2
    simp [madeCells, Nat.mod_one]
theorem info_u8 : (Tryz.prog.info? 5).map (fun i => (i.zero, i.size, i.bytes)) = some (some (.int .u8 0), 1, 1) := by kernel_rfl
theorem make_bytes (n : Nat) (hn : n ≤ 281474976710656) (W : World) : (Instr.makeSlice 55 (.int .i64 (n : Int)) (.int .i64 (n : Int))).run Tryz.prog W =
    .ok (.slice (some ⟨W.heap.size, 0, none⟩) n n) (W.alloc (.cells (vb (List.replicate n 0)).toArray 5)) := by
  have := run_make_row' (P := Tryz.prog) 55 5 (.int .u8 0) 1 Tryz.underlying55 info_u8 rfl .i64 .i64 n (by omega) (by omega) W
  rw [made_eq] at this
  simpa [vb] using this
theorem vb_get (xs : List Int) (i : Nat) (h : i < xs.length) : (vb xs)[i]? = some (.int .u8 xs[i]) := by simp [vb, h]
theorem vb_set (xs : List Int) (i : Nat) (x : Int) : (vb xs).set i (.int .u8 x) = vb (xs.set i x) := by simp [vb, List.map_set]
theorem conv_bk {W : World} {g n : Nat} {zs : List Int} (h : Bk W g 5 (vb zs)) (hz : zs.length = n) :
    (convert 55 9 (.slice (some ⟨g, 0, none⟩) n n)).run Tryz.prog W = .ok (.string (strOfNums zs)) W :=
  run_convert_bytes_arg W 55 5 Tryz.underlying55 Tryz.underlying5 g 0 n n zs hz (fun i hi => by
    have := h.cell (0 + i)
    rw [this, Nat.zero_add, vb_get zs i (by omega), List.getD_eq_getElem?_getD, List.getElem?_eq_getElem (by omega)]
    rfl) 9 Tryz.underlying9

/-- The row of which k bytes are filled. -/
def frow (b : Int) (n k : Nat) : List Int := List.replicate k b ++ List.replicate (n - k) 0
theorem frow_len (b : Int) (n k : Nat) (h : k ≤ n) : (frow b n k).length = n := by simp [frow]; omega
theorem frow_zero (b : Int) (n : Nat) : frow b n 0 = List.replicate n 0 := by simp [frow]
theorem frow_all (b : Int) (n : Nat) : frow b n n = List.replicate n b := by simp [frow]
theorem frow_set (b : Int) (n k : Nat) (h : k < n) : (frow b n k).set k b = frow b n (k + 1) := by
  apply List.ext_getElem
  · simp [frow]; omega
  · intro i h1 h2
    simp only [frow, List.getElem_set, List.getElem_append, List.length_replicate, List.getElem_replicate]
    by_cases e : k = i
    · subst e; simp
    · rw [if_neg e]
      by_cases e2 : i < k
      · rw [dif_pos e2, dif_pos (by omega)]
      · rw [dif_neg e2, dif_neg (by omega)]
/-- So many bytes of one kind. -/
def fillS (b : Int) (n : Nat) : ByteArray := strOfNums (List.replicate n b)
theorem fillS_size (b : Int) (n : Nat) : (fillS b n).size = n := by
  show (fillS b n).data.size = n
  unfold fillS
  rw [← Array.length_toList, strOfNums_data]; simp

set_option maxHeartbeats 800000 in
theorem fill_nn (b : Int) (n : Nat) (hn : n ≤ 140737488351232) (w : World) :
    Calls Tryz.prog 61 #[.int .u8 b, .int .i64 (n : Int)] w fun e w' => e = .returned (.string (fillS b n)) ∧ Kp w w' := by
  have hmk := make_bytes n (by omega)
  go_enter Tryz.func61, Tryz.ntmps61
  go_wp2_with fail
  have hB := Bk.new w 5 (vb (List.replicate n 0))
  have hK := Kp.one w (.cells (vb (List.replicate n 0)).toArray 5)
  generalize hw1 : w.alloc (.cells (vb (List.replicate n 0)).toArray 5) = w1 at hB hK ⊢
  clear hw1 hmk
  go_loopw [6] (fun i wr => ∃ k : Nat, k ≤ n ∧ i = .int .i64 k ∧ Bk wr w.heap.size 5 (vb (frow b n k)) ∧ Kp w wr) (fun i _ => n - (intOf i).toNat)
  case atStart => exact ⟨0, by omega, rfl, by rw [frow_zero]; exact hB, hK⟩
  case round =>
    obtain ⟨k, hk, rfl, hBr, hKr⟩ := hrel
    clear hB hK
    by_cases hlt : k < n
    · have hcell := hBr.cell k
      rw [vb_get _ _ (by rw [frow_len _ _ _ hk]; exact hlt)] at hcell
      have hfree := hBr.free k
      go_wp2_with fail
      have hput := (hBr.put k (.int .u8 b))
      rw [vb_set, frow_set b n k hlt] at hput
      go_roundw
      case rel => exact ⟨k + 1, by omega, by go_num, hput, (hKr.set (Nat.le_refl _) _)⟩
      case measure => simp [intOf]; omega
    · obtain rfl : k = n := by omega
      rw [frow_all] at hBr
      have hcv := conv_bk (n := k) hBr (by simp)
      go_wp2_with fail
      go_ret
      exact ⟨rfl, hKr⟩
set_option maxHeartbeats 800000 in
theorem fill_neg (b : Int) (N : Int) (hN : N < 0) (hlo : -9223372036854775808 ≤ N) (w : World) :
    Calls Tryz.prog 61 #[.int .u8 b, .int .i64 N] w fun e w' => e = .returned (.string ⟨#[]⟩) ∧ Kp w w' := by
  have hmk := make_bytes 0 (by omega)
  rw [show ((0 : Nat) : Int) = 0 from rfl, List.replicate_zero] at hmk
  have hB := Bk.new w 5 (vb [])
  have hcv := conv_bk (n := 0) hB rfl
  have hK := Kp.one w (.cells (vb []).toArray 5)
  go_enter Tryz.func61, Tryz.ntmps61
  go_wp2_with fail
  generalize hw1 : w.alloc (.cells (vb []).toArray 5) = w1 at hB hK hcv ⊢
  go_loop [6] (fun i => i = .int .i64 0) (fun i => 0)
  case atStart => exact rfl
  case round =>
    subst hrel
    go_wp2_with fail
    go_ret
    exact ⟨rfl, hK⟩
theorem fillS_zero (b : Int) : fillS b 0 = ⟨#[]⟩ := rfl
/-- Fill of any number that is not too great. -/
theorem fill_any (b : Int) (N : Int) (hlo : -9223372036854775808 ≤ N) (hhi : N ≤ 140737488351232) (w : World) :
    Calls Tryz.prog 61 #[.int .u8 b, .int .i64 N] w fun e w' => e = .returned (.string (fillS b N.toNat)) ∧ Kp w w' := by
  by_cases h : 0 ≤ N
  · have := fill_nn b N.toNat (by omega) w
    rwa [Int.toNat_of_nonneg h] at this
  · have := fill_neg b N (by omega) hlo w
    rwa [show N.toNat = 0 by omega, fillS_zero]
theorem extract_all (s : ByteArray) : s.extract 0 s.size = s := by
  apply ByteArray.ext
  rw [ByteArray.data_extract]
  exact Array.extract_eq_self_of_le (Nat.le_refl _)
theorem short_any (s : ByteArray) (n : Nat) (hs : s.size ≤ 9223372036854775807) (hn : n ≤ 9223372036854775807) (w : World) :
    Calls Tryz.prog 8 #[.string s, .int .i64 (n : Int)] w fun e w' => e = .returned (.string (s.extract 0 n)) ∧ w = w' := by
  by_cases h : s.size ≤ n
  · have e : s.extract 0 n = s := by
      apply ByteArray.ext
      rw [ByteArray.data_extract]
      exact Array.extract_eq_self_of_le (show s.data.size ≤ n from h)
    rw [e]
    go_enter Tryz.func8, Tryz.ntmps8
    go_wp2
    go_ret
    exact ⟨by first | rfl | rw [extract_all], rfl⟩
  · go_enter Tryz.func8, Tryz.ntmps8
    go_wp2
    go_ret
    exact ⟨by first | rfl | simp, rfl⟩
end Go.Proofs.YtnhogmheedeeiaaGreat
/- Rows of bytes, whatever lies behind them and whatever mark they bear. -/
namespace Go.Proofs.YtnhogmheedeeiaaGreat
open Go.RowKit
set_option linter.unusedVariables false
set_option maxRecDepth 20000

/-- Block g begins with these bytes, none of them frozen. -/
def By (W : World) (g : Nat) (xs : List Int) : Prop := ∃ (pad : List Value) (lo hi : Nat), W.heap[g]? = some (.cells (vb xs ++ pad).toArray 5 (lo, hi)) ∧ (hi ≤ lo ∨ xs.length ≤ lo)
section
variable {W W' : World} {g : Nat} {xs : List Int}
theorem By.lt (h : By W g xs) : g < W.heap.size := by
  obtain ⟨pad, lo, hi, h1, _⟩ := h
  exact (Array.getElem?_eq_some_iff.1 h1).1
theorem vb_len (xs : List Int) : (vb xs).length = xs.length := by simp [vb]
theorem By.cell (h : By W g xs) (i : Nat) (hi : i < xs.length) : W.cell? ⟨g, i, none⟩ = some (.int .u8 xs[i]) := by
  obtain ⟨pad, lo, hi', h1, _⟩ := h
  have := cell_of_row W g i _ _ _ h1
  rw [this]
  rw [List.getElem?_toArray, List.getElem?_append_left (by rw [vb_len]; exact hi), vb_get xs i hi]
theorem By.free (h : By W g xs) (i : Nat) (hi : i < xs.length) : W.frozen? ⟨g, i, none⟩ = false := by
  obtain ⟨pad, lo, hi', h1, h2⟩ := h
  simp only [World.frozen?, h1]
  simp
  omega
theorem By.of (h : Bk W g 5 (vb xs)) : By W g xs := ⟨[], 0, 0, by rw [List.append_nil]; exact h, Or.inl (Nat.le_refl _)⟩
theorem By.same (h : By W g xs) (e : W'.heap[g]? = W.heap[g]?) : By W' g xs := by
  obtain ⟨pad, lo, hi', h1, h2⟩ := h
  exact ⟨pad, lo, hi', e.trans h1, h2⟩
theorem By.drew (h : By W g xs) : By W.drew g xs := h
theorem By.alloc (h : By W g xs) (o : Obj) : By (W.alloc o) g xs := h.same (Below.heap_alloc W o g h.lt)
theorem By.keep (h : By W g xs) (k : Kp W W') : By W' g xs := h.same (Below.block k g h.lt)
theorem By.far (h : By W g xs) {p : Addr} (hp : g ≠ p.block) (u : Value) : By (W.setCell p u) g xs := h.same (Below.heap_setCell W p u g hp)
theorem By.put (h : By W g xs) (i : Nat) (hi : i < xs.length) (v : Int) : By (W.setCell ⟨g, i, none⟩ (.int .u8 v)) g (xs.set i v) := by
  obtain ⟨pad, lo, hi', h1, h2⟩ := h
  refine ⟨pad, lo, hi', ?_, by rw [List.length_set]; exact h2⟩
  simp only [World.setCell, Array.getElem?_modify, h1]
  simp
  rw [List.set_append_left _ _ (by rw [vb_len]; exact hi), vb_set]
theorem By.conv (h : By W g xs) {n c : Nat} (hz : xs.length = n) : (convert 55 9 (.slice (some ⟨g, 0, none⟩) n c)).run Tryz.prog W = .ok (.string (strOfNums xs)) W :=
  run_convert_bytes_arg W 55 5 Tryz.underlying55 Tryz.underlying5 g 0 n c xs hz (fun i hi => by
    rw [Nat.zero_add, h.cell i (by omega), List.getD_eq_getElem?_getD, List.getElem?_eq_getElem (by omega)]
    rfl) 9 Tryz.underlying9
/-- A part of it. -/
theorem By.convAt (h : By W g xs) {o n c : Nat} (hz : o + n ≤ xs.length) : (convert 55 9 (.slice (some ⟨g, o, none⟩) n c)).run Tryz.prog W = .ok (.string (strOfNums ((xs.drop o).take n))) W :=
  run_convert_bytes_arg W 55 5 Tryz.underlying55 Tryz.underlying5 g o n c _ (by simp [List.length_take, List.length_drop]; omega) (fun i hi => by
    rw [h.cell (o + i) (by omega), List.getD_eq_getElem?_getD, List.getElem?_take, if_pos hi, List.getElem?_drop, List.getElem?_eq_getElem (by omega)]; rfl) 9 Tryz.underlying9
end
/-- A string's bytes, as numbers. -/
def sb (s : ByteArray) : List Int := s.data.toList.map fun b => (b.toNat : Int)
theorem sb_len (s : ByteArray) : (sb s).length = s.size := by simp [sb]
theorem sb_nb (s : ByteArray) : sb s = (nb s).map fun (n : Nat) => (n : Int) := by simp [sb, nb]
/-- Numbers as a text. -/
def strN (ns : List Nat) : ByteArray := strOfNums (ns.map fun (n : Nat) => (n : Int))
theorem strN_size (ns : List Nat) : (strN ns).size = ns.length := by rw [strN, strOfNums_size, List.length_map]
theorem nb_strN (ns : List Nat) (h : ∀ n ∈ ns, n < 256) : nb (strN ns) = ns := by
  unfold nb strN
  rw [strOfNums_data, List.map_map, List.map_map]
  conv => rhs; rw [← List.map_id ns]
  apply List.map_congr_left
  intro n hn
  have := h n hn
  simp
  omega
theorem nb_ext0 (b : ByteArray) (k : Nat) : nb (b.extract 0 k) = (nb b).take k := by
  unfold nb
  rw [ByteArray.data_extract]
  simp [Array.toList_extract, List.extract, List.map_take]
theorem strN_nb (s : ByteArray) : strN (nb s) = s := nb_inj (nb_strN _ (nb_lt s))
set_option maxRecDepth 20000 in
/-- What makes bytes of a text. -/
theorem bytes_of (W : World) (s : ByteArray) (src : TypeId) {u : TypeDesc} (hs : Tryz.prog.underlying src = some u) :
    ∃ W' c, (convert src 55 (.string s)).run Tryz.prog W = .ok (.slice (some ⟨W.heap.size, 0, none⟩) s.size c) W' ∧ By W' W.heap.size (sb s) ∧ Kp W W' ∧ W'.heap.size = W.heap.size + 1 := by
  refine ⟨_, _, Lib.run_convert_string_bytes (P := Tryz.prog) W src 55 5 s hs Tryz.underlying55 Tryz.underlying5, ?_, ?_, Lib.bytesWorld_size _ _ _⟩
  · refine ⟨List.replicate (grownCap W s.size 0 5 - s.size) (.int .u8 0), (Lib.bytesCells W 5 s).size, (Lib.bytesCells W 5 s).size + 1, (Lib.bytesWorld_at_new W _ s).trans ?_, Or.inr (?_ : (sb s).length ≤ (Lib.bytesCells W 5 s).size)⟩
    · congr 2
      simp [Lib.bytesCells, vb, sb]
    · rw [sb_len]
      simp [Lib.bytesCells]
  · refine ⟨rfl, rfl, rfl, by rw [Lib.bytesWorld_size]; omega, fun b hb => Lib.bytesWorld_at_old W _ s b hb⟩
end Go.Proofs.YtnhogmheedeeiaaGreat
/- The contracts of package geom, of the reference's sizes, and of cachepotbook.Geom, Pick. -/
namespace Go.Proofs.YtnhogmheedeeiaaGreat
open Go.RowKit
set_option linter.unusedVariables false
set_option maxRecDepth 20000

set_option maxHeartbeats 400000 in
theorem bgeom_any (p s r : Int) (hp : -9223372036854775808 ≤ p ∧ p ≤ 9223372036854775807) (hs : -9223372036854775808 ≤ s ∧ s ≤ 9223372036854775807) (hr : -9223372036854775808 ≤ r ∧ r ≤ 9223372036854775807) (w : World) :
    Calls Tryz.prog 4 #[.agg #[.int .i64 p, .int .i64 s, .int .i64 r]] w fun e w' => e = .returned (.agg #[.int .i64 (32 + p % 33), .int .i64 (3 + s % 4), .int .i64 (4 + r % 4)]) ∧ Kp w w' := by
  have e1 : IntKind.i64.wrap (32 + p % 33) = 32 + p % 33 := IntWalk.i64_in _ (by omega)
  have e2 : IntKind.i64.wrap (3 + s % 4) = 3 + s % 4 := IntWalk.i64_in _ (by omega)
  have e3 : IntKind.i64.wrap (4 + r % 4) = 4 + r % 4 := IntWalk.i64_in _ (by omega)
  go_enter Tryz.func4, Tryz.ntmps4
  go_wp2_with fail
  go_region_held3 (fun (W : World) => W.cell? ⟨w.heap.size, 0, none⟩ = some (.int .i64 p) ∧ W.cell? ⟨w.heap.size, 1, none⟩ = some (.int .i64 s) ∧ W.cell? ⟨w.heap.size, 2, none⟩ = some (.int .i64 r)) (go_keep)
    (first
      | (go_at_call 7; refine (pick_any _ _ (by omega) (by omega) (by omega) (by omega) _).mono ?_; rintro e w' ⟨rfl, rfl⟩))
  go_wp2
  refine bodyPost_ret (v := .agg #[.int .i64 (32 + p % 33), .int .i64 (3 + s % 4), .int .i64 (4 + r % 4)]) (by simp [results, Tryz.results4, go_sem]) rfl ⟨rfl, ?_⟩
  repeat (first | exact Kp.refl _ | refine Kp.alloc ?_ _ | refine Kp.drew ?_)

abbrev geo (p s r : Int) : Value := .agg #[.int .i64 p, .int .i64 s, .int .i64 r]
/-- A geom that may be. -/
def RightG (p s r : Int) : Prop := 32 ≤ p ∧ p ≤ 128 ∧ 3 ≤ s ∧ s ≤ 10 ∧ 4 ≤ r ∧ r ≤ 12

/-- A geom's box. -/
abbrev gob (p s r : Int) : Obj := .cells #[.int .i64 p, .int .i64 s, .int .i64 r] 23
theorem notRight {p s r : Int} (h : ¬ RightG p s r) : p < 32 ∨ (32 ≤ p ∧ 128 < p) ∨ (32 ≤ p ∧ p ≤ 128 ∧ s < 3) ∨ (32 ≤ p ∧ p ≤ 128 ∧ 3 ≤ s ∧ 10 < s) ∨ (32 ≤ p ∧ p ≤ 128 ∧ 3 ≤ s ∧ s ≤ 10 ∧ r < 4) ∨ (32 ≤ p ∧ p ≤ 128 ∧ 3 ≤ s ∧ s ≤ 10 ∧ 4 ≤ r ∧ 12 < r) := by
  unfold RightG at h; omega

set_option maxHeartbeats 400000 in
theorem right_yes (p s r : Int) (h : RightG p s r) (w : World) :
    Calls Tryz.prog 57 #[geo p s r] w fun e w' => e = .returned (.bool true) ∧ w.alloc (gob p s r) = w' := by
  obtain ⟨h1, h2, h3, h4, h5, h6⟩ := h
  go_enter Tryz.func57, Tryz.ntmps57
  go_wp2
  go_ret
  exact ⟨rfl, rfl⟩

set_option maxHeartbeats 800000 in
theorem right_no (p s r : Int) (h : ¬ RightG p s r) (w : World) :
    Calls Tryz.prog 57 #[geo p s r] w fun e w' => e = .returned (.bool false) ∧ w.alloc (gob p s r) = w' := by
  have h' := notRight h
  clear h
  rcases h' with h1 | ⟨h1, h2⟩ | ⟨h1, h2, h3⟩ | ⟨h1, h2, h3, h4⟩ | ⟨h1, h2, h3, h4, h5⟩ | ⟨h1, h2, h3, h4, h5, h6⟩
  all_goals
    go_enter Tryz.func57, Tryz.ntmps57
    go_wp2
    go_ret
    first | exact ⟨rfl, rfl⟩ | exact ⟨ret_bool (by simp; omega), rfl⟩

set_option maxHeartbeats 400000 in
theorem rright_yes (p s r : Int) (h : RightG p s r) (w : World) :
    Calls Tryz.prog 78 #[geo p s r] w fun e w' => e = .returned (.bool true) ∧ w.alloc (gob p s r) = w' := by
  obtain ⟨h1, h2, h3, h4, h5, h6⟩ := h
  go_enter Tryz.func78, Tryz.ntmps78
  go_wp2
  go_ret
  exact ⟨rfl, rfl⟩

set_option maxHeartbeats 800000 in
theorem rright_no (p s r : Int) (h : ¬ RightG p s r) (w : World) :
    Calls Tryz.prog 78 #[geo p s r] w fun e w' => e = .returned (.bool false) ∧ w.alloc (gob p s r) = w' := by
  have h' := notRight h
  clear h
  rcases h' with h1 | ⟨h1, h2⟩ | ⟨h1, h2, h3⟩ | ⟨h1, h2, h3, h4⟩ | ⟨h1, h2, h3, h4, h5⟩ | ⟨h1, h2, h3, h4, h5, h6⟩
  all_goals
    go_enter Tryz.func78, Tryz.ntmps78
    go_wp2
    go_ret
    first | exact ⟨rfl, rfl⟩ | exact ⟨ret_bool (by simp; omega), rfl⟩

theorem mul3 {p s r : Int} (h : RightG p s r) : 0 ≤ p * s ∧ p * s ≤ 1280 ∧ 0 ≤ p * s * r ∧ p * s * r ≤ 15360 := by
  obtain ⟨h1, h2, h3, h4, h5, h6⟩ := h
  have a1 : 0 ≤ p * s := Int.mul_nonneg (by omega) (by omega)
  have a2 : p * s ≤ 128 * 10 := Int.mul_le_mul h2 h4 (by omega) (by omega)
  exact ⟨a1, by omega, Int.mul_nonneg a1 (by omega), Int.le_trans (Int.mul_le_mul a2 h6 (by omega) (by omega)) (by omega)⟩
theorem mul2 {a b : Int} (ha : 0 ≤ a) (ha2 : a ≤ 200) (hb : 0 ≤ b) (hb2 : b ≤ 200) : 0 ≤ a * b ∧ a * b ≤ 40000 :=
  ⟨Int.mul_nonneg ha hb, Int.le_trans (Int.mul_le_mul ha2 hb2 hb (by omega)) (by omega)⟩
set_option maxHeartbeats 400000 in
theorem slots_yes (p s r : Int) (h : RightG p s r) (w : World) :
    Calls Tryz.prog 55 #[geo p s r] w fun e w' => e = .returned (.int .i64 (s - 1)) ∧ (w.alloc (gob p s r)).alloc (gob p s r) = w' := by
  obtain ⟨h1, h2, h3, h4, h5, h6⟩ := id h
  go_enter Tryz.func55, Tryz.ntmps55
  go_wp2_with fail
  refine (right_yes p s r h _).mono ?_
  rintro e w' ⟨rfl, rfl⟩
  go_wp2_with fail
  go_ret
  exact ⟨rfl, rfl⟩

set_option maxHeartbeats 400000 in
theorem slots_no (p s r : Int) (h : ¬ RightG p s r) (w : World) :
    Calls Tryz.prog 55 #[geo p s r] w fun e w' => e = .returned (.int .i64 0) ∧ (w.alloc (gob p s r)).alloc (gob p s r) = w' := by
  go_enter Tryz.func55, Tryz.ntmps55
  go_wp2_with fail
  refine (right_no p s r h _).mono ?_
  rintro e w' ⟨rfl, rfl⟩
  go_wp2_with fail
  go_ret
  exact ⟨rfl, rfl⟩

set_option maxHeartbeats 400000 in
theorem room_yes (p s r : Int) (h : RightG p s r) (w : World) :
    Calls Tryz.prog 74 #[geo p s r] w fun e w' => e = .returned (.int .i64 (p - 15)) ∧ (w.alloc (gob p s r)).alloc (gob p s r) = w' := by
  obtain ⟨h1, h2, h3, h4, h5, h6⟩ := id h
  go_enter Tryz.func74, Tryz.ntmps74
  go_wp2_with fail
  refine (right_yes p s r h _).mono ?_
  rintro e w' ⟨rfl, rfl⟩
  go_wp2_with fail
  go_ret
  exact ⟨rfl, rfl⟩

set_option maxHeartbeats 400000 in
theorem room_no (p s r : Int) (h : ¬ RightG p s r) (w : World) :
    Calls Tryz.prog 74 #[geo p s r] w fun e w' => e = .returned (.int .i64 0) ∧ (w.alloc (gob p s r)).alloc (gob p s r) = w' := by
  go_enter Tryz.func74, Tryz.ntmps74
  go_wp2_with fail
  refine (right_no p s r h _).mono ?_
  rintro e w' ⟨rfl, rfl⟩
  go_wp2_with fail
  go_ret
  exact ⟨rfl, rfl⟩

set_option maxHeartbeats 400000 in
theorem bytes_yes (p s r : Int) (h : RightG p s r) (w : World) :
    Calls Tryz.prog 58 #[geo p s r] w fun e w' => e = .returned (.int .i64 (p * s * r)) ∧ (w.alloc (gob p s r)).alloc (gob p s r) = w' := by
  obtain ⟨h1, h2, h3, h4, h5, h6⟩ := id h
  obtain ⟨m1, m2, m3, m4⟩ := mul3 h
  go_enter Tryz.func58, Tryz.ntmps58
  go_wp2_with fail
  refine (right_yes p s r h _).mono ?_
  rintro e w' ⟨rfl, rfl⟩
  go_wp2_with fail
  go_ret
  exact ⟨rfl, rfl⟩

set_option maxHeartbeats 400000 in
theorem bytes_no (p s r : Int) (h : ¬ RightG p s r) (w : World) :
    Calls Tryz.prog 58 #[geo p s r] w fun e w' => e = .returned (.int .i64 0) ∧ (w.alloc (gob p s r)).alloc (gob p s r) = w' := by
  go_enter Tryz.func58, Tryz.ntmps58
  go_wp2_with fail
  refine (right_no p s r h _).mono ?_
  rintro e w' ⟨rfl, rfl⟩
  go_wp2_with fail
  go_ret
  exact ⟨rfl, rfl⟩

/-- A geom's cells. -/
def Gat (w : World) (g : Nat) (p s r : Int) : Prop := w.cell? ⟨g, 0, none⟩ = some (.int .i64 p) ∧ w.cell? ⟨g, 1, none⟩ = some (.int .i64 s) ∧ w.cell? ⟨g, 2, none⟩ = some (.int .i64 r)
theorem Gat.keep {w w' : World} {g : Nat} {p s r : Int} (h : Gat w g p s r) (k : Kp w w') : Gat w' g p s r := ⟨k.cell h.1, k.cell h.2.1, k.cell h.2.2⟩
/-- A geom's box: its cells, none of them frozen. -/
def Gbx (w : World) (g : Nat) (p s r : Int) : Prop := Bk w g 23 [.int .i64 p, .int .i64 s, .int .i64 r]
theorem Gbx.new (w : World) (p s r : Int) : Gbx (w.alloc (gob p s r)) w.heap.size p s r := Bk.new w _ _
theorem Gbx.keep {w w' : World} {g : Nat} {p s r : Int} (h : Gbx w g p s r) (k : Kp w w') : Gbx w' g p s r := Bk.keep h k
theorem Gbx.cells {w : World} {g : Nat} {p s r : Int} (h : Gbx w g p s r) : Gat w g p s r := ⟨Bk.cell h 0, Bk.cell h 1, Bk.cell h 2⟩
theorem Gbx.free {w : World} {g : Nat} {p s r : Int} (h : Gbx w g p s r) : w.frozen? ⟨g, 0, none⟩ = false ∧ w.frozen? ⟨g, 1, none⟩ = false ∧ w.frozen? ⟨g, 2, none⟩ = false := ⟨Bk.free h 0, Bk.free h 1, Bk.free h 2⟩
theorem Gbx.put {w : World} {g : Nat} {p s r p' s' r' : Int} (h : Gbx w g p s r) :
    Gbx (((w.setCell ⟨g, 0, none⟩ (.int .i64 p')).setCell ⟨g, 1, none⟩ (.int .i64 s')).setCell ⟨g, 2, none⟩ (.int .i64 r')) g p' s' r' := ((Bk.put h 0 _).put 1 _).put 2 _
theorem Gat.new (w : World) (p s r : Int) : Gat (w.alloc (gob p s r)) w.heap.size p s r := by
  refine ⟨?_, ?_, ?_⟩ <;> (rw [World.cell?_alloc_at _ _ _ _ rfl]; rfl)





/-- How many pages are needed. -/
def needZ (p n : Int) : Int := if n ≤ 0 then 2 else if n ≤ 1048576 then (n + (p - 15) - 1) / (p - 15) + 1 else (1048576 + (p - 15) - 1) / (p - 15) + 1
theorem need_div (a b : Int) (hb : 1 ≤ b) (hb2 : b ≤ 113) (ha : 0 ≤ a) (ha2 : a ≤ 1048576) : 0 ≤ a + b - 1 ∧ (a + b - 1).tdiv b = (a + b - 1) / b ∧ 0 ≤ (a + b - 1) / b ∧ (a + b - 1) / b ≤ 1048700 := by
  have h0 : 0 ≤ a + b - 1 := by omega
  refine ⟨h0, Int.tdiv_eq_ediv_of_nonneg h0, Int.ediv_nonneg h0 (by omega), Int.le_trans (Int.ediv_le_self _ h0) (by omega)⟩
theorem div_pos1 (a b : Int) (hb : 1 ≤ b) (ha : 1 ≤ a) : 1 ≤ (a + b - 1) / b := by
  rw [Int.le_ediv_iff_mul_le (by omega)]; omega




/-- A page's number. -/
theorem page_lt {p s r a b : Int} (h : RightG p s r) (ha : 0 ≤ a) (ha2 : a < r) (hb : 0 ≤ b) (hb2 : b < s) : 0 ≤ a * s ∧ a * s ≤ 120 ∧ a * s + b < s * r := by
  obtain ⟨h1, h2, h3, h4, h5, h6⟩ := h
  have := Int.mul_le_mul (show a ≤ r - 1 by omega) (Int.le_refl s) (by omega) (by omega)
  have e : (r - 1) * s = s * r - s := by rw [Int.sub_mul, Int.one_mul, Int.mul_comm]
  have m := mul2 (a := a) (b := s) (by omega) (by omega) (by omega) (by omega)
  have : a * s ≤ 12 * 10 := Int.mul_le_mul (by omega) h4 (by omega) (by omega)
  omega
set_option maxHeartbeats 400000 in
theorem page_yes (p s r a b : Int) (h : RightG p s r) (ha : 0 ≤ a) (ha2 : a < r) (hb : 0 ≤ b) (hb2 : b < s) (w : World) :
    Calls Tryz.prog 77 #[geo p s r, .int .i64 a, .int .i64 b] w fun e w' => e = .returned (.tuple #[.int .i64 (a * s + b), .bool true]) ∧ Kp w w' := by
  obtain ⟨h1, h2, h3, h4, h5, h6⟩ := id h
  obtain ⟨m1, m2, m3⟩ := page_lt h ha ha2 hb hb2
  have x1 : decide (r ≤ a) = false := by simp; omega
  have x2 : decide (s ≤ b) = false := by simp; omega
  go_enter Tryz.func77, Tryz.ntmps77
  go_wp2_with fail
  refine (right_yes p s r h _).mono ?_
  rintro e w' ⟨rfl, rfl⟩
  go_wp2_with fail
  go_ret2
  refine ⟨rfl, ?_⟩
  repeat (first | exact Kp.refl _ | refine Kp.alloc ?_ _ | refine Kp.drew ?_)

set_option maxHeartbeats 800000 in
theorem page_no (p s r a b : Int) (h : ¬ RightG p s r ∨ a < 0 ∨ r ≤ a ∨ b < 0 ∨ s ≤ b) (w : World) :
    Calls Tryz.prog 77 #[geo p s r, .int .i64 a, .int .i64 b] w fun e w' => e = .returned (.tuple #[.int .i64 0, .bool false]) ∧ Kp w w' := by
  by_cases hr : RightG p s r
  · have h' : a < 0 ∨ (0 ≤ a ∧ r ≤ a) ∨ (0 ≤ a ∧ a < r ∧ b < 0) ∨ (0 ≤ a ∧ a < r ∧ 0 ≤ b ∧ s ≤ b) := by
      rcases h with h | h
      · exact absurd hr h
      · omega
    clear h
    rcases h' with h1 | ⟨h1, h2⟩ | ⟨h1, h2, h3⟩ | ⟨h1, h2, h3, h4⟩
    all_goals
      go_enter Tryz.func77, Tryz.ntmps77
      go_wp2_with fail
      refine (right_yes p s r hr _).mono ?_
      rintro e w' ⟨rfl, rfl⟩
      go_wp2_with fail
      go_ret2
      refine ⟨rfl, ?_⟩
      repeat (first | exact Kp.refl _ | refine Kp.alloc ?_ _ | refine Kp.drew ?_)
  · clear h
    go_enter Tryz.func77, Tryz.ntmps77
    go_wp2_with fail
    refine (right_no p s r hr _).mono ?_
    rintro e w' ⟨rfl, rfl⟩
    go_wp2_with fail
    go_ret2
    refine ⟨rfl, ?_⟩
    repeat (first | exact Kp.refl _ | refine Kp.alloc ?_ _ | refine Kp.drew ?_)

end Go.Proofs.YtnhogmheedeeiaaGreat
/- The contracts of geom.Where and of the reference's sizes. -/
namespace Go.Proofs.YtnhogmheedeeiaaGreat
open Go.RowKit
set_option linter.unusedVariables false
set_option maxRecDepth 20000

theorem div_mod_bd {s r n : Int} (hs : 3 ≤ s) (hs2 : s ≤ 10) (hn : 0 ≤ n) (hn2 : n < s * r) (hr2 : r ≤ 12) : 0 ≤ n / s ∧ n / s < r ∧ 0 ≤ n % s ∧ n % s < s ∧ n / s * s + n % s = n := by
  refine ⟨Int.ediv_nonneg hn (by omega), Int.ediv_lt_of_lt_mul (by omega) (by rw [Int.mul_comm]; exact hn2), Int.emod_nonneg _ (by omega), Int.emod_lt_of_pos _ (by omega), ?_⟩
  have := Int.mul_ediv_add_emod n s
  rw [Int.mul_comm]; omega
theorem mul_sr {p s r : Int} (h : RightG p s r) : 0 ≤ s * r ∧ s * r ≤ 120 ∧ 0 ≤ r * s ∧ r * s ≤ 120 ∧ r * s = s * r := by
  obtain ⟨h1, h2, h3, h4, h5, h6⟩ := h
  have a1 : 0 ≤ s * r := Int.mul_nonneg (by omega) (by omega)
  have a2 : s * r ≤ 10 * 12 := Int.mul_le_mul h4 h6 (by omega) (by omega)
  have e := Int.mul_comm r s
  omega


set_option maxHeartbeats 400000 in
theorem rslots_any (p s r : Int) (h : RightG p s r) (w : World) :
    Calls Tryz.prog 56 #[geo p s r] w fun e w' => e = .returned (.int .i64 (s - 1)) ∧ w.alloc (gob p s r) = w' := by
  obtain ⟨h1, h2, h3, h4, h5, h6⟩ := id h
  go_enter Tryz.func56, Tryz.ntmps56
  go_wp2_with fail
  go_ret
  exact ⟨rfl, rfl⟩

set_option maxHeartbeats 400000 in
theorem rroom_any (p s r : Int) (h : RightG p s r) (w : World) :
    Calls Tryz.prog 9 #[geo p s r] w fun e w' => e = .returned (.int .i64 (p - 15)) ∧ w.alloc (gob p s r) = w' := by
  obtain ⟨h1, h2, h3, h4, h5, h6⟩ := id h
  go_enter Tryz.func9, Tryz.ntmps9
  go_wp2_with fail
  go_ret
  exact ⟨rfl, rfl⟩

set_option maxHeartbeats 400000 in
theorem rsize_any (p s r : Int) (h : RightG p s r) (w : World) :
    Calls Tryz.prog 62 #[geo p s r] w fun e w' => e = .returned (.int .i64 (p * s * r)) ∧ w.alloc (gob p s r) = w' := by
  obtain ⟨h1, h2, h3, h4, h5, h6⟩ := id h
  obtain ⟨m1, m2, m3, m4⟩ := mul3 h
  go_enter Tryz.func62, Tryz.ntmps62
  go_wp2_with fail
  go_ret
  exact ⟨rfl, rfl⟩





end Go.Proofs.YtnhogmheedeeiaaGreat
/- A region that draws its order, whose first operations may make memory of their own: each operation's value is told by a fact that later memory does not turn; one look at each operation serves every order. -/
namespace Go.Proofs.YtnhogmheedeeiaaGreat
open Go.RowKit
set_option linter.unusedVariables false
set_option maxRecDepth 20000

abbrev Vals := Nat → Value
abbrev Fact := Value → World → Prop
/-- What is asked of an operation that was carried out in w: a world further on, and the fact of its value. -/
def relUpon (P : Program) (R : World → World → Prop) (w : World) (F : Fact) : Result Next → Prop
  | .ok (.value u) w' => R w w' ∧ F u w'
  | .ok .skip w' => R w w' ∧ F undef w'
  | .ok (.enter g args) w' => R w w' ∧ Calls P g args w' (fun e w'' => ∃ v, e = .returned v ∧ R w' w'' ∧ F v w'')
  | _ => False
def relOp (P : Program) (ops : Array Oper) (R : World → World → Prop) (o : Oper) (a : Act) (w : World) (F : Fact) : Prop :=
  if Region.wanted o (yielded ops a.tmps) then relUpon P R w F ((execOp a.eval o).run P w) else F undef w
def factOf (Fs : List Fact) (f : Vals) (w : World) (j : Nat) : Prop :=
  match Fs[j]? with
  | some F => F (f j) w
  | none => True
/-- The facts that an operation may lean on: of those that it waits for. -/
def deps (md : Region.Mode) (o : Oper) (Fs : List Fact) (f : Vals) (w : World) : Prop := ∀ e ∈ o.after, Region.binds md e = true → factOf Fs f w e.on
def Stable (R : World → World → Prop) (F : Fact) : Prop := ∀ v w w', R w w' → F v w → F v w'

section
variable {P : Program} {md : Region.Mode} {ops : Array Oper} {R : World → World → Prop} {C : World → Prop}

/-- The operations in the text's order, the values behind variables. -/
def wpRel (P : Program) (md : Region.Mode) (ops : Array Oper) (R : World → World → Prop) (C : World → Prop) (Q : List Fact → (Vals → Act) → Prop) : List Oper → List Fact → (Vals → Act) → Prop
  | [], Fs, A => Q Fs A
  | o :: l, Fs, A => ∃ F : Fact, Stable R F ∧ (∀ f w, C w → deps md o Fs f w → relOp P ops R o (A f) w F) ∧ wpRel P md ops R C Q l (Fs ++ [F]) (fun f => (A f).put o.dst (f Fs.length))
theorem wpRel_nil {Q : List Fact → (Vals → Act) → Prop} {Fs : List Fact} {A : Vals → Act} (h : Q Fs A) : wpRel P md ops R C Q [] Fs A := h
def putF (f : Vals) : List Oper → Nat → Act → Act
  | [], _, a => a
  | o :: l, k, a => putF f l (k + 1) (a.put o.dst (f k))
theorem putF_snoc (f : Vals) (o : Oper) : ∀ (l : List Oper) (k : Nat) (a : Act), putF f (l ++ [o]) k a = (putF f l k a).put o.dst (f (k + l.length))
  | [], k, a => rfl
  | p :: l, k, a => by
    simp only [List.cons_append, putF, List.length_cons]
    rw [putF_snoc f o l (k + 1) _]
    congr 2
    omega
theorem wpRel_out {Q : List Fact → (Vals → Act) → Prop} : ∀ (l : List Oper) (Fs : List Fact) (A : Vals → Act), wpRel P md ops R C Q l Fs A →
    ∃ Gs : List Fact, Gs.length = l.length ∧ (∀ i o, l[i]? = some o → ∃ F, Gs[i]? = some F ∧ Stable R F ∧ ∀ f w, C w → deps md o (Fs ++ Gs.take i) f w → relOp P ops R o (putF f (l.take i) Fs.length (A f)) w F) ∧
      Q (Fs ++ Gs) (fun f => putF f l Fs.length (A f))
  | [], Fs, A, h => ⟨[], rfl, fun i o ho => by simp at ho, by rw [List.append_nil]; exact h⟩
  | o :: l, Fs, A, h => by
    obtain ⟨F, hs, hob, hr⟩ := h
    obtain ⟨Gs, hl, hi, hq⟩ := wpRel_out l _ _ hr
    refine ⟨F :: Gs, by simp [hl], fun i o' ho => ?_, ?_⟩
    · cases i with
      | zero =>
        have e : o' = o := by simpa using ho.symm
        subst e
        exact ⟨F, rfl, hs, fun f w hc hd => by simpa [putF] using hob f w hc (by simpa using hd)⟩
      | succ i =>
        obtain ⟨F', h1, h2, h3⟩ := hi i o' (by simpa using ho)
        refine ⟨F', by simpa using h1, h2, fun f w hc hd => ?_⟩
        have := h3 f w hc (by simpa using hd)
        simpa [putF] using this
    · simpa [putF] using hq
theorem wpRel_step {Q : List Fact → (Vals → Act) → Prop} {o : Oper} {l : List Oper} {Fs : List Fact} {A : Vals → Act}
    (h : ∀ K : List Fact → (Vals → Act) → Prop, (∀ Gs B, wpRel P md ops R C Q l Gs B → K Gs B) → ∃ F : Fact, Stable R F ∧ (∀ f w, C w → deps md o Fs f w → relOp P ops R o (A f) w F) ∧ K (Fs ++ [F]) (fun f => (A f).put o.dst (f Fs.length))) :
    wpRel P md ops R C Q (o :: l) Fs A := h _ (fun _ _ h => h)

/-- An operation whose value hangs on no world. -/
theorem rel_eq {K : List Fact → (Vals → Act) → Prop} {o : Oper} {Fs : List Fact} {A : Vals → Act} (c : Value) (ob : ∀ f w, C w → deps md o Fs f w → relOp P ops R o (A f) w (fun v _ => v = c)) (k : K (Fs ++ [fun v _ => v = c]) (fun f => (A f).put o.dst (f Fs.length))) :
    ∃ F : Fact, Stable R F ∧ (∀ f w, C w → deps md o Fs f w → relOp P ops R o (A f) w F) ∧ K (Fs ++ [F]) (fun f => (A f).put o.dst (f Fs.length)) := ⟨_, fun _ _ _ _ h => h, ob, k⟩
/-- An operation whose value is told by a fact. -/
theorem rel_fact {K : List Fact → (Vals → Act) → Prop} {o : Oper} {Fs : List Fact} {A : Vals → Act} (F : Fact) (hs : Stable R F) (ob : ∀ f w, C w → deps md o Fs f w → relOp P ops R o (A f) w F) (k : K (Fs ++ [F]) (fun f => (A f).put o.dst (f Fs.length))) :
    ∃ F : Fact, Stable R F ∧ (∀ f w, C w → deps md o Fs f w → relOp P ops R o (A f) w F) ∧ K (Fs ++ [F]) (fun f => (A f).put o.dst (f Fs.length)) := ⟨F, hs, ob, k⟩
@[go_sem] theorem relUpon_value (w w' : World) (F : Fact) (u : Value) : relUpon P R w F (.ok (.value u) w') = (R w w' ∧ F u w') := rfl
@[go_sem] theorem relUpon_skip (w w' : World) (F : Fact) : relUpon P R w F (.ok .skip w') = (R w w' ∧ F undef w') := rfl
@[go_sem] theorem relUpon_enter (w w' : World) (F : Fact) (g : FuncId) (args : Array Value) : relUpon P R w F (.ok (.enter g args) w') = (R w w' ∧ Calls P g args w' (fun e w'' => ∃ v, e = .returned v ∧ R w' w'' ∧ F v w'')) := rfl

/-! The frame behind some operations. -/
theorem putA_size (a : Act) (d : Option Tmp) (v : Value) : (a.put d v).tmps.size = a.tmps.size := by cases d <;> simp [Act.put]
theorem putA_defs (a : Act) (d : Option Tmp) (v : Value) : (a.put d v).defers = a.defers := by cases d <;> rfl
theorem putA_at (a : Act) (d : Tmp) (v : Value) (h : d < a.tmps.size) : (a.put (some d) v).tmps[d]? = some v := by simp [Act.put, h]
theorem putA_off (a : Act) (d : Option Tmp) (v : Value) (t : Tmp) (h : d ≠ some t) : (a.put d v).tmps[t]? = a.tmps[t]? := by
  cases d with
  | none => rfl
  | some d =>
    have : d ≠ t := fun e => h (by rw [e])
    simp [Act.put, Array.getElem?_setIfInBounds_ne this]
theorem putF_size (f : Vals) : ∀ (l : List Oper) (k : Nat) (a : Act), (putF f l k a).tmps.size = a.tmps.size
  | [], _, _ => rfl
  | o :: l, k, a => by rw [putF, putF_size f l, putA_size]
theorem putF_defs (f : Vals) : ∀ (l : List Oper) (k : Nat) (a : Act), (putF f l k a).defers = a.defers
  | [], _, _ => rfl
  | o :: l, k, a => by rw [putF, putF_defs f l, putA_defs]
theorem putF_off (f : Vals) (t : Tmp) : ∀ (l : List Oper) (k : Nat) (a : Act), (∀ (j : Nat) (o : Oper), l[j]? = some o → o.dst ≠ some t) → (putF f l k a).tmps[t]? = a.tmps[t]?
  | [], _, _, _ => rfl
  | o :: l, k, a, h => by
    rw [putF, putF_off f t l _ _ (fun j o' ho => h (j + 1) o' (by simpa using ho)), putA_off _ _ _ _ (h 0 o rfl)]
theorem putF_at (f : Vals) (t : Tmp) : ∀ (l : List Oper) (k : Nat) (a : Act) (j : Nat) (o : Oper), l[j]? = some o → o.dst = some t → (∀ j' o', l[j']? = some o' → o'.dst = some t → j' = j) → t < a.tmps.size → (putF f l k a).tmps[t]? = some (f (k + j))
  | [], _, _, j, o, h, _, _, _ => by simp at h
  | p :: l, k, a, j, o, h, hd, hu, ht => by
    rw [putF]
    cases j with
    | zero =>
      have e : p = o := by simpa using h
      subst e
      rw [putF_off f t l _ _ (fun j o' ho hd' => by have := hu (j + 1) o' (by simpa using ho) hd'; omega), hd, putA_at _ _ _ ht]
      rfl
    | succ j =>
      rw [putF_at f t l (k + 1) _ j o (by simpa using h) hd (fun j' o' ho hd' => by have := hu (j' + 1) o' (by simpa using ho) hd'; omega) (by rw [putA_size]; exact ht)]
      congr 2
      omega

/-- All that is asked of the operations themselves. -/
def relB (md : Region.Mode) (ops : Array Oper) (n : Nat) : Bool :=
  Region.noSelect ops && decide (n ≤ ops.size) && (List.range n).all fun i =>
    match ops[i]? with
    | none => false
    | some o =>
      (o.after.all fun e => !Region.binds md e || decide (e.on < i)) &&
      (List.range n).all fun j =>
        match ops[j]? with
        | none => false
        | some o' =>
          (decide (i = j) || o.dst.isNone || o.dst != o'.dst) &&
          (match o'.dst with
           | none => true
           | some t => !(o.looksAt ops).contains t || (decide (j < i) && o.after.any fun e => Region.binds md e && decide (e.on = j)) || (decide (i < j) && o'.after.any fun e => Region.binds md e && decide (e.on = i)))
structure RelOk (md : Region.Mode) (ops : Array Oper) (n : Nat) : Prop where
  sel : ∀ (j : Nat) (o : Oper) cs b, ops[j]? = some o → o.op ≠ .select cs b
  le : n ≤ ops.size
  back : ∀ i o, i < n → ops[i]? = some o → ∀ e ∈ o.after, Region.binds md e = true → e.on < i
  one : ∀ i j o o' t, i < n → j < n → ops[i]? = some o → ops[j]? = some o' → o.dst = some t → o'.dst = some t → i = j
  look : ∀ i j o o' t, i < n → j < n → ops[i]? = some o → ops[j]? = some o' → o'.dst = some t → t ∈ o.looksAt ops → (j < i ∧ ∃ e ∈ o.after, Region.binds md e = true ∧ e.on = j) ∨ (i < j ∧ ∃ e ∈ o'.after, Region.binds md e = true ∧ e.on = i)
theorem relB_ok {n : Nat} (h : relB md ops n = true) : RelOk md ops n := by
  simp only [relB, Bool.and_eq_true, decide_eq_true_eq] at h
  obtain ⟨⟨h1, h2⟩, h3⟩ := h
  have key : ∀ i o, i < n → ops[i]? = some o → (∀ e ∈ o.after, Region.binds md e = true → e.on < i) ∧ ∀ j o', j < n → ops[j]? = some o' →
      (i = j ∨ o.dst = none ∨ o.dst ≠ o'.dst) ∧ ∀ t, o'.dst = some t → t ∈ o.looksAt ops → (j < i ∧ ∃ e ∈ o.after, Region.binds md e = true ∧ e.on = j) ∨ (i < j ∧ ∃ e ∈ o'.after, Region.binds md e = true ∧ e.on = i) := by
    intro i o hi ho
    have := List.all_eq_true.1 h3 i (List.mem_range.2 hi)
    simp only [ho, Bool.and_eq_true] at this
    obtain ⟨ha, hb⟩ := this
    refine ⟨fun e he hbd => ?_, fun j o' hj ho' => ?_⟩
    · have := (Array.all_eq_true'.1 ha) e he
      simpa [hbd] using this
    · have := List.all_eq_true.1 hb j (List.mem_range.2 hj)
      simp only [ho', Bool.and_eq_true, Bool.or_eq_true, decide_eq_true_eq, Option.isNone_iff_eq_none, bne_iff_ne] at this
      obtain ⟨hc, hd⟩ := this
      refine ⟨by rcases hc with (hc | hc) | hc; exact Or.inl hc; exact Or.inr (Or.inl hc); exact Or.inr (Or.inr hc), fun t ht hl => ?_⟩
      rw [ht] at hd
      simp only [Bool.or_eq_true, Bool.and_eq_true, decide_eq_true_eq, Bool.not_eq_true', Array.any_eq_true'] at hd
      rcases hd with (hd | ⟨hd, e, he, hb1, hb2⟩) | ⟨hd, e, he, hb1, hb2⟩
      · simp [hl] at hd
      · exact Or.inl ⟨hd, e, he, hb1, hb2⟩
      · exact Or.inr ⟨hd, e, he, hb1, hb2⟩
  refine ⟨Region.noSelect_spec h1, h2, fun i o hi ho => (key i o hi ho).1, fun i j o o' t hi hj ho ho' hd hd' => ?_, fun i j o o' t hi hj ho ho' hd ht => ((key i o hi ho).2 j o' hj ho').2 t hd ht⟩
  rcases ((key i o hi ho).2 j o' hj ho').1 with h | h | h
  · exact h
  · rw [hd] at h; cases h
  · exact absurd (hd.trans hd'.symm) h

/-- What holds while operations come up. -/
structure RInv (ops : Array Oper) (n : Nat) (Fs : List Fact) (C : World → Prop) (a0 : Act) (L : Array Bool) (a : Act) (w : World) (f : Vals) : Prop where
  cw : C w
  facts : ∀ (j : Nat) (F : Fact), L.getD j false = true → Fs[j]? = some F → F (f j) w
  defs : a.defers = a0.defers
  size : a.tmps.size = a0.tmps.size
  here : ∀ j o t, j < n → ops[j]? = some o → L.getD j false = true → o.dst = some t → t < a0.tmps.size → a.tmps[t]? = some (f j)
  off : ∀ t, (∀ j o, j < n → ops[j]? = some o → L.getD j false = true → o.dst ≠ some t) → a.tmps[t]? = a0.tmps[t]?

theorem take_at {n i j : Nat} {o : Oper} (h : (ops.toList.take n)[j]? = some o) : j < n ∧ ops[j]? = some o := by
  rw [List.getElem?_take] at h
  by_cases hj : j < n
  · rw [if_pos hj] at h; exact ⟨hj, by simpa using h⟩
  · rw [if_neg hj] at h; cases h
/-- An operation that may come up sees the same slots as in the text's order. -/
theorem same_slots {n i : Nat} {o : Oper} {Fs : List Fact} {a0 a : Act} {L : Array Bool} {w : World} {f : Vals} (hk : RelOk md ops n) (hH : HeadInv md ops n L) (inv : RInv ops n Fs C a0 L a w f) (hi : i < n) (hr : i ∈ Region.ready md ops L) (ho : ops[i]? = some o) :
    ∀ t ∈ o.looksAt ops, a.tmps[t]? = (putF f (ops.toList.take i) 0 a0).tmps[t]? := by
  intro t ht
  obtain ⟨hun, o', ho', hall⟩ := mem_ready.1 hr
  have : o' = o := Option.some.inj (ho'.symm.trans ho)
  subst this
  by_cases hex : ∃ j oj, j < n ∧ ops[j]? = some oj ∧ oj.dst = some t
  · obtain ⟨j, oj, hj, hoj, hdj⟩ := hex
    have uniq : ∀ j' o'', j' < n → ops[j']? = some o'' → o''.dst = some t → j' = j := fun j' o'' hj' ho'' hd => hk.one j' j o'' oj t hj' hj ho'' hoj hd hdj
    rcases hk.look i j o' oj t hi hj ho hoj hdj ht with ⟨hlt, e, he, hb, hon⟩ | ⟨hlt, e, he, hb, hon⟩
    · have hl : L.getD j false = true := by rw [← hon]; exact hall e he hb
      by_cases hts : t < a0.tmps.size
      · rw [inv.here j oj t hj hoj hl hdj hts]
        rw [putF_at f t (ops.toList.take i) 0 a0 j oj (by rw [List.getElem?_take, if_pos hlt]; simpa using hoj) hdj (fun j' o'' h1 h2 => by obtain ⟨h3, h4⟩ := take_at (i := i) h1; exact uniq j' o'' (by omega) h4 h2) hts]
        rw [Nat.zero_add]
      · have hts' := Nat.le_of_not_lt hts
        rw [Array.getElem?_eq_none (by rw [inv.size]; exact hts'), Array.getElem?_eq_none (by rw [putF_size]; exact hts')]
    · have hl : L.getD j false ≠ true := fun hl => by
        have := hH.closed j oj hoj hl e he hb
        rw [hon, getD_both hun] at this
        cases this
      rw [inv.off t (fun j' o'' hj' ho'' hl' hd => hl (uniq j' o'' hj' ho'' hd ▸ hl'))]
      rw [putF_off f t _ _ _ (fun j' o'' h1 h2 => by obtain ⟨h3, h4⟩ := take_at (i := i) h1; have := uniq j' o'' (by omega) h4 h2; omega)]
  · have hno : ∀ j oj, j < n → ops[j]? = some oj → oj.dst ≠ some t := fun j oj h1 h2 h3 => hex ⟨j, oj, h1, h2, h3⟩
    rw [inv.off t (fun j o hj ho _ => hno j o hj ho)]
    rw [putF_off f t _ _ _ (fun j' o'' h1 => by obtain ⟨h3, h4⟩ := take_at (i := i) h1; exact hno j' o'' (by omega) h4)]
theorem exec_same {o : Oper} {a b : Act} (hs : ∀ cs b, o.op ≠ .select cs b) (h : ∀ t ∈ o.looksAt ops, a.tmps[t]? = b.tmps[t]?) : execOp a.eval o = execOp b.eval o := by
  refine execOp_congr o hs fun x hx => ?_
  cases x with
  | tmp t =>
    have := h t (List.mem_append_left _ (List.mem_filterMap.2 ⟨.tmp t, by simpa using hx, rfl⟩))
    simp only [Act.eval, Array.getD_eq_getD_getElem?, this]
  | _ => rfl
theorem wanted_same {o : Oper} {a b : Act} (h : ∀ t ∈ o.looksAt ops, a.tmps[t]? = b.tmps[t]?) : Region.wanted o (yielded ops a.tmps) = Region.wanted o (yielded ops b.tmps) := by
  unfold Region.wanted
  cases hg : o.guard with
  | none => rfl
  | some gw =>
    obtain ⟨g, want⟩ := gw
    have hy : yielded ops a.tmps g = yielded ops b.tmps g := by
      unfold yielded
      cases ht : (ops[g]?).bind (·.dst) with
      | none => rfl
      | some t =>
        have := h t (by simp [Oper.looksAt, hg, ht])
        simp [this]
    simp only [hy]
/-- One comes up. -/
theorem RInv.next {n i : Nat} {o : Oper} {Fs : List Fact} {a0 a : Act} {L : Array Bool} {w w' : World} {f : Vals} (hk : RelOk md ops n) (hst : ∀ (j : Nat) (F : Fact), Fs[j]? = some F → Stable R F) (hC : ∀ w w', C w → R w w' → C w') (inv : RInv ops n Fs C a0 L a w f) (hi : i < n) (hun : L.getD i true = false) (ho : ops[i]? = some o) (hr : R w w') {v : Value}
    (hF : ∀ F : Fact, Fs[i]? = some F → F v w') : RInv ops n Fs C a0 (L.setIfInBounds i true) (a.put o.dst v) w' (fun j => if j = i then v else f j) := by
  have hls : ∀ j, j ≠ i → (L.setIfInBounds i true).getD j false = L.getD j false := fun j hj => getD_set_ne false (Ne.symm hj)
  refine ⟨hC _ _ inv.cw hr, fun j F hl hj => ?_, by rw [putA_defs]; exact inv.defs, by rw [putA_size]; exact inv.size, fun j oj t hj hoj hl hd ht => ?_, fun t hno => ?_⟩
  · by_cases hji : j = i
    · subst hji; simp only [if_true]; exact hF F hj
    · simp only [if_neg hji]
      rw [hls j hji] at hl
      exact hst j F hj _ _ _ hr (inv.facts j F hl hj)
  · by_cases hji : j = i
    · subst hji
      have : oj = o := Option.some.inj (hoj.symm.trans ho)
      subst this
      simp only [if_true]
      rw [hd, putA_at _ _ _ (by rw [inv.size]; exact ht)]
    · simp only [if_neg hji]
      rw [hls j hji] at hl
      rw [putA_off _ _ _ _ (fun hd2 => hji (hk.one j i oj o t hj hi hoj ho hd hd2))]
      exact inv.here j oj t hj hoj hl hd ht
  · have his : i < L.size := by
      rcases Nat.lt_or_ge i L.size with h | h
      · exact h
      · simp [Array.getElem?_eq_none h] at hun
    have hdi : o.dst ≠ some t := hno i o hi ho (by simp [Array.getD, his])
    rw [putA_off _ _ _ _ hdi]
    refine inv.off t (fun j oj hj hoj hl => hno j oj hj hoj ?_)
    by_cases hji : j = i
    · subst hji; simp [Array.getD, his]
    · rw [hls j hji]; exact hl
theorem RInv.done {n : Nat} {Fs : List Fact} {a0 a : Act} {L : Array Bool} {w : World} {f : Vals} (hk : RelOk md ops n) (inv : RInv ops n Fs C a0 L a w f) (hall : ∀ j, j < n → L.getD j false = true) : a = putF f (ops.toList.take n) 0 a0 := by
  have ht : a.tmps = (putF f (ops.toList.take n) 0 a0).tmps := by
    apply Array.ext_getElem?
    intro t
    by_cases hex : ∃ j oj, j < n ∧ ops[j]? = some oj ∧ oj.dst = some t
    · obtain ⟨j, oj, hj, hoj, hdj⟩ := hex
      by_cases hts : t < a0.tmps.size
      · rw [inv.here j oj t hj hoj (hall j hj) hdj hts]
        rw [putF_at f t (ops.toList.take n) 0 a0 j oj (by rw [List.getElem?_take, if_pos hj]; simpa using hoj) hdj (fun j' o'' h1 h2 => by obtain ⟨h3, h4⟩ := take_at (i := n) h1; exact hk.one j' j o'' oj t h3 hj h4 hoj h2 hdj) hts]
        rw [Nat.zero_add]
      · have hts' := Nat.le_of_not_lt hts
        rw [Array.getElem?_eq_none (by rw [inv.size]; exact hts'), Array.getElem?_eq_none (by rw [putF_size]; exact hts')]
    · have hno : ∀ j oj, j < n → ops[j]? = some oj → oj.dst ≠ some t := fun j oj h1 h2 h3 => hex ⟨j, oj, h1, h2, h3⟩
      rw [inv.off t (fun j o hj ho _ => hno j o hj ho)]
      rw [putF_off f t _ _ _ (fun j' o'' h1 => by obtain ⟨h3, h4⟩ := take_at (i := n) h1; exact hno j' o'' h3 h4)]
  have hd := inv.defs
  rw [← putF_defs f (ops.toList.take n) 0 a0] at hd
  cases a
  cases h : putF f (ops.toList.take n) 0 a0
  rw [h] at ht hd
  simp_all
theorem rel_any {n : Nat} {Fs : List Fact} {a0 : Act} {Q : Exit → Act → World → Prop} (hk : RelOk md ops n) (hFl : Fs.length = n) (hst : ∀ (j : Nat) (F : Fact), Fs[j]? = some F → Stable R F) (hC : ∀ w w', C w → R w w' → C w') (hRr : ∀ a, R a a) (hR : ∀ a b c, R a b → R b c → R a c)
    (hob : ∀ (i : Nat) (o : Oper) (F : Fact), i < n → ops[i]? = some o → Fs[i]? = some F → ∀ f w, C w → deps md o (Fs.take i) f w → relOp P ops R o (putF f (ops.toList.take i) 0 a0) w F)
    (hno : ∀ L, HeadInv md ops n L → ∀ i, i < n → L.getD i true = false → ∀ t, n ≤ t → t ∉ Region.ready md ops L)
    (hfin : ∀ f w, C w → (∀ (j : Nat) (F : Fact), Fs[j]? = some F → F (f j) w) → ∀ L, HeadInv md ops n L → (∀ j, j < n → L.getD j false = true) → wpAny P md ops Q (ops.size - n) L (putF f (ops.toList.take n) 0 a0) w) :
    ∀ (fuel : Nat) (L : Array Bool) (a : Act) (w : World) (f : Vals), (L.toList.take n).count false = fuel → HeadInv md ops n L → RInv ops n Fs C a0 L a w f → wpAny P md ops Q (fuel + (ops.size - n)) L a w := by
  intro fuel
  induction fuel with
  | zero =>
    intro L a w f hn hH inv
    have hall : ∀ j, j < n → L.getD j false = true := by
      intro j hj
      have hjs : j < L.size := by rw [hH.size]; have := hk.le; omega
      have hm : false ∉ L.toList.take n := List.count_eq_zero.1 hn
      rcases hb : L[j] with _ | _
      · refine absurd ?_ hm
        rw [List.mem_take_iff_getElem]
        exact ⟨j, by simp; omega, by simpa using hb⟩
      · simp [Array.getD, hjs, hb]
    rw [Nat.zero_add, inv.done hk hall]
    exact hfin f w inv.cw (fun j F hj => inv.facts j F (hall j (by have := (List.getElem?_eq_some_iff.1 hj).1; omega)) hj) L hH hall
  | succ fuel ih =>
    intro L a w f hn hH inv
    have hls : L.size = ops.size := hH.size
    obtain ⟨i0, hi0, hun0⟩ : ∃ i, i < n ∧ L.getD i true = false := by
      have hm : false ∈ L.toList.take n := List.count_pos_iff.1 (by omega)
      rw [List.mem_take_iff_getElem] at hm
      obtain ⟨i, hi, e⟩ := hm
      have hi' : i < L.size := by simp at hi; omega
      refine ⟨i, by simp at hi; omega, ?_⟩
      simp [Array.getD, hi']
      simpa using e
    have hnt := hno L hH i0 hi0 hun0
    have some_rdy : ∀ (i : Nat), i < n → L.getD i true = false → ∃ j, j ∈ Region.ready md ops L := by
      intro i
      induction i using Nat.strongRecOn with
      | _ i ih2 =>
        intro hi hun
        by_cases hr : i ∈ Region.ready md ops L
        · exact ⟨i, hr⟩
        · have his : i < ops.size := by have := hk.le; omega
          have hoi : ops[i]? = some ops[i] := Array.getElem?_eq_getElem his
          rw [mem_ready] at hr
          have : ¬ ∀ e ∈ ops[i].after, Region.binds md e = true → L.getD e.on false = true := fun hall => hr ⟨hun, ops[i], hoi, hall⟩
          simp only [Classical.not_forall] at this
          obtain ⟨e, he, hb, hne⟩ := this
          have hlt := hk.back i _ hi hoi e he hb
          have hes : e.on < L.size := by omega
          refine ih2 e.on hlt (by omega) ?_
          simp [Array.getD, hes] at hne ⊢
          exact hne
    rw [show fuel + 1 + (ops.size - n) = (fuel + (ops.size - n)) + 1 by omega]
    refine ⟨fun h0 => ?_, fun i hi => ?_⟩
    · obtain ⟨j, hj⟩ := some_rdy i0 hi0 hun0
      rw [h0] at hj; cases hj
    · have hin : i < n := by
        rcases Nat.lt_or_ge i n with h | h
        · exact h
        · exact absurd hi (hnt i h)
      obtain ⟨hun, o, ho, hall⟩ := mem_ready.1 hi
      have his : i < L.size := by rw [hls]; exact (Array.getElem?_eq_some_iff.1 ho).1
      have hcn : ((L.setIfInBounds i true).toList.take n).count false = fuel := by
        rw [Array.toList_setIfInBounds, List.take_set]
        have hi8 : i < (L.toList.take n).length := by simp; omega
        rw [List.count_set hi8]
        have hli : (L.toList.take n)[i] = false := by simpa [Array.getD, his] using hun
        rw [hli, hn]
        simp
      have hH' := hH.set hi hin
      obtain ⟨F, hF⟩ : ∃ F, Fs[i]? = some F := ⟨Fs[i], List.getElem?_eq_getElem (by omega)⟩
      have hsame := same_slots hk hH inv hin hi ho
      have hdeps : deps md o (Fs.take i) f w := by
        intro e he hb
        have hlt := hk.back i o hin ho e he hb
        unfold factOf
        rw [List.getElem?_take, if_pos hlt]
        cases hG : Fs[e.on]? with
        | none => trivial
        | some G => exact inv.facts e.on G (hall e he hb) hG
      have hop := hob i o F hin ho hF f w inv.cw hdeps
      have goon : ∀ v w', R w w' → F v w' → wpAny P md ops Q (fuel + (ops.size - n)) (L.setIfInBounds i true) (a.put o.dst v) w' := fun v w' hr hv =>
        ih _ _ _ _ hcn hH' (inv.next hk hst hC hin hun ho hr (fun F' hF' => by rw [hF] at hF'; cases hF'; exact hv))
      unfold wpOp
      simp only [ho]
      unfold relOp at hop
      rw [← wanted_same hsame, ← exec_same (hk.sel i o · · ho) hsame] at hop
      split
      · rename_i hw
        rw [if_pos hw] at hop
        refine Or.inl ?_
        unfold Oper.wp
        generalize (execOp a.eval o).run P w = r at hop ⊢
        cases r with
        | ok nx w' =>
          cases nx <;> simp only [relUpon] at hop <;> simp only [Oper.upon]
          case value u => exact goon u w' hop.1 hop.2
          case skip => exact goon undef w' hop.1 hop.2
          case enter g args =>
            refine hop.2.mono fun e w'' ⟨v, he, hr, hv⟩ => ?_
            subst he
            exact goon v w'' (hR _ _ _ hop.1 hr) hv
        | halt x w' => simp only [relUpon] at hop
      · rename_i hw
        rw [if_neg hw] at hop
        exact goon undef w (hRr w) hop

/-- All facts. -/
def allF (f : Vals) (w : World) : List Fact → Nat → Prop
  | [], _ => True
  | F :: l, k => F (f k) w ∧ allF f w l (k + 1)
theorem allF_of {f : Vals} {w : World} : ∀ (l : List Fact) (k : Nat), (∀ (j : Nat) (F : Fact), l[j]? = some F → F (f (k + j)) w) → allF f w l k
  | [], _, _ => trivial
  | F :: l, k, h => ⟨h 0 F rfl, allF_of l (k + 1) fun j G hj => by have := h (j + 1) G (by simpa using hj); rwa [show k + (j + 1) = k + 1 + j by omega] at this⟩
theorem allF_get {f : Vals} {w : World} : ∀ {l : List Fact} {k : Nat}, allF f w l k → ∀ (j : Nat) (F : Fact), l[j]? = some F → F (f (k + j)) w
  | [], _, _, j, F, h => by simp at h
  | G :: l, k, h, 0, F, hj => by
    have e : G = F := by simpa using hj
    exact e ▸ h.1
  | G :: l, k, h, j + 1, F, hj => by
    have := allF_get h.2 j F (by simpa using hj)
    rwa [show k + 1 + j = k + (j + 1) by omega] at this
theorem list_true {n : Nat} {L : Array Bool} (hH : HeadInv md ops n L) (hn : n ≤ ops.size) (hall : ∀ j, j < n → L.getD j false = true) : L = wide (Array.replicate n true) (ops.size - n) := by
  have hs := hH.size
  apply Array.ext
  · simp [wide]; omega
  · intro i h1 h2
    by_cases hi : i < n
    · have := hall i hi
      simp [Array.getD, h1] at this
      rw [this]
      simp [wide]
      rw [Array.getElem_append_left (by simpa using hi)]
      simp
    · have := hH.tail i (by omega) (by omega)
      simp [Array.getD, h1] at this
      rw [this]
      simp [wide]
      rw [Array.getElem_append_right (by simp; omega)]
      simp
theorem rel_start {n : Nat} {Fs : List Fact} {a : Act} {w : World} {f : Vals} (hn : n ≤ ops.size) (hC : C w) : HeadInv md ops n (Array.replicate ops.size false) ∧ RInv ops n Fs C a (Array.replicate ops.size false) a w f ∧ ((Array.replicate ops.size false).toList.take n).count false = n := by
  refine ⟨⟨by simp, fun j oj _ hl => (by rw [getD_replicate_false] at hl; cases hl), fun t _ ht => getD_in (by simpa using ht) (getD_replicate_false _ _)⟩, ⟨hC, fun j F hl _ => (by rw [getD_replicate_false] at hl; cases hl), rfl, rfl, fun j o t _ _ hl => (by rw [getD_replicate_false] at hl; cases hl), fun t _ => rfl⟩, ?_⟩
  simp [List.take_replicate]
  omega
theorem wp_rel {n id : Nat} {Q : Exit → Act → World → Prop} {a : Act} {w : World} {l : List Oper} (hm : P.follows .mixedOrders = true) (hk : RelOk .any l.toArray n) (hC0 : C w.drew) (hC : ∀ w w', C w → R w w' → C w') (hRr : ∀ a, R a a) (hR : ∀ a b c, R a b → R b c → R a c)
    (hno : ∀ L, HeadInv .any l.toArray n L → ∀ i, i < n → L.getD i true = false → ∀ t, n ≤ t → t ∉ Region.ready .any l.toArray L)
    (hseq : Region.seqB .any l.toArray (l.drop n).length n (wide (Array.replicate n true) (l.drop n).length) = true)
    (h : wpRel P .any l.toArray R C (fun Fs A => ∀ f w', C w' → allF f w' Fs 0 → wpList P l.toArray Q (l.drop n) (A f) w') (l.take n) [] (fun _ => a)) : (Code.region id l.toArray true).wp P Q a w := by
  have hn : n ≤ l.length := by simpa using hk.le
  obtain ⟨Gs, hl, hi, hq⟩ := wpRel_out _ _ _ h
  simp only [List.nil_append] at hi hq
  have hgl : Gs.length = n := by rw [hl, List.length_take]; omega
  refine wp_region_any hm ?_
  obtain ⟨s1, s2, s3⟩ := rel_start (md := .any) (ops := l.toArray) (C := C) (n := n) (Fs := Gs) (a := a) (w := w.drew) (f := fun _ => undef) hk.le hC0
  have hd : (l.drop n).length = l.toArray.size - n := by simp
  have H := rel_any (P := P) (R := R) (C := C) (Fs := Gs) (a0 := a) (Q := Q) hk hgl
    (fun j F hj => by
      have hjl : j < Gs.length := (List.getElem?_eq_some_iff.1 hj).1
      obtain ⟨F', h1, h2, _⟩ := hi j (l.take n)[j] (List.getElem?_eq_getElem (by rw [← hl]; exact hjl))
      rw [h1] at hj; cases hj; exact h2) hC hRr hR
    (fun i o F hin ho hF f w' hc hdp => by
      obtain ⟨F', h1, _, h3⟩ := hi i o (by rw [List.getElem?_take, if_pos hin]; simpa using ho)
      rw [h1] at hF; cases hF
      have := h3 f w' hc hdp
      rw [List.take_take, Nat.min_eq_left (Nat.le_of_lt hin)] at this
      exact this)
    hno
    (fun f w' hc hf L hL hall => by
      rw [list_true hL hk.le hall, ← hd]
      refine wpAny_of_seq (l.drop n) n _ _ w' (fun j => by rw [List.getElem?_toArray, List.getElem?_drop]) hseq ?_
      exact hq f w' hc (allF_of Gs 0 (fun j F hj => by rw [Nat.zero_add]; exact hf j F hj)))
    n _ a w.drew (fun _ => undef) s3 s1 s2
  rw [show n + (l.toArray.size - n) = l.toArray.size by simp; omega] at H
  exact H
/-- All operations. -/
theorem wp_region_rel {id : Nat} {Q : Exit → Act → World → Prop} {a : Act} {w : World} {l : List Oper} (hm : P.follows .mixedOrders = true) (hB : (relB .any l.toArray l.length && Region.seqB .any l.toArray 0 l.length (wide (Array.replicate l.length true) 0)) = true) (hC0 : C w.drew) (hC : ∀ w w', C w → R w w' → C w') (hRr : ∀ a, R a a) (hR : ∀ a b c, R a b → R b c → R a c)
    (h : wpRel P .any l.toArray R C (fun Fs A => ∀ f w', C w' → allF f w' Fs 0 → Q .normal (A f) w') l [] (fun _ => a)) : (Code.region id l.toArray true).wp P Q a w := by
  simp only [Bool.and_eq_true] at hB
  refine wp_rel (n := l.length) hm (relB_ok hB.1) hC0 hC hRr hR (fun L hL i hi hun t ht hr => ?_) ?_ ?_
  · have := (Array.getElem?_eq_some_iff.1 (mem_ready.1 hr).2.choose_spec.1).1
    simp at this; omega
  · rw [List.drop_length]; exact hB.2
  · rw [List.take_length, List.drop_length]; exact h
/-- The first n of them; the rest, one behind the other, is walked. -/
theorem wp_region_relH {id : Nat} {Q : Exit → Act → World → Prop} {a : Act} {w : World} {l : List Oper} (n : Nat) (hm : P.follows .mixedOrders = true)
    (hB : (relB .any l.toArray n && (Region.sinkB .any l.toArray n && Region.chainB .any l.toArray n && decide (n < l.length) && Region.seqB .any l.toArray (l.drop n).length n (wide (Array.replicate n true) (l.drop n).length))) = true) (hC0 : C w.drew) (hC : ∀ w w', C w → R w w' → C w') (hRr : ∀ a, R a a) (hR : ∀ a b c, R a b → R b c → R a c)
    (h : wpRel P .any l.toArray R C (fun Fs A => ∀ f w', C w' → allF f w' Fs 0 → wpList P l.toArray Q (l.drop n) (A f) w') (l.take n) [] (fun _ => a)) : (Code.region id l.toArray true).wp P Q a w := by
  simp only [Bool.and_eq_true, decide_eq_true_eq] at hB
  obtain ⟨h1, ⟨⟨h2, h3⟩, h4⟩, h5⟩ := hB
  exact wp_rel hm (relB_ok h1) hC0 hC hRr hR (fun L hL i hi hun t ht => tail_waits h2 h3 (by simpa using h4) hL _ i rfl hi hun t ht) h5 h
end
end Go.Proofs.YtnhogmheedeeiaaGreat
/- Numbers put and read: facts; the contracts of Put with the world as it is left, of the reference's Put4, Fill and Short. -/
namespace Go.Proofs.YtnhogmheedeeiaaGreat
open Go.RowKit
set_option linter.unusedVariables false
set_option maxRecDepth 20000

theorem put_size (c : Nat) : (put c).size = 4 := rfl
theorem nb_put (c : Nat) (h : c < 4294967296) : nb (put c) = [c % 256, c / 256 % 256, c / 65536 % 256, c / 16777216] := by
  have e : ∀ x : Nat, x < 256 → (UInt8.ofNat x).toNat = x := fun x hx => by simp [UInt8.toNat_ofNat']; omega
  have k0 : ((c : Int) % 256).toNat = c % 256 := by omega
  have k1 : ((c : Int) / 256 % 256).toNat = c / 256 % 256 := by omega
  have k2 : ((c : Int) / 65536 % 256).toNat = c / 65536 % 256 := by omega
  have k3 : ((c : Int) / 16777216).toNat = c / 16777216 := by omega
  unfold nb put
  rw [strOfNums_data]
  simp only [List.map_cons, List.map_nil, k0, k1, k2, k3]
  rw [e _ (by omega), e _ (by omega), e _ (by omega), e _ (by omega)]
theorem put_word (c : Nat) (h : c < 4294967296) : Crc.word (c % 256) (c / 256 % 256) (c / 65536 % 256) (c / 16777216) = c := by unfold Crc.word; omega
theorem nb_sp (a m b : ByteArray) (i : Nat) (h : i < m.size) : byteAt (a ++ m ++ b) (a.size + i) = byteAt m i := by
  unfold byteAt
  rw [nb_append, nb_append, List.append_assoc, List.getD_eq_getElem?_getD, List.getElem?_append_right (by rw [nb_len]; omega), nb_len,
    show a.size + i - a.size = i by omega, List.getElem?_append_left (by rw [nb_len]; exact h), List.getD_eq_getElem?_getD]
theorem get4_put (a b : ByteArray) (c : Nat) (h : c < 4294967296) : get4 (a ++ put c ++ b) a.size = c := by
  unfold get4
  have e : ∀ i, i < 4 → byteAt (a ++ put c ++ b) (a.size + i) = byteAt (put c) i := fun i hi => nb_sp a (put c) b i (by rw [put_size]; exact hi)
  have e0 := e 0 (by omega)
  rw [Nat.add_zero] at e0
  rw [e0, e 1 (by omega), e 2 (by omega), e 3 (by omega)]
  unfold byteAt
  rw [nb_put c h]
  exact put_word c h
theorem get4_lt (s : ByteArray) (k : Nat) : get4 s k < 4294967296 := Crc.word_lt _ _ _ _ (byteAt_lt _ _) (byteAt_lt _ _) (byteAt_lt _ _) (byteAt_lt _ _)
/-- Four bytes are the number's that they say. -/
theorem put_get4 (s : ByteArray) (h : s.size = 4) : put (get4 s 0) = s := by
  apply nb_inj
  rw [nb_put _ (get4_lt s 0)]
  have e : nb s = [byteAt s 0, byteAt s 1, byteAt s 2, byteAt s 3] := by
    apply List.ext_getElem
    · rw [nb_len, h]; rfl
    · intro i h1 h2
      have hi : i < 4 := by simpa using h2
      unfold byteAt
      match i, hi with
      | 0, _ => simp [List.getD_eq_getElem?_getD, h1]
      | 1, _ => simp [List.getD_eq_getElem?_getD, h1]
      | 2, _ => simp [List.getD_eq_getElem?_getD, h1]
      | 3, _ => simp [List.getD_eq_getElem?_getD, h1]
  rw [e]
  have b0 := byteAt_lt s 0
  have b1 := byteAt_lt s 1
  have b2 := byteAt_lt s 2
  have b3 := byteAt_lt s 3
  unfold get4 Crc.word
  rw [show (0 + 1 : Nat) = 1 from rfl, show (0 + 2 : Nat) = 2 from rfl, show (0 + 3 : Nat) = 3 from rfl]
  generalize byteAt s 0 = x at *
  generalize byteAt s 1 = y at *
  generalize byteAt s 2 = z at *
  generalize byteAt s 3 = u at *
  simp only [List.cons.injEq, and_true]
  omega

/-- The row that Put makes. -/
def pobj (c : Nat) : Obj := .cells #[.int .u8 ((c : Int) % 256), .int .u8 ((c : Int) / 256 % 256), .int .u8 ((c : Int) / 65536 % 256), .int .u8 ((c : Int) / 16777216)] 5
set_option maxHeartbeats 400000 in
theorem put_x (c : Int) (h0 : 0 ≤ c) (hc : c ≤ 4294967295) (w : World) :
    Calls Tryz.prog 66 #[.int .u32 c] w fun e w' => e = .returned (.string (put c.toNat)) ∧ w.alloc (pobj c.toNat) = w' := by
  obtain ⟨n, rfl⟩ : ∃ n : Nat, c = n := ⟨c.toNat, by omega⟩
  rw [Int.toNat_natCast]
  have kc := strOf4 w ((n : Int) % 256) ((n : Int) / 256 % 256) ((n : Int) / 65536 % 256) ((n : Int) / 16777216)
  go_enter Tryz.func66, Tryz.ntmps66
  go_wp2
  go_ret
  exact ⟨rfl, rfl⟩
theorem and255 (x : Nat) (h : x < 4294967296) : bits .and .u32 (x : Int) 255 = (((x : Int) % 256) : Int) := by
  have := u32_and_nat x 255 h (by omega)
  rw [show ((255 : Nat) : Int) = 255 from rfl] at this
  rw [this, show (255 : Nat) = 2 ^ 8 - 1 from rfl, Nat.and_two_pow_sub_one_eq_mod]
  omega
set_option maxHeartbeats 400000 in
theorem put4_x (c : Int) (h0 : 0 ≤ c) (hc : c ≤ 4294967295) (w : World) :
    Calls Tryz.prog 93 #[.int .u32 c] w fun e w' => e = .returned (.string (put c.toNat)) ∧ w.alloc (pobj c.toNat) = w' := by
  obtain ⟨n, rfl⟩ : ∃ n : Nat, c = n := ⟨c.toNat, by omega⟩
  rw [Int.toNat_natCast]
  have kc := strOf4 w ((n : Int) % 256) ((n : Int) / 256 % 256) ((n : Int) / 65536 % 256) ((n : Int) / 16777216)
  have a0 := and255 n (by omega)
  have a1 := and255 (n / 256) (by omega)
  have a2 := and255 (n / 65536) (by omega)
  rw [show ((n / 256 : Nat) : Int) = (n : Int) / 256 by omega] at a1
  rw [show ((n / 65536 : Nat) : Int) = (n : Int) / 65536 by omega] at a2
  go_enter Tryz.func93, Tryz.ntmps93
  go_wp2
  go_ret
  exact ⟨rfl, rfl⟩
/-! frames in memory -/
abbrev frv (k a b : Int) (s : ByteArray) : Value := .agg #[.int .i64 k, .int .u32 a, .int .u32 b, .string s]
abbrev fob (k a b : Int) (s : ByteArray) : Obj := .cells #[.int .i64 k, .int .u32 a, .int .u32 b, .string s] 31
theorem Frk (w : World) (k a b : Int) (s : ByteArray) : ∀ W, Kp (w.alloc (fob k a b s)) W → W.cell? ⟨w.heap.size, 0, none⟩ = some (.int .i64 k) ∧ W.cell? ⟨w.heap.size, 1, none⟩ = some (.int .u32 a) ∧ W.cell? ⟨w.heap.size, 2, none⟩ = some (.int .u32 b) ∧ W.cell? ⟨w.heap.size, 3, none⟩ = some (.string s) := by
  intro W h
  have hb : Bk W w.heap.size 31 [.int .i64 k, .int .u32 a, .int .u32 b, .string s] := (Bk.new w _ _).keep h
  exact ⟨hb.cell 0, hb.cell 1, hb.cell 2, hb.cell 3⟩
end Go.Proofs.YtnhogmheedeeiaaGreat
/- Slices that are read, slices of the call's own; append from whatever slice. -/
namespace Go.Proofs.YtnhogmheedeeiaaGreat
open Go.RowKit
set_option linter.unusedVariables false
set_option maxRecDepth 20000

/-- The slice at A holds these cells, nil let in. -/
def Src (w : World) (A : Option Addr) (cs : List Value) : Prop :=
  0 < cs.length → ∃ b off, A = some ⟨b, off, none⟩ ∧ ∀ j (h : j < cs.length), w.cell? ⟨b, off + j, none⟩ = some cs[j]
theorem Src.keep {w w' : World} {A : Option Addr} {cs : List Value} (h : Src w A cs) (k : Kp w w') : Src w' A cs := fun hn => by
  obtain ⟨b, off, e, hc⟩ := h hn
  exact ⟨b, off, e, fun j hj => k.cell (hc j hj)⟩
theorem add_none (b off j : Nat) : (⟨b, off, none⟩ : Addr).add j = ⟨b, off + j, none⟩ := by unfold Addr.add; split <;> simp_all

section
variable {P : Program} {w : World} {base : Nat} {e : TypeId} {size n : Nat} {v : Value} {xs : List Value}
theorem own_slice (h : w.ownsRow base e size v n xs) : ∃ A c, v = .slice A n c := by
  rcases h.2 with ⟨rfl, rfl⟩ | ⟨g, cap, cur, rfl, _⟩
  · exact ⟨none, 0, rfl⟩
  · exact ⟨_, cap, rfl⟩
theorem own_le (h : w.ownsRow base e size v n xs) : n ≤ 9223372036854775807 := by
  rcases h.2 with ⟨_, h1⟩ | ⟨g, cap, cur, _, _, _, h1, h2, _⟩
  · omega
  · simp only [maxLen] at h2; omega
/-- A row that is not empty. -/
theorem own_at (h : w.ownsRow base e size v n xs) (hn : 0 < n) : ∃ g c, v = .slice (some ⟨g, 0, none⟩) n c ∧ base ≤ g ∧ g < w.heap.size := by
  rcases h.2 with ⟨_, h1⟩ | ⟨g, cap, cur, rfl, hb, hh, _⟩
  · omega
  · exact ⟨g, cap, rfl, hb, (Array.getElem?_eq_some_iff.1 hh).1⟩
theorem own_src (h : w.ownsRow base e size v n xs) : ∃ A c, v = .slice A n c ∧ Src w A xs := by
  rcases Nat.eq_zero_or_pos n with h0 | h0
  · obtain ⟨A, c, rfl⟩ := own_slice h
    exact ⟨A, c, rfl, fun hn => by have := h.1; rw [h0, Nat.zero_mul] at this; omega⟩
  · obtain ⟨g, c, rfl, _, _⟩ := own_at h h0
    refine ⟨_, c, rfl, fun _ => ⟨g, 0, rfl, fun j hj => ?_⟩⟩
    have := h.cellAt j (by have := h.1; omega)
    rw [Nat.zero_add, this, List.getElem?_eq_getElem hj]
theorem own_keep {w' : World} (h : w.ownsRow base e size v n xs) (k : Kp w w') : w'.ownsRow base e size v n xs :=
  h.kept (row := none) ⟨k.os, k.tape, k.output, Below.size k, fun i hi _ => Below.block k i hi⟩ (by cases v.ownBlock <;> simp)
theorem own_other {w' : World} {row : Option Nat} (h : w.ownsRow base e size v n xs) (hg : w.grownBy w' row) (hne : v.ownBlock = none ∨ v.ownBlock ≠ row) : w'.ownsRow base e size v n xs := h.kept hg hne
theorem own_type_ne {b' : Nat} {e' : TypeId} {s' n' : Nat} {v' : Value} {xs' : List Value} (h : w.ownsRow base e size v n xs) (h' : w.ownsRow b' e' s' v' n' xs') (hne : e ≠ e') : v.ownBlock = none ∨ v.ownBlock ≠ v'.ownBlock := by
  rcases h.2 with ⟨rfl, _⟩ | ⟨g, cap, cur, rfl, _, hh, _⟩
  · exact .inl rfl
  · refine .inr fun hk => ?_
    rcases h'.2 with ⟨rfl, _⟩ | ⟨g', cap', cur', rfl, _, hh', _⟩
    · simp [Value.ownBlock] at hk
    · have : g = g' := by simpa [Value.ownBlock] using hk
      subst this
      rw [hh] at hh'
      injection hh' with hh'
      injection hh' with _ ht
      exact hne ht
theorem own_block_ge (h : w.ownsRow base e size v n xs) : ∀ k, v.ownBlock = some k → base ≤ k := fun k hk => (h.lt k hk).1

theorem run_app_nil (t ty : TypeId) (i : TypeInfo) (ht : P.underlying t = some (.slice e)) (hi : P.info? e = some i) (hown : w.ownsRow base e size v n xs) (c : Nat) :
    (Builtin.append_ #[t, t] ty #[v, .slice none 0 c]).run P w = .ok v w := by
  rcases hown.2 with ⟨rfl, rfl⟩ | ⟨g, cap, cur, rfl, _, _, hnc, _⟩
  · simp [Builtin.append_, run_underlying ht, sizeOf, typeInfo, hi, Builtin.lenOf, Builtin.firstCells]
  · simp [Builtin.append_, run_underlying ht, sizeOf, typeInfo, hi, Builtin.lenOf, Builtin.firstCells, hnc, storeCells]
/-- append from whatever slice: nil, empty, any. -/
theorem run_app (t ty : TypeId) (z : Value) (bytes : Nat) (ht : P.underlying t = some (.slice e)) (hinfo : (P.info? e).map (fun i => (i.zero, i.size, i.bytes)) = some (some z, size, bytes))
    (hzs : z.cells.size = size) (hsz : 0 < size) (hb0 : 0 < bytes) (hown : w.ownsRow base e size v n xs) (A : Option Addr) (m c : Nat) (news : List Value) (hl : news.length = m * size) (hs : Src w A news) (h1 : ∀ u ∈ news, u.oneCell' = true)
    (hbytes : (n + m) * bytes ≤ 140737488355328) (hbase : base ≤ w.heap.size) :
    ∃ v' w', (Builtin.append_ #[t, t] ty #[v, .slice A m c]).run P w = .ok v' w' ∧ w'.ownsRow base e size v' (n + m) (xs ++ news) ∧ w.grownBy w' v.ownBlock ∧ (v'.ownBlock = v.ownBlock ∨ v'.ownBlock = some w.heap.size) := by
  obtain ⟨i0, hi, hzz⟩ := Option.map_eq_some_iff.1 hinfo
  simp only [Prod.mk.injEq] at hzz
  obtain ⟨hz0, hz1, hz2⟩ := hzz
  have h63 : n + m ≤ maxLen := by
    have := Nat.le_trans (Nat.le_mul_of_pos_right (n + m) hb0) hbytes
    simp only [maxLen]; omega
  rcases Nat.eq_zero_or_pos m with h0 | h0
  · subst h0
    have hn : news = [] := List.eq_nil_of_length_eq_zero (by simpa using hl)
    subst hn
    rcases A with _ | ad
    · exact ⟨v, w, run_app_nil t ty i0 ht hi hown c, by simpa using hown, World.grownBy.refl w _, .inl rfl⟩
    · obtain ⟨v', w', hrun, h2, h3, _, h5⟩ := run_append_own_at (P := P) w base t ty e i0 z size bytes ht hi hz0 hz1 hz2 hzs hsz v n xs hown ad 0 c [] (by simp) (by simp) (by simp) h63 hbytes hbase
      exact ⟨v', w', hrun, h2, h3, h5⟩
  · have hpos : 0 < news.length := by rw [hl]; exact Nat.mul_pos h0 hsz
    obtain ⟨b, off, rfl, hc⟩ := hs hpos
    obtain ⟨v', w', hrun, h2, h3, _, h5⟩ := run_append_own_at (P := P) w base t ty e i0 z size bytes ht hi hz0 hz1 hz2 hzs hsz v n xs hown ⟨b, off, none⟩ m c news hl (fun j u hj => by
      obtain ⟨hlt, rfl⟩ := List.getElem?_eq_some_iff.1 hj
      rw [add_none]; exact hc j hlt) h1 h63 hbytes hbase
    exact ⟨v', w', hrun, h2, h3, h5⟩

theorem wpList_app {ops : Array Oper} {rest : List Oper} {o : Oper} {a : Act} {Q : Exit → Act → World → Prop} {w0 : World} (hgd : o.guard = none) (s x : Operand) (t : TypeId)
    (ho : o.op = .call { callee := .builtin .append, args := #[s, x], argTypes := #[t, t] }) (z : Value) (bytes : Nat)
    (ht : P.underlying t = some (.slice e)) (hinfo : (P.info? e).map (fun i => (i.zero, i.size, i.bytes)) = some (some z, size, bytes)) (hzs : z.cells.size = size) (hsz : 0 < size) (hb0 : 0 < bytes)
    (hs : a.eval s = v) (hown : w.ownsRow w0.heap.size e size v n xs) (A : Option Addr) (m c : Nat) (news : List Value) (hx : a.eval x = .slice A m c) (hl : news.length = m * size) (hsrc : Src w A news) (h1 : ∀ u ∈ news, u.oneCell' = true)
    (hbytes : (n + m) * bytes ≤ 140737488355328) (hk : Kp w0 w)
    (h : ∀ v' w', w'.ownsRow w0.heap.size e size v' (n + m) (xs ++ news) → Kp w0 w' → w.grownBy w' v.ownBlock → (v'.ownBlock = v.ownBlock ∨ v'.ownBlock = some w.heap.size) → wpList P ops Q rest (a.put o.dst v') w') :
    wpList P ops Q (o :: rest) a w := by
  obtain ⟨v', w', hr, h2, h3, h5⟩ := run_app (P := P) (w := w) t o.type z bytes ht hinfo hzs hsz hb0 hown A m c news hl hsrc h1 hbytes hk.size
  have H := h v' w' h2 (hk.grown h3 (own_block_ge hown)) h3 h5
  refine wpList_plain hgd fun K hK => ?_
  unfold Oper.wp execOp
  simp only [ho, resolve, invoke, builtin, Sem.run_bind, Sem.run_pure, Result.andThen_ok, List.map_toArray, List.map_cons, List.map_nil, hs, hx, hr]
  exact hK _ _ H
/-- The same at an operation whose guard says yes. -/
theorem wpList_appG {ops : Array Oper} {rest : List Oper} {o : Oper} {a : Act} {Q : Exit → Act → World → Prop} {w0 : World} (hw : Region.wanted o (yielded ops a.tmps) = true) (s x : Operand) (t : TypeId)
    (ho : o.op = .call { callee := .builtin .append, args := #[s, x], argTypes := #[t, t] }) (z : Value) (bytes : Nat)
    (ht : P.underlying t = some (.slice e)) (hinfo : (P.info? e).map (fun i => (i.zero, i.size, i.bytes)) = some (some z, size, bytes)) (hzs : z.cells.size = size) (hsz : 0 < size) (hb0 : 0 < bytes)
    (hs : a.eval s = v) (hown : w.ownsRow w0.heap.size e size v n xs) (A : Option Addr) (m c : Nat) (news : List Value) (hx : a.eval x = .slice A m c) (hl : news.length = m * size) (hsrc : Src w A news) (h1 : ∀ u ∈ news, u.oneCell' = true)
    (hbytes : (n + m) * bytes ≤ 140737488355328) (hk : Kp w0 w)
    (h : ∀ v' w', w'.ownsRow w0.heap.size e size v' (n + m) (xs ++ news) → Kp w0 w' → w.grownBy w' v.ownBlock → (v'.ownBlock = v.ownBlock ∨ v'.ownBlock = some w.heap.size) → wpList P ops Q rest (a.put o.dst v') w') :
    wpList P ops Q (o :: rest) a w := by
  obtain ⟨v', w', hr, h2, h3, h5⟩ := run_app (P := P) (w := w) t o.type z bytes ht hinfo hzs hsz hb0 hown A m c news hl hsrc h1 hbytes hk.size
  have H := h v' w' h2 (hk.grown h3 (own_block_ge hown)) h3 h5
  refine wpList_step fun K hK => ?_
  rw [if_pos hw]
  unfold Oper.wp execOp
  simp only [ho, resolve, invoke, builtin, Sem.run_bind, Sem.run_pure, Result.andThen_ok, List.map_toArray, List.map_cons, List.map_nil, hs, hx, hr]
  exact hK _ _ H
end
end Go.Proofs.YtnhogmheedeeiaaGreat
/- Blank texts: the contracts of frame.Blank and of the reference's. -/
namespace Go.Proofs.YtnhogmheedeeiaaGreat
open Go.RowKit
set_option linter.unusedVariables false
set_option maxRecDepth 20000

/-- Are all bytes 255? -/
def blankB (s : ByteArray) : Bool := (nb s).all (· == 255)
theorem blank_cases (s : ByteArray) : (blankB s = true ∧ ∀ i (h : i < s.size), s[i].toNat = 255) ∨ (blankB s = false ∧ ∃ j, ∃ h : j < s.size, s[j].toNat ≠ 255) := by
  rcases hb : blankB s with _ | _
  · refine Or.inr ⟨rfl, ?_⟩
    unfold blankB at hb
    rw [List.all_eq_false] at hb
    obtain ⟨x, hx, hne⟩ := hb
    obtain ⟨j, hj, rfl⟩ := List.mem_iff_getElem.1 hx
    have hj2 : j < s.size := by rw [nb_len] at hj; exact hj
    refine ⟨j, hj2, ?_⟩
    intro e
    apply hne
    have : (nb s)[j] = s[j].toNat := by simp [nb]; rfl
    rw [this, e]
    rfl
  · refine Or.inl ⟨rfl, fun i h => ?_⟩
    unfold blankB at hb
    rw [List.all_eq_true] at hb
    have hm : (nb s)[i]'(by rw [nb_len]; exact h) ∈ nb s := List.getElem_mem _
    have := hb _ hm
    have e : (nb s)[i]'(by rw [nb_len]; exact h) = s[i].toNat := by simp [nb]; rfl
    rw [e] at this
    simpa using this
set_option maxHeartbeats 800000 in
theorem blank_any (s : ByteArray) (hs : s.size ≤ 9223372036854775807) (w : World) :
    Calls Tryz.prog 65 #[.string s] w fun e w' => e = .returned (.bool (blankB s)) ∧ w = w' := by
  rcases blank_cases s with ⟨hb, H⟩ | ⟨hb, j, hj, hne⟩
  · rw [hb]
    have HH := Lib.hid H
    clear H hb
    go_enter Tryz.func65, Tryz.ntmps65
    go_wp2_with fail
    go_loop [6] (fun i => ∃ k : Nat, k ≤ s.size ∧ i = .int .i64 k) (fun i => s.size - (intOf i).toNat)
    case atStart => exact ⟨0, by omega, rfl⟩
    case round =>
      obtain ⟨k, hk, rfl⟩ := hrel
      by_cases hlt : k < s.size
      · have he := HH.out k hlt
        have hd : ((s[k].toNat : Int) != 255) = false := by rw [he]; rfl
        clear he
        go_wp2_with fail
        go_round
        case rel => exact ⟨k + 1, by omega, by go_num⟩
        case measure => simp [intOf]; omega
      · go_wp2_with fail
        go_ret
        exact ⟨rfl, rfl⟩
  · rw [hb]
    clear hb
    go_enter Tryz.func65, Tryz.ntmps65
    go_wp2_with fail
    go_loop [6] (fun i => ∃ k : Nat, k ≤ j ∧ i = .int .i64 k) (fun i => s.size - (intOf i).toNat)
    case atStart => exact ⟨0, by omega, rfl⟩
    case round =>
      obtain ⟨k, hk, rfl⟩ := hrel
      have hlt : k < s.size := by omega
      by_cases he : s[k].toNat = 255
      · have hd : ((s[k].toNat : Int) != 255) = false := by rw [he]; rfl
        have hkj : k ≠ j := fun e => by subst e; exact hne he
        clear he
        go_wp2_with fail
        go_round
        case rel => exact ⟨k + 1, by omega, by go_num⟩
        case measure => simp [intOf]; omega
      · have hd : ((s[k].toNat : Int) != 255) = true := by simp; omega
        clear he
        go_wp2_with fail
        go_ret
        exact ⟨rfl, rfl⟩
set_option maxHeartbeats 800000 in
theorem rblank_any (s : ByteArray) (hs : s.size ≤ 9223372036854775807) (w : World) :
    Calls Tryz.prog 82 #[.string s] w fun e w' => e = .returned (.bool (blankB s)) ∧ w = w' := by
  rcases blank_cases s with ⟨hb, H⟩ | ⟨hb, j, hj, hne⟩
  · rw [hb]
    have HH := Lib.hid H
    clear H hb
    go_enter Tryz.func82, Tryz.ntmps82
    go_wp2_with fail
    go_loop [3] (fun i => ∃ k : Nat, k ≤ s.size ∧ i = .int .i64 k) (fun i => s.size - (intOf i).toNat)
    case atStart => exact ⟨0, by omega, rfl⟩
    case round =>
      obtain ⟨k, hk, rfl⟩ := hrel
      by_cases hlt : k < s.size
      · have he := HH.out k hlt
        have hd : ((s[k].toNat : Int) != 255) = false := by rw [he]; rfl
        clear he
        go_wp2_with fail
        go_round
        case rel => exact ⟨k + 1, by omega, by go_num⟩
        case measure => simp [intOf]; omega
      · go_wp2_with fail
        go_ret
        exact ⟨rfl, rfl⟩
  · rw [hb]
    clear hb
    go_enter Tryz.func82, Tryz.ntmps82
    go_wp2_with fail
    go_loop [3] (fun i => ∃ k : Nat, k ≤ j ∧ i = .int .i64 k) (fun i => s.size - (intOf i).toNat)
    case atStart => exact ⟨0, by omega, rfl⟩
    case round =>
      obtain ⟨k, hk, rfl⟩ := hrel
      have hlt : k < s.size := by omega
      by_cases he : s[k].toNat = 255
      · have hd : ((s[k].toNat : Int) != 255) = false := by rw [he]; rfl
        have hkj : k ≠ j := fun e => by subst e; exact hne he
        clear he
        go_wp2_with fail
        go_round
        case rel => exact ⟨k + 1, by omega, by go_num⟩
        case measure => simp [intOf]; omega
      · have hd : ((s[k].toNat : Int) != 255) = true := by simp; omega
        clear he
        go_wp2_with fail
        go_ret
        exact ⟨rfl, rfl⟩
theorem nb_fillS (n : Nat) : nb (fillS 255 n) = List.replicate n 255 := by
  unfold nb fillS
  rw [strOfNums_data]
  simp
/-- A blank text of so many bytes. -/
theorem blankB_fill (s : ByteArray) (n : Nat) (h : s.size = n) : (blankB s = true → s = fillS 255 n) ∧ (blankB s = false → s ≠ fillS 255 n) := by
  have hb : nb (fillS 255 n) = List.replicate n 255 := nb_fillS n
  refine ⟨fun h1 => ?_, fun h1 h2 => ?_⟩
  · apply nb_inj
    rw [hb]
    unfold blankB at h1
    rw [List.all_eq_true] at h1
    refine List.eq_replicate_iff.2 ⟨by rw [nb_len, h], fun x hx => by simpa using h1 x hx⟩
  · rw [h2] at h1
    unfold blankB at h1
    rw [hb] at h1
    simp at h1
end Go.Proofs.YtnhogmheedeeiaaGreat
/- Small words of the laws: a small geom, a geom's box. -/
namespace Go.Proofs.YtnhogmheedeeiaaGreat
open Go.RowKit
set_option linter.unusedVariables false
set_option maxRecDepth 20000

theorem Bk.c3g {w : World} {g : Nat} {t : TypeId} {a b c : Value} (h : Bk w g t [a, b, c]) : w.cell? ⟨g, 0, none⟩ = some a ∧ w.cell? ⟨g, 1, none⟩ = some b ∧ w.cell? ⟨g, 2, none⟩ = some c := ⟨h.cell 0, h.cell 1, h.cell 2⟩
theorem small_geom (p s r : Int) : ∃ (P S : Int) (n : Nat), 32 + p % 33 = P ∧ 3 + s % 4 = S ∧ 4 + r % 4 = (n : Int) ∧ RightG P S n ∧ n ≤ 7 ∧ S ≤ 6 ∧ P ≤ 64 := by
  refine ⟨_, _, (4 + r % 4).toNat, rfl, rfl, by omega, ?_, by omega, by omega, by omega⟩
  unfold RightG; omega
/-- A geom's box behind the store of another. -/
theorem put3 {w w1 : World} {g : Nat} {t : TypeId} {a b c : Value} (h : Bk w1 g t [a, b, c]) (hK : Kp w w1) (hg : w.heap.size ≤ g) (x y z : Value) :
    Bk (((w1.setCell ⟨g, 0, none⟩ x).setCell ⟨g, 1, none⟩ y).setCell ⟨g, 2, none⟩ z) g t [x, y, z] ∧ Kp w (((w1.setCell ⟨g, 0, none⟩ x).setCell ⟨g, 1, none⟩ y).setCell ⟨g, 2, none⟩ z) :=
  ⟨((h.put 0 x).put 1 y).put 2 z, ((hK.set hg _).set hg _).set hg _⟩
theorem Bk.c4g {w : World} {g : Nat} {t : TypeId} {a b c d : Value} (h : Bk w g t [a, b, c, d]) : w.cell? ⟨g, 0, none⟩ = some a ∧ w.cell? ⟨g, 1, none⟩ = some b ∧ w.cell? ⟨g, 2, none⟩ = some c ∧ w.cell? ⟨g, 3, none⟩ = some d := ⟨h.cell 0, h.cell 1, h.cell 2, h.cell 3⟩
theorem far3 {w1 : World} {g g' : Nat} {t : TypeId} {cs : List Value} (h : Bk w1 g' t cs) (hn : g' ≠ g) (x y z : Value) :
    Bk (((w1.setCell ⟨g, 0, none⟩ x).setCell ⟨g, 1, none⟩ y).setCell ⟨g, 2, none⟩ z) g' t cs := ((h.far (p := ⟨g, 0, none⟩) hn x).far (p := ⟨g, 1, none⟩) hn y).far (p := ⟨g, 2, none⟩) hn z
end Go.Proofs.YtnhogmheedeeiaaGreat
/- What a call leaves of memory: all blocks but some. -/
namespace Go.Proofs.YtnhogmheedeeiaaGreat
open Go.RowKit
set_option linter.unusedVariables false
set_option maxRecDepth 20000

/-- All blocks but some are as they were. -/
structure Mv (S : List Nat) (w w' : World) : Prop where
  os : w'.os = w.os
  tape : w'.tape = w.tape
  output : w'.output = w.output
  size : w.heap.size ≤ w'.heap.size
  block : ∀ b, b < w.heap.size → b ∉ S → w'.heap[b]? = w.heap[b]?
section
variable {S : List Nat} {w w' w'' : World}
theorem Mv.of (h : Kp w w') : Mv S w w' := ⟨h.os, h.tape, h.output, h.size, fun b hb _ => h.block b hb⟩
theorem Mv.refl (w : World) : Mv S w w := Mv.of (Kp.refl w)
theorem Mv.trans (h : Mv S w w') (k : Mv S w' w'') : Mv S w w'' :=
  ⟨k.os.trans h.os, k.tape.trans h.tape, k.output.trans h.output, Nat.le_trans h.size k.size, fun b hb hS => (k.block b (Nat.lt_of_lt_of_le hb h.size) hS).trans (h.block b hb hS)⟩
theorem Mv.alloc (h : Mv S w w') (o : Obj) : Mv S w (w'.alloc o) := h.trans (Mv.of (Kp.one w' o))
theorem Mv.drew (h : Mv S w w') : Mv S w w'.drew := h.trans (Mv.of (Kp.refl w').drew)
theorem Mv.set (h : Mv S w w') {p : Addr} (hp : p.block ∈ S) (v : Value) : Mv S w (w'.setCell p v) :=
  h.trans ⟨rfl, rfl, rfl, by simp, fun b hb hS => Below.heap_setCell w' p v b (fun e => hS (e ▸ hp))⟩
theorem Mv.kp {w0 : World} (h : Kp w0 w) (hS : ∀ b ∈ S, w0.heap.size ≤ b) (k : Mv S w w') : Kp w0 w' :=
  ⟨k.os.trans h.os, k.tape.trans h.tape, k.output.trans h.output, Nat.le_trans h.size k.size, fun b hb => (k.block b (Nat.lt_of_lt_of_le hb h.size) (fun hm => Nat.lt_irrefl _ (Nat.lt_of_lt_of_le hb (hS b hm)))).trans (h.block b hb)⟩
theorem Bk.mv {g : Nat} {t : TypeId} {cs : List Value} (h : Bk w g t cs) (k : Mv S w w') (hg : g ∉ S) : Bk w' g t cs := (k.block g h.lt hg).trans h
theorem By.mv {g : Nat} {xs : List Int} (h : By w g xs) (k : Mv S w w') (hg : g ∉ S) : By w' g xs := h.same (k.block g h.lt hg)
theorem Mv.sub {S' : List Nat} (h : Mv S w w') (hs : ∀ b ∈ S, b ∈ S') : Mv S' w w' := ⟨h.os, h.tape, h.output, h.size, fun b hb hb2 => h.block b hb (fun hm => hb2 (hs b hm))⟩
theorem Mv.grown (h : Mv S w w') {row : Option Nat} (hg : w'.grownBy w'' row) (hr : ∀ k, row = some k → k ∈ S) : Mv S w w'' := by
  refine h.trans ⟨hg.os, hg.tape, hg.output, hg.size, fun b hb hS => hg.block b hb (fun e => hS (hr b e.symm))⟩
end
end Go.Proofs.YtnhogmheedeeiaaGreat
/- Arguments opened: slices of numbers. -/
namespace Go.Proofs.YtnhogmheedeeiaaGreat
open Go.ChangeShapes Go.WideShapes Go.ChangeAt Go.RowKit Go.Deep
set_option linter.unusedVariables false
set_option maxRecDepth 20000
/-- A slice of numbers, nil let in. -/
def NumsAt (k : IntKind) (w : World) (A : Option Addr) (xs : List Int) : Prop :=
  xs.length ≤ 9223372036854775807 ∧ (0 < xs.length → ∃ b off, A = some ⟨b, off, none⟩ ∧ ∀ j (h : j < xs.length), w.cell? ⟨b, off + j, none⟩ = some (.int k xs[j]))
theorem NumsAt.keep {k : IntKind} {w w' : World} {A : Option Addr} {xs : List Int} (h : NumsAt k w A xs) (k' : Kp w w') : NumsAt k w' A xs :=
  ⟨h.1, fun hn => by
    obtain ⟨b, off, e, hc⟩ := h.2 hn
    exact ⟨b, off, e, fun j hj => k'.cell (hc j hj)⟩⟩
section
variable {H : Type} {enc : TypeId × Value → H} {w : World} {base : Nat}
theorem open_nums {k : IntKind} {r : Reach} {b0 : Nat} {t e : TypeId} (ht : Tryz.prog.underlying t = some (.slice e)) (he : Tryz.prog.underlying e = some (.int k)) (hC : Tryz.prog.cellsOf e = 1) {v : Value} {d : DataW H} {p : List MemPlace} (hs : Sized Tryz.prog t d) (hv : Value.okWide Tryz.prog w r b0 t v) (h : DataW.Trod enc Tryz.prog w base (fun _ => true) true t v d p) :
    ∃ (A : Option Addr) (c : Nat) (xs : List Int), v = .slice A xs.length c ∧ NumsAt k w A xs ∧ xs.length * Tryz.prog.bytesOf e ≤ 140737488351232 ∧ (∀ x ∈ xs, (Lit.int k x).wf = true) ∧ ((d = .nil ∧ xs = []) ∨ ∃ more, d = .slice (xs.map fun x => .lit (.int k x)) more) := by
  obtain ⟨A, c, xs, hv', h1, h2, h3, h4, h5⟩ := open_elems (sz := 1) (fun x : Int => [Value.int k x]) (fun x => .lit (.int k x)) (fun x => (Lit.int k x).wf = true) ht hC (by omega) (el_int he) hs hv h
  refine ⟨A, c, xs, hv', ⟨h1, fun hn => ?_⟩, h2, fun x hx => (h3 x hx).1, h5⟩
  obtain ⟨b, off, e, hc⟩ := h4 hn
  exact ⟨b, off, e, fun j hj => by have := hc j hj 0 (by omega); rw [Nat.mul_one, Nat.add_zero] at this; exact this⟩
end
end Go.Proofs.YtnhogmheedeeiaaGreat
/- A region that draws its order: its first operation is a copy of a slot, which may be late; the next ones may make memory; the rest waits for all of them but the first. -/
namespace Go.Proofs.YtnhogmheedeeiaaGreat
open Go.RowKit
set_option linter.unusedVariables false
set_option maxRecDepth 20000
section
variable {P : Program} {md : Region.Mode} {ops : Array Oper} {R : World → World → Prop} {C : World → Prop}
theorem rel_any2 {n : Nat} {Fs : List Fact} {a0 : Act} {Q : Exit → Act → World → Prop} (hk : RelOk md ops n) (hFl : Fs.length = n) (hst : ∀ (j : Nat) (F : Fact), Fs[j]? = some F → Stable R F) (hC : ∀ w w', C w → R w w' → C w') (hRr : ∀ a, R a a) (hR : ∀ a b c, R a b → R b c → R a c)
    (hob : ∀ (i : Nat) (o : Oper) (F : Fact), i < n → ops[i]? = some o → Fs[i]? = some F → ∀ f w, C w → deps md o (Fs.take i) f w → relOp P ops R o (putF f (ops.toList.take i) 0 a0) w F)
    (I : Array Bool → Prop) (hI : ∀ L i, I L → I (L.setIfInBounds i true)) (hno : ∀ L, I L → HeadInv md ops n L → ∀ i, i < n → L.getD i true = false → ∀ t, n ≤ t → t ∉ Region.ready md ops L)
    (hfin : ∀ f w, C w → (∀ (j : Nat) (F : Fact), Fs[j]? = some F → F (f j) w) → ∀ L, HeadInv md ops n L → (∀ j, j < n → L.getD j false = true) → wpAny P md ops Q (ops.size - n) L (putF f (ops.toList.take n) 0 a0) w) :
    ∀ (fuel : Nat) (L : Array Bool) (a : Act) (w : World) (f : Vals), I L → (L.toList.take n).count false = fuel → HeadInv md ops n L → RInv ops n Fs C a0 L a w f → wpAny P md ops Q (fuel + (ops.size - n)) L a w := by
  intro fuel
  induction fuel with
  | zero =>
    intro L a w f hIL hn hH inv
    have hall : ∀ j, j < n → L.getD j false = true := by
      intro j hj
      have hjs : j < L.size := by rw [hH.size]; have := hk.le; omega
      have hm : false ∉ L.toList.take n := List.count_eq_zero.1 hn
      rcases hb : L[j] with _ | _
      · refine absurd ?_ hm
        rw [List.mem_take_iff_getElem]
        exact ⟨j, by simp; omega, by simpa using hb⟩
      · simp [Array.getD, hjs, hb]
    rw [Nat.zero_add, inv.done hk hall]
    exact hfin f w inv.cw (fun j F hj => inv.facts j F (hall j (by have := (List.getElem?_eq_some_iff.1 hj).1; omega)) hj) L hH hall
  | succ fuel ih =>
    intro L a w f hIL hn hH inv
    have hls : L.size = ops.size := hH.size
    obtain ⟨i0, hi0, hun0⟩ : ∃ i, i < n ∧ L.getD i true = false := by
      have hm : false ∈ L.toList.take n := List.count_pos_iff.1 (by omega)
      rw [List.mem_take_iff_getElem] at hm
      obtain ⟨i, hi, e⟩ := hm
      have hi' : i < L.size := by simp at hi; omega
      refine ⟨i, by simp at hi; omega, ?_⟩
      simp [Array.getD, hi']
      simpa using e
    have hnt := hno L hIL hH i0 hi0 hun0
    have some_rdy : ∀ (i : Nat), i < n → L.getD i true = false → ∃ j, j ∈ Region.ready md ops L := by
      intro i
      induction i using Nat.strongRecOn with
      | _ i ih2 =>
        intro hi hun
        by_cases hr : i ∈ Region.ready md ops L
        · exact ⟨i, hr⟩
        · have his : i < ops.size := by have := hk.le; omega
          have hoi : ops[i]? = some ops[i] := Array.getElem?_eq_getElem his
          rw [mem_ready] at hr
          have : ¬ ∀ e ∈ ops[i].after, Region.binds md e = true → L.getD e.on false = true := fun hall => hr ⟨hun, ops[i], hoi, hall⟩
          simp only [Classical.not_forall] at this
          obtain ⟨e, he, hb, hne⟩ := this
          have hlt := hk.back i _ hi hoi e he hb
          have hes : e.on < L.size := by omega
          refine ih2 e.on hlt (by omega) ?_
          simp [Array.getD, hes] at hne ⊢
          exact hne
    rw [show fuel + 1 + (ops.size - n) = (fuel + (ops.size - n)) + 1 by omega]
    refine ⟨fun h0 => ?_, fun i hi => ?_⟩
    · obtain ⟨j, hj⟩ := some_rdy i0 hi0 hun0
      rw [h0] at hj; cases hj
    · have hin : i < n := by
        rcases Nat.lt_or_ge i n with h | h
        · exact h
        · exact absurd hi (hnt i h)
      obtain ⟨hun, o, ho, hall⟩ := mem_ready.1 hi
      have his : i < L.size := by rw [hls]; exact (Array.getElem?_eq_some_iff.1 ho).1
      have hcn : ((L.setIfInBounds i true).toList.take n).count false = fuel := by
        rw [Array.toList_setIfInBounds, List.take_set]
        have hi8 : i < (L.toList.take n).length := by simp; omega
        rw [List.count_set hi8]
        have hli : (L.toList.take n)[i] = false := by simpa [Array.getD, his] using hun
        rw [hli, hn]
        simp
      have hH' := hH.set hi hin
      obtain ⟨F, hF⟩ : ∃ F, Fs[i]? = some F := ⟨Fs[i], List.getElem?_eq_getElem (by omega)⟩
      have hsame := same_slots hk hH inv hin hi ho
      have hdeps : deps md o (Fs.take i) f w := by
        intro e he hb
        have hlt := hk.back i o hin ho e he hb
        unfold factOf
        rw [List.getElem?_take, if_pos hlt]
        cases hG : Fs[e.on]? with
        | none => trivial
        | some G => exact inv.facts e.on G (hall e he hb) hG
      have hop := hob i o F hin ho hF f w inv.cw hdeps
      have goon : ∀ v w', R w w' → F v w' → wpAny P md ops Q (fuel + (ops.size - n)) (L.setIfInBounds i true) (a.put o.dst v) w' := fun v w' hr hv =>
        ih _ _ _ _ (hI _ _ hIL) hcn hH' (inv.next hk hst hC hin hun ho hr (fun F' hF' => by rw [hF] at hF'; cases hF'; exact hv))
      unfold wpOp
      simp only [ho]
      unfold relOp at hop
      rw [← wanted_same hsame, ← exec_same (hk.sel i o · · ho) hsame] at hop
      split
      · rename_i hw
        rw [if_pos hw] at hop
        refine Or.inl ?_
        unfold Oper.wp
        generalize (execOp a.eval o).run P w = r at hop ⊢
        cases r with
        | ok nx w' =>
          cases nx <;> simp only [relUpon] at hop <;> simp only [Oper.upon]
          case value u => exact goon u w' hop.1 hop.2
          case skip => exact goon undef w' hop.1 hop.2
          case enter g args =>
            refine hop.2.mono fun e w'' ⟨v, he, hr, hv⟩ => ?_
            subst he
            exact goon v w'' (hR _ _ _ hop.1 hr) hv
        | halt x w' => simp only [relUpon] at hop
      · rename_i hw
        rw [if_neg hw] at hop
        exact goon undef w (hRr w) hop


def lateB (md : Region.Mode) (ops : Array Oper) (n : Nat) : Bool :=
  (List.range n).all fun i => decide (i = 0) || (List.range (n + 1)).any fun j => decide (i < j) && Region.waitsFor md ops j i
theorem late_waits {n : Nat} {listed : Array Bool} (hs : lateB md ops n = true) (hc : Region.chainB md ops n = true) (hn : n < ops.size) (inv : HeadInv md ops n listed) :
    ∀ (d i : Nat), n - i = d → i < n → i ≠ 0 → listed.getD i true = false → ∀ t, n ≤ t → t ∉ Region.ready md ops listed := by
  intro d
  induction d using Nat.strongRecOn with
  | _ d ih =>
    intro i hd hi hi0 hun t ht hr
    obtain ⟨_, ot, hot, hall⟩ := mem_ready.1 hr
    have htlt : t < ops.size := (Array.getElem?_eq_some_iff.1 hot).1
    by_cases htn : t = n
    · subst htn
      have h1 := List.all_eq_true.1 hs i (List.mem_range.2 hi)
      simp only [Bool.or_eq_true, decide_eq_true_eq] at h1
      rcases h1 with h1 | h1
      · exact hi0 h1
      obtain ⟨j, hj, hj2⟩ := List.any_eq_true.1 h1
      simp only [Bool.and_eq_true, decide_eq_true_eq] at hj2
      obtain ⟨oj, hoj, e, he, hb, hon⟩ := Region.waitsFor_spec hj2.2
      have hjle : j ≤ t := by have := List.mem_range.1 hj; omega
      by_cases hjt : j = t
      · subst hjt
        have : oj = ot := Option.some.inj (hoj.symm.trans hot)
        subst this
        have h2 := hall e he hb
        rw [hon, getD_both hun] at h2
        cases h2
      · cases hl : listed.getD j false with
        | true =>
          have h2 := inv.closed j oj hoj hl e he hb
          rw [hon, getD_both hun] at h2
          cases h2
        | false =>
          have hjs : j < listed.size := by rw [inv.size]; omega
          exact ih (t - j) (by omega) j rfl (by omega) (by omega) (getD_in hjs hl) t (Nat.le_refl _) hr
    · have h1 := List.all_eq_true.1 hc t (List.mem_range.2 htlt)
      simp only [Bool.or_eq_true, decide_eq_true_eq] at h1
      rcases h1 with h1 | h1
      · omega
      · obtain ⟨o', ho', e, he, hb, hon⟩ := Region.waitsFor_spec h1
        have : o' = ot := Option.some.inj (ho'.symm.trans hot)
        subst this
        have h2 := hall e he hb
        rw [hon, getD_both (inv.tail (t - 1) (by omega) (by omega))] at h2
        cases h2
theorem wp_region_relF {id : Nat} {Q : Exit → Act → World → Prop} {a : Act} {w : World} {l : List Oper} (n : Nat) {o0 : Oper} {x : Operand} (ho0 : l[0]? = some o0) (hop : o0.op = .move x) (hg : o0.guard = none) (hm : P.follows .mixedOrders = true)
    (hB : (relB .any l.toArray n && (lateB .any l.toArray n && Region.chainB .any l.toArray n && decide (n < l.length) && decide (0 < n) && Region.free .any l.toArray (Array.replicate l.length false) 0 && (Region.ready .any l.toArray (Array.replicate l.length false)).contains 0 && Region.seqB .any l.toArray (l.drop n).length n (wide (Array.replicate n true) (l.drop n).length))) = true)
    (hQ : ∀ c a' w', Q (.panic c) (a'.put o0.dst (a.eval x)) w' → Q (.panic c) a' w') (hC0 : C w.drew) (hC : ∀ w w', C w → R w w' → C w') (hRr : ∀ a, R a a) (hR : ∀ a b c, R a b → R b c → R a c)
    (h : wpRel P .any l.toArray R C (fun Fs A => ∀ f w', C w' → allF f w' Fs 0 → wpList P l.toArray Q (l.drop n) (A f) w') (l.take n) [] (fun _ => a)) : (Code.region id l.toArray true).wp P Q a w := by
  simp only [Bool.and_eq_true, decide_eq_true_eq] at hB
  obtain ⟨h1, ⟨⟨⟨⟨⟨h2, h3⟩, h4⟩, h5⟩, h6⟩, h7⟩, h8⟩ := hB
  have hk := relB_ok h1
  have hn : n ≤ l.length := by simpa using hk.le
  obtain ⟨Gs, hl, hi, hq⟩ := wpRel_out _ _ _ h
  simp only [List.nil_append] at hi hq
  have hgl : Gs.length = n := by rw [hl, List.length_take]; omega
  refine wp_region_any hm ?_
  obtain ⟨s1, s2, s3⟩ := rel_start (md := .any) (ops := l.toArray) (C := C) (n := n) (Fs := Gs) (a := a) (w := w.drew) (f := fun _ => undef) hk.le hC0
  have hd : (l.drop n).length = l.toArray.size - n := by simp
  have hrun : ∀ (b : Act) (W : World), (execOp b.eval o0).run P W = .ok (.value (b.eval x)) W := by
    intro b W
    unfold execOp
    rw [hop]
    rfl
  have hwant : ∀ g, Region.wanted o0 g = true := by
    intro g
    unfold Region.wanted
    rw [hg]
  have ho0' : l.toArray[0]? = some o0 := by simpa using ho0
  have hst : ∀ (j : Nat) (F : Fact), Gs[j]? = some F → Stable R F := by
    intro j F hj
    have hjl : j < Gs.length := (List.getElem?_eq_some_iff.1 hj).1
    obtain ⟨F', h1, h2, _⟩ := hi j (l.take n)[j] (List.getElem?_eq_getElem (by rw [← hl]; exact hjl))
    rw [h1] at hj; cases hj; exact h2
  have hob : ∀ (i : Nat) (o : Oper) (F : Fact), i < n → l.toArray[i]? = some o → Gs[i]? = some F → ∀ f w, C w → deps .any o (Gs.take i) f w → relOp P l.toArray R o (putF f (l.take i) 0 a) w F := by
    intro i o F hin ho hF f w' hc hdp
    obtain ⟨F', h1, _, h3⟩ := hi i o (by rw [List.getElem?_take, if_pos hin]; simpa using ho)
    rw [h1] at hF; cases hF
    have := h3 f w' hc hdp
    rw [List.take_take, Nat.min_eq_left (Nat.le_of_lt hin)] at this
    exact this
  have hr0 : 0 ∈ Region.ready .any l.toArray (Array.replicate l.toArray.size false) := by simpa using h7
  have hsz : l.toArray.size = (l.toArray.size - 1) + 1 := by simp; omega
  rw [hsz]
  rw [show (Array.replicate (l.toArray.size - 1 + 1) false) = Array.replicate l.toArray.size false by rw [← hsz]]
  refine wpAny_take (i := 0) (oi := o0) (v := a.eval x) ho0' (by rw [relB] at h1; simp only [Bool.and_eq_true] at h1; exact h1.1.1) (by simpa using h6) (by simpa using h7) hQ (Or.inl ⟨hwant _, fun W => hrun a W⟩) ?_
  have hF0 : ∀ F : Fact, Gs[0]? = some F → F (a.eval x) w.drew := by
    intro F hF
    have := hob 0 o0 F (by omega) ho0' hF (fun _ => undef) w.drew hC0 (fun e he hb => absurd (hk.back 0 o0 (by omega) ho0' e he hb) (by omega))
    unfold relOp at this
    rw [hwant, if_pos rfl] at this
    rw [show putF (fun _ => undef) (l.take 0) 0 a = a from rfl, hrun a] at this
    exact this.2
  have hun0 : (Array.replicate l.toArray.size false).getD 0 true = false := (mem_ready.1 hr0).1
  have inv1 := s2.next (R := R) hk hst hC (i := 0) (by omega) hun0 ho0' (hRr _) (v := a.eval x) hF0
  have hH1 := s1.set hr0 (by omega)
  have H := rel_any2 (P := P) (R := R) (C := C) (Fs := Gs) (a0 := a) (Q := Q) hk hgl hst hC hRr hR hob
    (fun L => L.getD 0 false = true) (fun L i hL => getD_set_true hL)
    (fun L hL hH i hin hun t ht => late_waits h2 h3 (by simpa using h4) hH _ i rfl hin (fun e => by subst e; rw [getD_both hun] at hL; cases hL) hun t ht)
    (fun f w' hc hf L hL hall => by
      rw [list_true hL hk.le hall, ← hd]
      refine wpAny_of_seq (l.drop n) n _ _ w' (fun j => by rw [List.getElem?_toArray, List.getElem?_drop]) h8 ?_
      exact hq f w' hc (allF_of Gs 0 (fun j F hj => by rw [Nat.zero_add]; exact hf j F hj)))
    (n - 1) _ _ w.drew _ (by simp [Array.getD]; omega) (by
      rw [Array.toList_setIfInBounds, List.take_set]
      rw [List.count_set (by simp; omega)]
      rw [s3]
      simp) hH1 inv1
  rw [show n - 1 + (l.toArray.size - n) = l.toArray.size - 1 by simp; omega] at H
  exact H
end
end Go.Proofs.YtnhogmheedeeiaaGreat
/- A region that draws its order, of whose first operations one is a call that moves memory: the class of worlds ahead of it is another one than behind it. -/
namespace Go.Proofs.YtnhogmheedeeiaaGreat
open Go.RowKit
set_option linter.unusedVariables false
set_option maxRecDepth 20000

abbrev AnyW : World → World → Prop := fun _ _ => True
/-- What is asked of the call that moves. -/
def mvOp (P : Program) (C : Bool → World → Prop) (o : Oper) (a : Act) (w : World) (F : Fact) : Prop :=
  match (execOp a.eval o).run P w with
  | .ok (.enter g args) w' => Calls P g args w' (fun e w'' => ∃ v, e = .returned v ∧ C true w'' ∧ F v w'')
  | _ => False
section
variable {P : Program} {md : Region.Mode} {ops : Array Oper} {R1 : World → World → Prop} {C : Bool → World → Prop} {m : Nat}

/-- The operations in the text's order. -/
def wpRel3 (P : Program) (md : Region.Mode) (ops : Array Oper) (R1 : World → World → Prop) (C : Bool → World → Prop) (m : Nat) (Q : List Fact → (Vals → Act) → Prop) : List Oper → List Fact → (Vals → Act) → Prop
  | [], Fs, A => Q Fs A
  | o :: l, Fs, A => (Fs.length = m → o.guard = none ∧ ∃ F : Fact, Stable AnyW F ∧ (∀ f w, C false w → deps md o Fs f w → mvOp P C o (A f) w F) ∧ wpRel3 P md ops R1 C m Q l (Fs ++ [F]) (fun f => (A f).put o.dst (f Fs.length))) ∧
      (Fs.length ≠ m → ∃ F : Fact, Stable AnyW F ∧ (∀ f b w, C b w → deps md o Fs f w → relOp P ops R1 o (A f) w F) ∧ wpRel3 P md ops R1 C m Q l (Fs ++ [F]) (fun f => (A f).put o.dst (f Fs.length)))
theorem wpRel3_nil {Q : List Fact → (Vals → Act) → Prop} {Fs : List Fact} {A : Vals → Act} (h : Q Fs A) : wpRel3 P md ops R1 C m Q [] Fs A := h
theorem wpRel3_out {Q : List Fact → (Vals → Act) → Prop} : ∀ (l : List Oper) (Fs : List Fact) (A : Vals → Act), wpRel3 P md ops R1 C m Q l Fs A →
    ∃ Gs : List Fact, Gs.length = l.length ∧ (∀ i o, l[i]? = some o → ∃ F, Gs[i]? = some F ∧ Stable AnyW F ∧
        (Fs.length + i = m → o.guard = none ∧ ∀ f w, C false w → deps md o (Fs ++ Gs.take i) f w → mvOp P C o (putF f (l.take i) Fs.length (A f)) w F) ∧
        (Fs.length + i ≠ m → ∀ f b w, C b w → deps md o (Fs ++ Gs.take i) f w → relOp P ops R1 o (putF f (l.take i) Fs.length (A f)) w F)) ∧
      Q (Fs ++ Gs) (fun f => putF f l Fs.length (A f))
  | [], Fs, A, h => ⟨[], rfl, fun i o ho => by simp at ho, by rw [List.append_nil]; exact h⟩
  | o :: l, Fs, A, h => by
    obtain ⟨h1, h2⟩ := h
    have key : ∃ F : Fact, Stable AnyW F ∧ (Fs.length = m → o.guard = none ∧ ∀ f w, C false w → deps md o Fs f w → mvOp P C o (A f) w F) ∧ (Fs.length ≠ m → ∀ f b w, C b w → deps md o Fs f w → relOp P ops R1 o (A f) w F) ∧ wpRel3 P md ops R1 C m Q l (Fs ++ [F]) (fun f => (A f).put o.dst (f Fs.length)) := by
      by_cases hm : Fs.length = m
      · obtain ⟨hg, F, k1, k2, k3⟩ := h1 hm
        exact ⟨F, k1, fun _ => ⟨hg, k2⟩, fun hn => absurd hm hn, k3⟩
      · obtain ⟨F, k1, k2, k3⟩ := h2 hm
        exact ⟨F, k1, fun hn => absurd hn hm, fun _ => k2, k3⟩
    obtain ⟨F, hs, hm1, hm2, hr⟩ := key
    obtain ⟨Gs, hl, hi, hq⟩ := wpRel3_out l _ _ hr
    refine ⟨F :: Gs, by simp [hl], fun i o' ho => ?_, ?_⟩
    · cases i with
      | zero =>
        have e : o' = o := by simpa using ho.symm
        subst e
        refine ⟨F, rfl, hs, fun e => ?_, fun e => ?_⟩
        · obtain ⟨hg, hob⟩ := hm1 (by simpa using e)
          exact ⟨hg, fun f w hc hd => by simpa [putF] using hob f w hc (by simpa using hd)⟩
        · exact fun f b w hc hd => by simpa [putF] using hm2 (by simpa using e) f b w hc (by simpa using hd)
      | succ i =>
        obtain ⟨F', h1, h2, h3, h4⟩ := hi i o' (by simpa using ho)
        refine ⟨F', by simpa using h1, h2, fun e => ?_, fun e => ?_⟩
        · obtain ⟨hg, hob⟩ := h3 (by simp; omega)
          refine ⟨hg, fun f w hc hd => ?_⟩
          have := hob f w hc (by simpa using hd)
          simpa [putF] using this
        · intro f b w hc hd
          have := h4 (by simp; omega) f b w hc (by simpa using hd)
          simpa [putF] using this
    · simpa [putF] using hq
theorem wpRel3_step {Q : List Fact → (Vals → Act) → Prop} {o : Oper} {l : List Oper} {Fs : List Fact} {A : Vals → Act} (hm : Fs.length ≠ m)
    (h : ∀ K : List Fact → (Vals → Act) → Prop, (∀ Gs B, wpRel3 P md ops R1 C m Q l Gs B → K Gs B) → ∃ F : Fact, Stable AnyW F ∧ (∀ f b w, C b w → deps md o Fs f w → relOp P ops R1 o (A f) w F) ∧ K (Fs ++ [F]) (fun f => (A f).put o.dst (f Fs.length))) :
    wpRel3 P md ops R1 C m Q (o :: l) Fs A := ⟨fun e => absurd e hm, fun _ => h _ (fun _ _ h => h)⟩
theorem wpRel3_move {Q : List Fact → (Vals → Act) → Prop} {o : Oper} {l : List Oper} {Fs : List Fact} {A : Vals → Act} (hm : Fs.length = m) (hg : o.guard = none)
    (c : Value) (ob : ∀ f w, C false w → deps md o Fs f w → mvOp P C o (A f) w (fun v _ => v = c))
    (h : ∀ K : List Fact → (Vals → Act) → Prop, (∀ Gs B, wpRel3 P md ops R1 C m Q l Gs B → K Gs B) → K (Fs ++ [fun v _ => v = c]) (fun f => (A f).put o.dst (f Fs.length))) :
    wpRel3 P md ops R1 C m Q (o :: l) Fs A := ⟨fun _ => ⟨hg, fun v _ => v = c, fun _ _ _ _ h => h, ob, h _ (fun _ _ h => h)⟩, fun e => absurd hm e⟩
theorem rel3_eq {K : List Fact → (Vals → Act) → Prop} {o : Oper} {Fs : List Fact} {A : Vals → Act} (c : Value) (ob : ∀ f b w, C b w → deps md o Fs f w → relOp P ops R1 o (A f) w (fun v _ => v = c)) (k : K (Fs ++ [fun v _ => v = c]) (fun f => (A f).put o.dst (f Fs.length))) :
    ∃ F : Fact, Stable AnyW F ∧ (∀ f b w, C b w → deps md o Fs f w → relOp P ops R1 o (A f) w F) ∧ K (Fs ++ [F]) (fun f => (A f).put o.dst (f Fs.length)) := ⟨_, fun _ _ _ _ h => h, ob, k⟩

theorem rel_any3 {n : Nat} {Fs : List Fact} {a0 : Act} {Q : Exit → Act → World → Prop} (hk : RelOk md ops n) (hmn : m < n) (hFl : Fs.length = n) (hst : ∀ (j : Nat) (F : Fact), Fs[j]? = some F → Stable AnyW F) (hC : ∀ b w w', C b w → R1 w w' → C b w') (hRr : ∀ a, R1 a a) (hR : ∀ a b c, R1 a b → R1 b c → R1 a c)
    (hob : ∀ (i : Nat) (o : Oper) (F : Fact), i < n → i ≠ m → ops[i]? = some o → Fs[i]? = some F → ∀ f b w, C b w → deps md o (Fs.take i) f w → relOp P ops R1 o (putF f (ops.toList.take i) 0 a0) w F)
    (hom : ∀ (o : Oper) (F : Fact), ops[m]? = some o → Fs[m]? = some F → o.guard = none ∧ ∀ f w, C false w → deps md o (Fs.take m) f w → mvOp P C o (putF f (ops.toList.take m) 0 a0) w F)
    (hno : ∀ L, HeadInv md ops n L → ∀ i, i < n → L.getD i true = false → ∀ t, n ≤ t → t ∉ Region.ready md ops L)
    (hfin : ∀ f w, C true w → (∀ (j : Nat) (F : Fact), Fs[j]? = some F → F (f j) w) → ∀ L, HeadInv md ops n L → (∀ j, j < n → L.getD j false = true) → wpAny P md ops Q (ops.size - n) L (putF f (ops.toList.take n) 0 a0) w) :
    ∀ (fuel : Nat) (L : Array Bool) (a : Act) (w : World) (f : Vals), (L.toList.take n).count false = fuel → HeadInv md ops n L → RInv ops n Fs (C (L.getD m false)) a0 L a w f → wpAny P md ops Q (fuel + (ops.size - n)) L a w := by
  intro fuel
  induction fuel with
  | zero =>
    intro L a w f hn hH inv
    have hall : ∀ j, j < n → L.getD j false = true := by
      intro j hj
      have hjs : j < L.size := by rw [hH.size]; have := hk.le; omega
      have hm : false ∉ L.toList.take n := List.count_eq_zero.1 hn
      rcases hb : L[j] with _ | _
      · refine absurd ?_ hm
        rw [List.mem_take_iff_getElem]
        exact ⟨j, by simp; omega, by simpa using hb⟩
      · simp [Array.getD, hjs, hb]
    rw [Nat.zero_add, inv.done hk hall]
    have hcw := inv.cw
    rw [hall m hmn] at hcw
    exact hfin f w hcw (fun j F hj => inv.facts j F (hall j (by have := (List.getElem?_eq_some_iff.1 hj).1; omega)) hj) L hH hall
  | succ fuel ih =>
    intro L a w f hn hH inv
    have hls : L.size = ops.size := hH.size
    obtain ⟨i0, hi0, hun0⟩ : ∃ i, i < n ∧ L.getD i true = false := by
      have hm : false ∈ L.toList.take n := List.count_pos_iff.1 (by omega)
      rw [List.mem_take_iff_getElem] at hm
      obtain ⟨i, hi, e⟩ := hm
      have hi' : i < L.size := by simp at hi; omega
      refine ⟨i, by simp at hi; omega, ?_⟩
      simp [Array.getD, hi']
      simpa using e
    have hnt := hno L hH i0 hi0 hun0
    have some_rdy : ∀ (i : Nat), i < n → L.getD i true = false → ∃ j, j ∈ Region.ready md ops L := by
      intro i
      induction i using Nat.strongRecOn with
      | _ i ih2 =>
        intro hi hun
        by_cases hr : i ∈ Region.ready md ops L
        · exact ⟨i, hr⟩
        · have his : i < ops.size := by have := hk.le; omega
          have hoi : ops[i]? = some ops[i] := Array.getElem?_eq_getElem his
          rw [mem_ready] at hr
          have : ¬ ∀ e ∈ ops[i].after, Region.binds md e = true → L.getD e.on false = true := fun hall => hr ⟨hun, ops[i], hoi, hall⟩
          simp only [Classical.not_forall] at this
          obtain ⟨e, he, hb, hne⟩ := this
          have hlt := hk.back i _ hi hoi e he hb
          have hes : e.on < L.size := by omega
          refine ih2 e.on hlt (by omega) ?_
          simp [Array.getD, hes] at hne ⊢
          exact hne
    rw [show fuel + 1 + (ops.size - n) = (fuel + (ops.size - n)) + 1 by omega]
    refine ⟨fun h0 => ?_, fun i hi => ?_⟩
    · obtain ⟨j, hj⟩ := some_rdy i0 hi0 hun0
      rw [h0] at hj; cases hj
    · have hin : i < n := by
        rcases Nat.lt_or_ge i n with h | h
        · exact h
        · exact absurd hi (hnt i h)
      obtain ⟨hun, o, ho, hall⟩ := mem_ready.1 hi
      have his : i < L.size := by rw [hls]; exact (Array.getElem?_eq_some_iff.1 ho).1
      have hcn : ((L.setIfInBounds i true).toList.take n).count false = fuel := by
        rw [Array.toList_setIfInBounds, List.take_set]
        have hi8 : i < (L.toList.take n).length := by simp; omega
        rw [List.count_set hi8]
        have hli : (L.toList.take n)[i] = false := by simpa [Array.getD, his] using hun
        rw [hli, hn]
        simp
      have hH' := hH.set hi hin
      obtain ⟨F, hF⟩ : ∃ F, Fs[i]? = some F := ⟨Fs[i], List.getElem?_eq_getElem (by omega)⟩
      have hsame := same_slots hk hH inv hin hi ho
      have hdeps : deps md o (Fs.take i) f w := by
        intro e he hb
        have hlt := hk.back i o hin ho e he hb
        unfold factOf
        rw [List.getElem?_take, if_pos hlt]
        cases hG : Fs[e.on]? with
        | none => trivial
        | some G => exact inv.facts e.on G (hall e he hb) hG
      have inv0 : RInv ops n Fs (fun _ => True) a0 L a w f := ⟨trivial, inv.facts, inv.defs, inv.size, inv.here, inv.off⟩
      have goon : ∀ v w', C ((L.setIfInBounds i true).getD m false) w' → F v w' → wpAny P md ops Q (fuel + (ops.size - n)) (L.setIfInBounds i true) (a.put o.dst v) w' := fun v w' hc hv => by
        have nx := inv0.next (R := AnyW) hk hst (fun _ _ _ _ => trivial) hin hun ho trivial (w' := w') (fun F' hF' => by rw [hF] at hF'; cases hF'; exact hv)
        exact ih _ _ _ _ hcn hH' ⟨hc, nx.facts, nx.defs, nx.size, nx.here, nx.off⟩
      by_cases him : i = m
      · subst him
        obtain ⟨hg, hop⟩ := hom o F ho hF
        have hcw := inv.cw
        have hli : L.getD i false = false := by simpa [Array.getD, his] using hun
        rw [hli] at hcw
        have hop := hop f w hcw hdeps
        unfold wpOp
        simp only [ho]
        unfold mvOp at hop
        rw [← exec_same (hk.sel i o · · ho) hsame] at hop
        have hst : (L.setIfInBounds i true).getD i false = true := by simp [Array.getD, his]
        rw [hst] at goon
        have hw : Region.wanted o (yielded ops a.tmps) = true := by unfold Region.wanted; rw [hg]
        rw [if_pos hw]
        refine Or.inl ?_
        unfold Oper.wp
        generalize (execOp a.eval o).run P w = r at hop ⊢
        cases r with
        | ok nx w' =>
          cases nx <;> simp only at hop <;> simp only [Oper.upon]
          case enter g args =>
            refine hop.mono fun e w'' ⟨v, he, hc, hv⟩ => ?_
            subst he
            exact goon v w'' hc hv
        | halt x w' => simp only at hop
      · have hop := hob i o F hin him ho hF f _ w inv.cw hdeps
        have hst : (L.setIfInBounds i true).getD m false = L.getD m false := getD_set_ne false him
        rw [hst] at goon
        have goon2 : ∀ v w', R1 w w' → F v w' → wpAny P md ops Q (fuel + (ops.size - n)) (L.setIfInBounds i true) (a.put o.dst v) w' := fun v w' hr hv => goon v w' (hC _ _ _ inv.cw hr) hv
        unfold wpOp
        simp only [ho]
        unfold relOp at hop
        rw [← wanted_same hsame, ← exec_same (hk.sel i o · · ho) hsame] at hop
        split
        · rename_i hw
          rw [if_pos hw] at hop
          refine Or.inl ?_
          unfold Oper.wp
          generalize (execOp a.eval o).run P w = r at hop ⊢
          cases r with
          | ok nx w' =>
            cases nx <;> simp only [relUpon] at hop <;> simp only [Oper.upon]
            case value u => exact goon2 u w' hop.1 hop.2
            case skip => exact goon2 undef w' hop.1 hop.2
            case enter g args =>
              refine hop.2.mono fun e w'' ⟨v, he, hr, hv⟩ => ?_
              subst he
              exact goon2 v w'' (hR _ _ _ hop.1 hr) hv
          | halt x w' => simp only [relUpon] at hop
        · rename_i hw
          rw [if_neg hw] at hop
          exact goon2 undef w (hRr w) hop
/-- The first n operations, the m-th of which moves memory; the rest, one behind the other, is walked. -/
theorem wp_region_rel3 {id : Nat} {Q : Exit → Act → World → Prop} {a : Act} {w : World} {l : List Oper} (n m : Nat) (hm : P.follows .mixedOrders = true)
    (hB : (decide (m < n) && relB .any l.toArray n && (Region.sinkB .any l.toArray n && Region.chainB .any l.toArray n && decide (n < l.length) && Region.seqB .any l.toArray (l.drop n).length n (wide (Array.replicate n true) (l.drop n).length))) = true) (hC0 : C false w.drew) (hC : ∀ b w w', C b w → R1 w w' → C b w') (hRr : ∀ a, R1 a a) (hR : ∀ a b c, R1 a b → R1 b c → R1 a c)
    (h : wpRel3 P .any l.toArray R1 C m (fun Fs A => ∀ f w', C true w' → allF f w' Fs 0 → wpList P l.toArray Q (l.drop n) (A f) w') (l.take n) [] (fun _ => a)) : (Code.region id l.toArray true).wp P Q a w := by
  simp only [Bool.and_eq_true, decide_eq_true_eq] at hB
  obtain ⟨⟨h0, h1⟩, ⟨⟨h2, h3⟩, h4⟩, h5⟩ := hB
  have hk := relB_ok h1
  obtain ⟨Gs, hl, hi, hq⟩ := wpRel3_out _ _ _ h
  simp only [List.nil_append, List.length_nil, Nat.zero_add] at hi hq
  have hgl : Gs.length = n := by rw [hl, List.length_take]; omega
  refine wp_region_any hm ?_
  obtain ⟨s1, s2, s3⟩ := rel_start (md := .any) (ops := l.toArray) (C := C false) (n := n) (Fs := Gs) (a := a) (w := w.drew) (f := fun _ => undef) hk.le hC0
  have hd : (l.drop n).length = l.toArray.size - n := by simp
  have hz : (Array.replicate l.toArray.size false).getD m false = false := getD_replicate_false _ _
  have H := rel_any3 (P := P) (R1 := R1) (C := C) (m := m) (Fs := Gs) (a0 := a) (Q := Q) hk h0 hgl
    (fun j F hj => by
      have hjl : j < Gs.length := (List.getElem?_eq_some_iff.1 hj).1
      obtain ⟨F', h1, h2, _⟩ := hi j (l.take n)[j] (List.getElem?_eq_getElem (by rw [← hl]; exact hjl))
      rw [h1] at hj; cases hj; exact h2) hC hRr hR
    (fun i o F hin him ho hF f b w' hc hdp => by
      obtain ⟨F', h1, _, _, h3⟩ := hi i o (by rw [List.getElem?_take, if_pos hin]; simpa using ho)
      rw [h1] at hF; cases hF
      have := h3 him f b w' hc hdp
      rw [List.take_take, Nat.min_eq_left (Nat.le_of_lt hin)] at this
      exact this)
    (fun o F ho hF => by
      obtain ⟨F', h1, _, h3, _⟩ := hi m o (by rw [List.getElem?_take, if_pos h0]; simpa using ho)
      rw [h1] at hF; cases hF
      obtain ⟨hg, h3⟩ := h3 rfl
      refine ⟨hg, fun f w' hc hdp => ?_⟩
      have := h3 f w' hc hdp
      rw [List.take_take, Nat.min_eq_left (Nat.le_of_lt h0)] at this
      exact this)
    (fun L hL i hi hun t ht => tail_waits h2 h3 (by simpa using h4) hL _ i rfl hi hun t ht)
    (fun f w' hc hf L hL hall => by
      rw [list_true hL hk.le hall, ← hd]
      refine wpAny_of_seq (l.drop n) n _ _ w' (fun j => by rw [List.getElem?_toArray, List.getElem?_drop]) h5 ?_
      exact hq f w' hc (allF_of Gs 0 (fun j F hj => by rw [Nat.zero_add]; exact hf j F hj)))
    n _ a w.drew (fun _ => undef) s3 s1 (by rw [hz]; exact s2)
  rw [show n + (l.toArray.size - n) = l.toArray.size by simp; omega] at H
  exact H
/-- All operations, the m-th of which moves memory. -/
theorem wp_region_rel3A {id : Nat} {Q : Exit → Act → World → Prop} {a : Act} {w : World} {l : List Oper} (m : Nat) (hm : P.follows .mixedOrders = true)
    (hB : (decide (m < l.length) && relB .any l.toArray l.length && Region.seqB .any l.toArray 0 l.length (wide (Array.replicate l.length true) 0)) = true) (hC0 : C false w.drew) (hC : ∀ b w w', C b w → R1 w w' → C b w') (hRr : ∀ a, R1 a a) (hR : ∀ a b c, R1 a b → R1 b c → R1 a c)
    (h : wpRel3 P .any l.toArray R1 C m (fun Fs A => ∀ f w', C true w' → allF f w' Fs 0 → Q .normal (A f) w') l [] (fun _ => a)) : (Code.region id l.toArray true).wp P Q a w := by
  simp only [Bool.and_eq_true, decide_eq_true_eq] at hB
  obtain ⟨⟨h0, h1⟩, h5⟩ := hB
  have hk := relB_ok h1
  obtain ⟨Gs, hl, hi, hq⟩ := wpRel3_out _ _ _ h
  simp only [List.nil_append, List.length_nil, Nat.zero_add] at hi hq
  refine wp_region_any hm ?_
  obtain ⟨s1, s2, s3⟩ := rel_start (md := .any) (ops := l.toArray) (C := C false) (n := l.length) (Fs := Gs) (a := a) (w := w.drew) (f := fun _ => undef) hk.le hC0
  have hz : (Array.replicate l.toArray.size false).getD m false = false := getD_replicate_false _ _
  have H := rel_any3 (P := P) (R1 := R1) (C := C) (m := m) (Fs := Gs) (a0 := a) (Q := Q) hk h0 hl
    (fun j F hj => by
      have hjl : j < Gs.length := (List.getElem?_eq_some_iff.1 hj).1
      obtain ⟨F', h1, h2, _⟩ := hi j l[j] (List.getElem?_eq_getElem (by rw [← hl]; exact hjl))
      rw [h1] at hj; cases hj; exact h2) hC hRr hR
    (fun i o F hin him ho hF f b w' hc hdp => by
      obtain ⟨F', h1, _, _, h3⟩ := hi i o (by simpa using ho)
      rw [h1] at hF; cases hF
      exact h3 him f b w' hc hdp)
    (fun o F ho hF => by
      obtain ⟨F', h1, _, h3, _⟩ := hi m o (by simpa using ho)
      rw [h1] at hF; cases hF
      obtain ⟨hg, h3⟩ := h3 rfl
      exact ⟨hg, fun f w' hc hdp => h3 f w' hc hdp⟩)
    (fun L hL i hi hun t ht hr => by
      have := (Array.getElem?_eq_some_iff.1 (mem_ready.1 hr).2.choose_spec.1).1
      simp at this; omega)
    (fun f w' hc hf L hL hall => by
      have e0 : l.toArray.size - l.length = 0 := by simp
      rw [list_true hL hk.le hall, e0]
      refine wpAny_of_seq [] l.length _ _ w' (fun j => by simp) h5 ?_
      have := hq f w' hc (allF_of Gs 0 (fun j F hj => by rw [Nat.zero_add]; exact hf j F hj))
      have e1 : l.toArray.toList.take l.length = l := by simp
      rw [e1]
      exact this)
    l.length _ a w.drew (fun _ => undef) s3 s1 (by rw [hz]; exact s2)
  rw [show l.length + (l.toArray.size - l.length) = l.toArray.size by simp] at H
  exact H
end
end Go.Proofs.YtnhogmheedeeiaaGreat
