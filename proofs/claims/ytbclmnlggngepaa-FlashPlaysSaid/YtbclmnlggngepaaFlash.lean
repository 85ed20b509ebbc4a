/- Devices in memory: what they are, how they are kept. -/
import Derived.Test.YtbclmnlggngepaaBytes
import Derived.Test.YtbclmnlggngepaaRel
import Derived.Test.YtbclmnlggngepaaGeom2
import Derived.Test.YtbclmnlggngepaaShelf
import Derived.Test.YtbclmnlggngepaaSlices
import Derived.Lib.LazyBuf
namespace Go.Proofs.Ytbclmnlggngepaa
open Go.RowKit
set_option linter.unusedVariables false

/-- All blocks but some are as they were. -/
structure Mv (S : List Nat) (w w' : World) : Prop where
  os : w'.os = w.os
  tape : w'.tape = w.tape
  output : w'.output = w.output
  size : w.heap.size ≤ w'.heap.size
  block : ∀ b, b < w.heap.size → b ∉ S → w'.heap[b]? = w.heap[b]?
section
variable {S : List Nat} {w w' w'' : World}
theorem Mv.of (h : Kp w w') : Mv S w w' := ⟨h.os, h.tape, h.output, h.size, fun b hb _ => h.block b hb⟩
theorem Mv.refl (w : World) : Mv S w w := Mv.of (Kp.refl w)
theorem Mv.trans (h : Mv S w w') (k : Mv S w' w'') : Mv S w w'' :=
  ⟨k.os.trans h.os, k.tape.trans h.tape, k.output.trans h.output, Nat.le_trans h.size k.size, fun b hb hS => (k.block b (Nat.lt_of_lt_of_le hb h.size) hS).trans (h.block b hb hS)⟩
theorem Mv.alloc (h : Mv S w w') (o : Obj) : Mv S w (w'.alloc o) := h.trans (Mv.of (Kp.one w' o))
theorem Mv.drew (h : Mv S w w') : Mv S w w'.drew := h.trans (Mv.of (Kp.refl w').drew)
theorem Mv.set (h : Mv S w w') {p : Addr} (hp : p.block ∈ S) (v : Value) : Mv S w (w'.setCell p v) :=
  h.trans ⟨rfl, rfl, rfl, by simp, fun b hb hS => Below.heap_setCell w' p v b (fun e => hS (e ▸ hp))⟩
theorem Mv.kp {w0 : World} (h : Kp w0 w) (hS : ∀ b ∈ S, w0.heap.size ≤ b) (k : Mv S w w') : Kp w0 w' :=
  ⟨k.os.trans h.os, k.tape.trans h.tape, k.output.trans h.output, Nat.le_trans h.size k.size, fun b hb => (k.block b (Nat.lt_of_lt_of_le hb h.size) (fun hm => Nat.lt_irrefl _ (Nat.lt_of_lt_of_le hb (hS b hm)))).trans (h.block b hb)⟩
theorem Bk.mv {g : Nat} {t : TypeId} {cs : List Value} (h : Bk w g t cs) (k : Mv S w w') (hg : g ∉ S) : Bk w' g t cs := (k.block g h.lt hg).trans h
theorem By.mv {g : Nat} {xs : List Int} (h : By w g xs) (k : Mv S w w') (hg : g ∉ S) : By w' g xs := h.same (k.block g h.lt hg)
theorem Mv.sub {S' : List Nat} (h : Mv S w w') (hs : ∀ b ∈ S, b ∈ S') : Mv S' w w' := ⟨h.os, h.tape, h.output, h.size, fun b hb hb2 => h.block b hb (fun hm => hb2 (hs b hm))⟩
theorem Mv.grown (h : Mv S w w') {row : Option Nat} (hg : w'.grownBy w'' row) (hr : ∀ k, row = some k → k ∈ S) : Mv S w w'' := by
  refine h.trans ⟨hg.os, hg.tape, hg.output, hg.size, fun b hb hS => hg.block b hb (fun e => hS (hr b e.symm))⟩
end

/-- What is pending: pages, and their bytes. -/
abbrev Rw := List (Int × ByteArray)
def rcells (l : Rw) : List Value := l.flatMap fun x => [.int .i64 x.1, .string x.2]
theorem rcells_cons (x : Int × ByteArray) (l : Rw) : rcells (x :: l) = .int .i64 x.1 :: .string x.2 :: rcells l := rfl
theorem rcells_app (l m : Rw) : rcells (l ++ m) = rcells l ++ rcells m := by simp [rcells]
theorem rcells_len (l : Rw) : (rcells l).length = l.length * 2 := by
  induction l with
  | nil => rfl
  | cons x l ih => rw [rcells_cons]; simp [ih]; omega
theorem rcells_get (l : Rw) : ∀ i (h : i < l.length), (rcells l)[i * 2]? = some (.int .i64 l[i].1) ∧ (rcells l)[i * 2 + 1]? = some (.string l[i].2) := by
  induction l with
  | nil => intro i h; simp at h
  | cons x l ih =>
    intro i h
    rw [rcells_cons]
    cases i with
    | zero => exact ⟨rfl, rfl⟩
    | succ i =>
      have := ih i (by simpa using h)
      rw [show (i + 1) * 2 = (i * 2) + 1 + 1 by omega]
      simpa using this
theorem rcells_one (l : Rw) : ∀ u ∈ rcells l, u.oneCell' = true := by
  intro u hu
  simp only [rcells, List.mem_flatMap] at hu
  obtain ⟨x, _, hx⟩ := hu
  simp at hx
  rcases hx with rfl | rfl <;> rfl

/-- A device, as it is plainly. -/
structure Dev where
  img : List Nat
  row : Rw
  down : Bool
  set : Bool
  left : Int
abbrev ints (l : List Nat) : List Int := l.map fun (n : Nat) => (n : Int)
/-- A device in memory: its struct is block g, its bytes are block ib. -/
structure FlAt (W : World) (g ib ic : Nat) (p s r : Int) (d : Dev) (v : Value) : Prop where
  box : Bk W g 65 [.int .i64 p, .int .i64 s, .int .i64 r, .slice (some ⟨ib, 0, none⟩) d.img.length ic, v, .bool d.down, .bool d.set, .int .i64 d.left]
  img : By W ib (ints d.img)
  own : W.ownsRow 0 67 2 v d.row.length (rcells d.row)
  ne : g ≠ ib
  capok : d.img.length ≤ ic
  vne : ∀ k, v.ownBlock = some k → k ≠ g ∧ k ≠ ib
/-- The blocks that are the device's. -/
def foot (g ib : Nat) (v : Value) : List Nat := g :: ib :: v.ownBlock.toList
/-- What a call on a device does to memory: its own blocks alone; its row lies where it lay, or in new memory. -/
def FlMv (W W' : World) (g ib : Nat) (v v' : Value) : Prop := Mv (foot g ib v) W W' ∧ (∀ k, v'.ownBlock = some k → v.ownBlock = some k ∨ W.heap.size ≤ k)
section
variable {W W' : World} {g ib ic : Nat} {p s r : Int} {d : Dev} {v : Value}
theorem FlAt.keep (h : FlAt W g ib ic p s r d v) (k : Kp W W') : FlAt W' g ib ic p s r d v :=
  ⟨h.box.keep k, h.img.keep k, own_keep h.own k, h.ne, h.capok, h.vne⟩
theorem FlAt.mv {S : List Nat} (h : FlAt W g ib ic p s r d v) (k : Mv S W W') (hd : ∀ x ∈ foot g ib v, x ∉ S) : FlAt W' g ib ic p s r d v := by
  have hb := h.box
  refine ⟨hb.mv k (hd g (by simp [foot])), h.img.mv k (hd ib (by simp [foot])), ?_, h.ne, h.capok, h.vne⟩
  rcases h.own with ⟨hl, ⟨e1, e2⟩ | ⟨q, cap, cur, e1, e2, e3, e4⟩⟩
  · exact ⟨hl, Or.inl ⟨e1, e2⟩⟩
  · refine ⟨hl, Or.inr ⟨q, cap, cur, e1, e2, ?_, e4⟩⟩
    have hq : q < W.heap.size := (Array.getElem?_eq_some_iff.1 e3).1
    rw [k.block q hq (hd q (by simp [foot, e1, Value.ownBlock]))]
    exact e3
theorem FlAt.foot_lt (h : FlAt W g ib ic p s r d v) : ∀ x ∈ foot g ib v, x < W.heap.size := by
  intro x hx
  have hb := h.box
  simp only [foot, List.mem_cons, Option.mem_toList] at hx
  rcases hx with rfl | rfl | hx
  · exact hb.lt
  · exact h.img.lt
  · rcases h.own with ⟨hl, ⟨e1, e2⟩ | ⟨q, cap, cur, e1, e2, e3, e4⟩⟩
    · rw [e1] at hx; simp [Value.ownBlock] at hx
    · rw [e1] at hx
      simp [Value.ownBlock] at hx
      subst hx
      exact (Array.getElem?_eq_some_iff.1 e3).1
theorem FlMv.refl (W : World) (g ib : Nat) (v : Value) : FlMv W W g ib v v := ⟨Mv.refl W, fun k hk => Or.inl hk⟩
theorem FlMv.of (k : Kp W W') : FlMv W W' g ib v v := ⟨Mv.of k, fun k hk => Or.inl hk⟩
theorem FlMv.trans {W'' : World} {v' v'' : Value} (h : FlMv W W' g ib v v') (k : FlMv W' W'' g ib v' v'') : FlMv W W'' g ib v v'' := by
  refine ⟨?_, fun x hx => ?_⟩
  · refine ⟨k.1.os.trans h.1.os, k.1.tape.trans h.1.tape, k.1.output.trans h.1.output, Nat.le_trans h.1.size k.1.size, fun b hb hS => ?_⟩
    rw [← h.1.block b hb hS]
    refine k.1.block b (Nat.lt_of_lt_of_le hb h.1.size) ?_
    simp only [foot, List.mem_cons, Option.mem_toList, not_or] at hS ⊢
    refine ⟨hS.1, hS.2.1, fun hx => ?_⟩
    rcases h.2 b (by simpa using hx) with h1 | h1
    · exact hS.2.2 (by simpa using h1)
    · omega
  · rcases k.2 x hx with h1 | h1
    · exact h.2 x h1
    · exact Or.inr (Nat.le_trans h.1.size h1)
/-- Disjoint from old memory. -/
theorem FlMv.kp {w0 : World} {v' : Value} (h : Kp w0 W) (hS : ∀ b ∈ foot g ib v, w0.heap.size ≤ b) (k : FlMv W W' g ib v v') : Kp w0 W' ∧ ∀ b ∈ foot g ib v', w0.heap.size ≤ b := by
  refine ⟨Mv.kp h hS k.1, fun b hb => ?_⟩
  simp only [foot, List.mem_cons, Option.mem_toList] at hb
  rcases hb with rfl | rfl | hb
  · exact hS _ (by simp [foot])
  · exact hS _ (by simp [foot])
  · rcases k.2 b (by simpa using hb) with h1 | h1
    · exact hS _ (by simp [foot, h1])
    · exact Nat.le_trans h.size h1
theorem FlAt.c8 (h : FlAt W g ib ic p s r d v) : W.cell? ⟨g, 0, none⟩ = some (.int .i64 p) ∧ W.cell? ⟨g, 1, none⟩ = some (.int .i64 s) ∧ W.cell? ⟨g, 2, none⟩ = some (.int .i64 r) ∧ W.cell? ⟨g, 3, none⟩ = some (.slice (some ⟨ib, 0, none⟩) d.img.length ic) ∧ W.cell? ⟨g, 4, none⟩ = some v ∧ W.cell? ⟨g, 5, none⟩ = some (.bool d.down) ∧ W.cell? ⟨g, 6, none⟩ = some (.bool d.set) ∧ W.cell? ⟨g, 7, none⟩ = some (.int .i64 d.left) := by
  have hb := h.box
  exact ⟨hb.cell 0, hb.cell 1, hb.cell 2, hb.cell 3, hb.cell 4, hb.cell 5, hb.cell 6, hb.cell 7⟩
theorem FlAt.fr (h : FlAt W g ib ic p s r d v) (i : Nat) : W.frozen? ⟨g, i, none⟩ = false := by
  have hb := h.box
  exact hb.free i
/-- The row's cells. -/
theorem FlAt.rows (h : FlAt W g ib ic p s r d v) : ∃ A c, v = .slice A d.row.length c ∧ ∀ i (hi : i < d.row.length), ∃ q, A = some ⟨q, 0, none⟩ ∧ W.cell? ⟨q, i * 2, none⟩ = some (.int .i64 d.row[i].1) ∧ W.cell? ⟨q, i * 2 + 1, none⟩ = some (.string d.row[i].2) := by
  obtain ⟨A, c, e, hsrc⟩ := own_src h.own
  refine ⟨A, c, e, fun i hi => ?_⟩
  obtain ⟨q, c', e', _, _⟩ := own_at h.own (by omega)
  have hA : A = some ⟨q, 0, none⟩ := by rw [e] at e'; injection e'
  refine ⟨q, hA, ?_⟩
  have hl := rcells_len d.row
  obtain ⟨g1, g2⟩ := rcells_get d.row i hi
  have hown := h.own
  rw [e'] at hown
  have k1 := hown.cellAt (i * 2) (by omega)
  have k2 := hown.cellAt (i * 2 + 1) (by omega)
  rw [g1] at k1
  rw [g2] at k2
  exact ⟨k1, k2⟩
end
end Go.Proofs.Ytbclmnlggngepaa
