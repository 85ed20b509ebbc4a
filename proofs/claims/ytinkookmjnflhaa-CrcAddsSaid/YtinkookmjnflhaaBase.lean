/- Small words: what a call leaves of old memory; strings and their bytes. -/
import Derived.Test.YtinkookmjnflhaaProg
import Derived.WalkKit
import Derived.WalkSpells
import Derived.WalkLawsBesides
import Derived.Lib.Hide
import Derived.Deep.QuietTactic
import Derived.BigQuiet
namespace Go.Proofs.Ytinkookmjnflhaa
open Go.RowKit

/-- Nothing that was there has turned. -/
def Kp (w w' : World) : Prop := Below w.heap.size w w'
theorem Kp.refl (w : World) : Kp w w := Below.refl _ _
theorem Kp.trans {a b c : World} (h : Kp a b) (k : Kp b c) : Kp a c := Below.trans h (Below.mono k h.size)
theorem Kp.alloc {a b : World} (h : Kp a b) (o : Obj) : Kp a (b.alloc o) := Below.alloc h h.size o
theorem Kp.drew {a b : World} (h : Kp a b) : Kp a b.drew := Below.drew h
theorem Kp.drewN {a b : World} (h : Kp a b) (n : Nat) : Kp a (b.drewN n) := ⟨h.os, h.tape, h.output, h.size, h.block⟩
theorem Kp.size {a b : World} (h : Kp a b) : a.heap.size ≤ b.heap.size := Below.size h
theorem Kp.cell {a b : World} (h : Kp a b) {p : Addr} {v : Value} (hc : a.cell? p = some v) : b.cell? p = some v :=
  (Below.cell h (World.block_lt_of_cell? a p hc)).trans hc
theorem Kp.set {a b : World} (h : Kp a b) {p : Addr} (hp : a.heap.size ≤ p.block) (v : Value) : Kp a (b.setCell p v) := Below.setCell h hp v
theorem Kp.grown {a b c : World} (h : Kp a b) {row : Option Nat} (hg : b.grownBy c row) (hr : ∀ k, row = some k → a.heap.size ≤ k) : Kp a c := Below.grown h hg h.size hr
theorem Kp.one (w : World) (o : Obj) : Kp w (w.alloc o) := (Kp.refl w).alloc o

/-- A slice of texts, nil let in. -/
def TextsAt (w : World) (A : Option Addr) (ss : List ByteArray) : Prop :=
  ss.length ≤ 9223372036854775807 ∧ (∀ s ∈ ss, s.size ≤ 9223372036854775807) ∧ (0 < ss.length → ∃ ad, A = some ad ∧ ∀ j (h : j < ss.length), w.cell? (ad.add j) = some (.string ss[j]))
theorem TextsAt.keep {w w' : World} {A : Option Addr} {ss : List ByteArray} (h : TextsAt w A ss) (k : Kp w w') : TextsAt w' A ss :=
  ⟨h.1, h.2.1, fun hn => by
    obtain ⟨ad, e, hc⟩ := h.2.2 hn
    exact ⟨ad, e, fun j hj => k.cell (hc j hj)⟩⟩

/-- The bytes of a string, as numbers. -/
def nb (s : ByteArray) : List Nat := s.data.toList.map UInt8.toNat
theorem nb_len (s : ByteArray) : (nb s).length = s.size := by rw [nb, List.length_map, Array.length_toList]; rfl
theorem nb_lt (s : ByteArray) : ∀ b ∈ nb s, b < 256 := by
  intro b hb
  obtain ⟨u, _, rfl⟩ := List.mem_map.1 hb
  exact u.toNat_lt
theorem nb_take (s : ByteArray) (k : Nat) (h : k < s.size) : (nb s).take (k + 1) = (nb s).take k ++ [s[k].toNat] := by
  rw [List.take_succ_eq_append_getElem (by rw [nb_len]; exact h)]
  simp [nb]
  rfl
theorem nb_append (a b : ByteArray) : nb (a ++ b) = nb a ++ nb b := by simp [nb, ByteArray.data_append]
theorem nb_inj {a b : ByteArray} (h : nb a = nb b) : a = b := by
  have h1 : a.data.toList = b.data.toList := by
    have inj : Function.Injective UInt8.toNat := fun x y e => UInt8.toNat_inj.1 e
    exact (List.map_inj_right (fun x y e => inj e)).1 h
  exact ByteArray.ext (Array.toList_inj.1 h1)
/-- The byte at a place, 0 behind the end. -/
def byteAt (s : ByteArray) (i : Nat) : Nat := (nb s).getD i 0
theorem byteAt_get (s : ByteArray) (i : Nat) (h : i < s.size) : byteAt s i = s[i].toNat := by
  unfold byteAt
  rw [List.getD_eq_getElem?_getD, List.getElem?_eq_getElem (by rw [nb_len]; exact h)]
  simp [nb]
  rfl
theorem byteAt_lt (s : ByteArray) (i : Nat) : byteAt s i < 256 := by
  by_cases h : i < s.size
  · rw [byteAt_get s i h]; exact s[i].toNat_lt
  · unfold byteAt
    rw [List.getD_eq_getElem?_getD, List.getElem?_eq_none (by rw [nb_len]; omega)]
    decide
theorem byteAt_drop (s : ByteArray) (k i : Nat) (h : k ≤ s.size) : byteAt (s.extract k s.size) i = byteAt s (k + i) := by
  unfold byteAt nb
  rw [ByteArray.data_extract]
  simp [List.getD_eq_getElem?_getD, Array.toList_extract, List.extract, List.getElem?_take, List.getElem?_drop]
  by_cases hi : i < s.size - k
  · rw [if_pos hi]
  · rw [if_neg hi, Array.getElem?_eq_none (by show s.size ≤ _; omega)]
    rfl

/-- Block g is just these cells, none of them frozen. -/
def Bk (w : World) (g : Nat) (t : TypeId) (cs : List Value) : Prop := w.heap[g]? = some (.cells cs.toArray t (0, 0))
section
variable {w w' : World} {g : Nat} {t : TypeId} {cs : List Value}
theorem Bk.lt (h : Bk w g t cs) : g < w.heap.size := (Array.getElem?_eq_some_iff.1 h).1
theorem Bk.cell (h : Bk w g t cs) (i : Nat) : w.cell? ⟨g, i, none⟩ = cs[i]? := by
  have := cell_of_row w g i cs.toArray t (0, 0) h
  simpa using this
theorem Bk.free (h : Bk w g t cs) (i : Nat) : w.frozen? ⟨g, i, none⟩ = false := by
  unfold Bk at h
  simp [World.frozen?, h]
theorem Bk.new (w : World) (t : TypeId) (cs : List Value) : Bk (w.alloc (.cells cs.toArray t)) w.heap.size t cs := heap_alloc_new w _
theorem Bk.drew (h : Bk w g t cs) : Bk w.drew g t cs := h
theorem Bk.drewN (h : Bk w g t cs) (n : Nat) : Bk (w.drewN n) g t cs := h
theorem Bk.alloc (h : Bk w g t cs) (o : Obj) : Bk (w.alloc o) g t cs := (Below.heap_alloc w o g h.lt).trans h
theorem Bk.put (h : Bk w g t cs) (i : Nat) (u : Value) : Bk (w.setCell ⟨g, i, none⟩ u) g t (cs.set i u) := by
  unfold Bk at h ⊢
  simp [World.setCell, Array.getElem?_modify, h]
theorem Bk.far (h : Bk w g t cs) {p : Addr} (hp : g ≠ p.block) (u : Value) : Bk (w.setCell p u) g t cs := (Below.heap_setCell w p u g hp).trans h
theorem Bk.keep (h : Bk w g t cs) (k : Kp w w') : Bk w' g t cs := (Below.block k g h.lt).trans h
end
end Go.Proofs.Ytinkookmjnflhaa
