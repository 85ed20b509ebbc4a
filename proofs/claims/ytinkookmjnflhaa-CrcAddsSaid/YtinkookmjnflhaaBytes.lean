/- Rows of bytes, whatever lies behind them and whatever mark they bear. -/
import Derived.Test.YtinkookmjnflhaaFill
import Derived.Lib.ConvBytes
namespace Go.Proofs.Ytinkookmjnflhaa
open Go.RowKit
set_option linter.unusedVariables false

/-- Block g begins with these bytes, none of them frozen. -/
def By (W : World) (g : Nat) (xs : List Int) : Prop := ∃ (pad : List Value) (lo hi : Nat), W.heap[g]? = some (.cells (vb xs ++ pad).toArray 5 (lo, hi)) ∧ (hi ≤ lo ∨ xs.length ≤ lo)
section
variable {W W' : World} {g : Nat} {xs : List Int}
theorem By.lt (h : By W g xs) : g < W.heap.size := by
  obtain ⟨pad, lo, hi, h1, _⟩ := h
  exact (Array.getElem?_eq_some_iff.1 h1).1
theorem vb_len (xs : List Int) : (vb xs).length = xs.length := by simp [vb]
theorem By.cell (h : By W g xs) (i : Nat) (hi : i < xs.length) : W.cell? ⟨g, i, none⟩ = some (.int .u8 xs[i]) := by
  obtain ⟨pad, lo, hi', h1, _⟩ := h
  have := cell_of_row W g i _ _ _ h1
  rw [this]
  rw [List.getElem?_toArray, List.getElem?_append_left (by rw [vb_len]; exact hi), vb_get xs i hi]
theorem By.free (h : By W g xs) (i : Nat) (hi : i < xs.length) : W.frozen? ⟨g, i, none⟩ = false := by
  obtain ⟨pad, lo, hi', h1, h2⟩ := h
  simp only [World.frozen?, h1]
  simp
  omega
theorem By.of (h : Bk W g 5 (vb xs)) : By W g xs := ⟨[], 0, 0, by rw [List.append_nil]; exact h, Or.inl (Nat.le_refl _)⟩
theorem By.same (h : By W g xs) (e : W'.heap[g]? = W.heap[g]?) : By W' g xs := by
  obtain ⟨pad, lo, hi', h1, h2⟩ := h
  exact ⟨pad, lo, hi', e.trans h1, h2⟩
theorem By.drew (h : By W g xs) : By W.drew g xs := h
theorem By.alloc (h : By W g xs) (o : Obj) : By (W.alloc o) g xs := h.same (Below.heap_alloc W o g h.lt)
theorem By.keep (h : By W g xs) (k : Kp W W') : By W' g xs := h.same (Below.block k g h.lt)
theorem By.far (h : By W g xs) {p : Addr} (hp : g ≠ p.block) (u : Value) : By (W.setCell p u) g xs := h.same (Below.heap_setCell W p u g hp)
theorem By.put (h : By W g xs) (i : Nat) (hi : i < xs.length) (v : Int) : By (W.setCell ⟨g, i, none⟩ (.int .u8 v)) g (xs.set i v) := by
  obtain ⟨pad, lo, hi', h1, h2⟩ := h
  refine ⟨pad, lo, hi', ?_, by rw [List.length_set]; exact h2⟩
  simp only [World.setCell, Array.getElem?_modify, h1]
  simp
  rw [List.set_append_left _ _ (by rw [vb_len]; exact hi), vb_set]
theorem By.conv (h : By W g xs) {n c : Nat} (hz : xs.length = n) : (convert 31 9 (.slice (some ⟨g, 0, none⟩) n c)).run Try.prog W = .ok (.string (strOfNums xs)) W :=
  run_convert_bytes_arg W 31 5 Try.underlying31 Try.underlying5 g 0 n c xs hz (fun i hi => by
    rw [Nat.zero_add, h.cell i (by omega), List.getD_eq_getElem?_getD, List.getElem?_eq_getElem (by omega)]
    rfl) 9 Try.underlying9
/-- A part of it. -/
theorem By.convAt (h : By W g xs) {o n c : Nat} (hz : o + n ≤ xs.length) : (convert 31 9 (.slice (some ⟨g, o, none⟩) n c)).run Try.prog W = .ok (.string (strOfNums ((xs.drop o).take n))) W :=
  run_convert_bytes_arg W 31 5 Try.underlying31 Try.underlying5 g o n c _ (by simp [List.length_take, List.length_drop]; omega) (fun i hi => by
    rw [h.cell (o + i) (by omega), List.getD_eq_getElem?_getD, List.getElem?_take, if_pos hi, List.getElem?_drop, List.getElem?_eq_getElem (by omega)]; rfl) 9 Try.underlying9
end
/-- A string's bytes, as numbers. -/
def sb (s : ByteArray) : List Int := s.data.toList.map fun b => (b.toNat : Int)
theorem sb_len (s : ByteArray) : (sb s).length = s.size := by simp [sb]
theorem sb_nb (s : ByteArray) : sb s = (nb s).map fun (n : Nat) => (n : Int) := by simp [sb, nb]
/-- Numbers as a text. -/
def strN (ns : List Nat) : ByteArray := strOfNums (ns.map fun (n : Nat) => (n : Int))
theorem strN_size (ns : List Nat) : (strN ns).size = ns.length := by rw [strN, strOfNums_size, List.length_map]
theorem nb_strN (ns : List Nat) (h : ∀ n ∈ ns, n < 256) : nb (strN ns) = ns := by
  unfold nb strN
  rw [strOfNums_data, List.map_map, List.map_map]
  conv => rhs; rw [← List.map_id ns]
  apply List.map_congr_left
  intro n hn
  have := h n hn
  simp
  omega
theorem strN_nb (s : ByteArray) : strN (nb s) = s := nb_inj (nb_strN _ (nb_lt s))
/-- What '[]byte(s)' makes. -/
theorem bytes_of (W : World) (s : ByteArray) (src : TypeId) {u : TypeDesc} (hs : Try.prog.underlying src = some u) :
    ∃ W' c, (convert src 31 (.string s)).run Try.prog W = .ok (.slice (some ⟨W.heap.size, 0, none⟩) s.size c) W' ∧ By W' W.heap.size (sb s) ∧ Kp W W' ∧ W'.heap.size = W.heap.size + 1 := by
  refine ⟨_, _, Lib.run_convert_string_bytes (P := Try.prog) W src 31 5 s hs Try.underlying31 Try.underlying5, ?_, ?_, Lib.bytesWorld_size _ _ _⟩
  · refine ⟨List.replicate (grownCap W s.size 0 5 - s.size) (.int .u8 0), (Lib.bytesCells W 5 s).size, (Lib.bytesCells W 5 s).size + 1, (Lib.bytesWorld_at_new W _ s).trans ?_, Or.inr (?_ : (sb s).length ≤ (Lib.bytesCells W 5 s).size)⟩
    · congr 2
      simp [Lib.bytesCells, vb, sb]
    · rw [sb_len]
      simp [Lib.bytesCells]
  · refine ⟨rfl, rfl, rfl, by rw [Lib.bytesWorld_size]; omega, fun b hb => Lib.bytesWorld_at_old W _ s b hb⟩
end Go.Proofs.Ytinkookmjnflhaa
