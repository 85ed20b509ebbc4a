/- Rows of bytes that a call makes; the contracts of the reference's Fill and of cachepotbook.Short. -/
import Derived.Test.YtinkookmjnflhaaPick
import Derived.Laws.ByValue
import Derived.Deep.OwnRows
import Derived.OpenShut
import Derived.WalkSpells
namespace Go.Proofs.Ytinkookmjnflhaa
open Go.RowKit
set_option linter.unusedVariables false

/-- Bytes as values. -/
def vb (xs : List Int) : List Value := xs.map (Value.int .u8)
theorem made_eq (z : Value) (n : Nat) : madeCells #[z] n = (List.replicate n z).toArray := by
  apply Array.ext
  · simp [madeCells]
  · intro i h1 h2
    simp [madeCells, Nat.mod_one]
theorem info_u8 : (Try.prog.info? 5).map (fun i => (i.zero, i.size, i.bytes)) = some (some (.int .u8 0), 1, 1) := by kernel_rfl
theorem make_bytes (n : Nat) (hn : n ≤ 281474976710656) (W : World) : (Instr.makeSlice 31 (.int .i64 (n : Int)) (.int .i64 (n : Int))).run Try.prog W =
    .ok (.slice (some ⟨W.heap.size, 0, none⟩) n n) (W.alloc (.cells (vb (List.replicate n 0)).toArray 5)) := by
  have := run_make_row' (P := Try.prog) 31 5 (.int .u8 0) 1 Try.underlying31 info_u8 rfl .i64 .i64 n (by omega) (by omega) W
  rw [made_eq] at this
  simpa [vb] using this
theorem vb_get (xs : List Int) (i : Nat) (h : i < xs.length) : (vb xs)[i]? = some (.int .u8 xs[i]) := by simp [vb, h]
theorem vb_set (xs : List Int) (i : Nat) (x : Int) : (vb xs).set i (.int .u8 x) = vb (xs.set i x) := by simp [vb, List.map_set]
theorem conv_bk {W : World} {g n : Nat} {zs : List Int} (h : Bk W g 5 (vb zs)) (hz : zs.length = n) :
    (convert 31 9 (.slice (some ⟨g, 0, none⟩) n n)).run Try.prog W = .ok (.string (strOfNums zs)) W :=
  run_convert_bytes_arg W 31 5 Try.underlying31 Try.underlying5 g 0 n n zs hz (fun i hi => by
    have := h.cell (0 + i)
    rw [this, Nat.zero_add, vb_get zs i (by omega), List.getD_eq_getElem?_getD, List.getElem?_eq_getElem (by omega)]
    rfl) 9 Try.underlying9

/-- The row of which k bytes are filled. -/
def frow (b : Int) (n k : Nat) : List Int := List.replicate k b ++ List.replicate (n - k) 0
theorem frow_len (b : Int) (n k : Nat) (h : k ≤ n) : (frow b n k).length = n := by simp [frow]; omega
theorem frow_zero (b : Int) (n : Nat) : frow b n 0 = List.replicate n 0 := by simp [frow]
theorem frow_all (b : Int) (n : Nat) : frow b n n = List.replicate n b := by simp [frow]
theorem frow_set (b : Int) (n k : Nat) (h : k < n) : (frow b n k).set k b = frow b n (k + 1) := by
  apply List.ext_getElem
  · simp [frow]; omega
  · intro i h1 h2
    simp only [frow, List.getElem_set, List.getElem_append, List.length_replicate, List.getElem_replicate]
    by_cases e : k = i
    · subst e; simp
    · rw [if_neg e]
      by_cases e2 : i < k
      · rw [dif_pos e2, dif_pos (by omega)]
      · rw [dif_neg e2, dif_neg (by omega)]
/-- So many bytes of one kind. -/
def fillS (b : Int) (n : Nat) : ByteArray := strOfNums (List.replicate n b)
theorem fillS_size (b : Int) (n : Nat) : (fillS b n).size = n := by
  show (fillS b n).data.size = n
  unfold fillS
  rw [← Array.length_toList, strOfNums_data]; simp

end Go.Proofs.Ytinkookmjnflhaa
