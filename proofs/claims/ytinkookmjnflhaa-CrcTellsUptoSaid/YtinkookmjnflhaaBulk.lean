/- What the bound of the second form gives. -/
import Derived.Test.YtinkookmjnflhaaRows
import Derived.Test.YtinkookmjnflhaaOpen
namespace Go.Proofs.Ytinkookmjnflhaa
open Go.ChangeShapes Go.WideShapes Go.ChangeAt Go.RowKit
theorem bulk_part {H : Type} {d : DataW H} : ∀ {l : List (DataW H)}, d ∈ l → Rows.uptoBulk d ≤ Rows.uptoBulkAll l
  | x :: r, h => by
    simp only [Rows.uptoBulkAll]
    rcases List.mem_cons.1 h with rfl | h
    · omega
    · have := bulk_part h; omega
theorem bulk_strs {H : Type} : ∀ ss : List ByteArray, Rows.uptoBulkAll (strs (H := H) ss) = (ss.map fun s => s.size + 1).sum
  | [] => by simp [strs, Rows.uptoBulkAll]
  | s :: ss => by
    have ih := bulk_strs (H := H) ss
    simp only [strs, List.map_cons, Rows.uptoBulkAll, Rows.uptoBulk, List.sum_cons] at ih ⊢
    rw [ih, size_of_toList]
theorem bulk_texts {H : Type} {ds : List (DataW H)} {d : DataW H} {ss : List ByteArray} (h : Rows.uptoBulkAll ds ≤ 1048576) {j : Nat} (hd : ds[j]? = some d)
    (e : (d = .nil ∧ ss = []) ∨ ∃ more, d = .slice (strs ss) more) : (ss.map fun s => s.size + 1).sum ≤ 1048576 := by
  have hb := bulk_part (List.mem_of_getElem? hd)
  rcases e with ⟨_, rfl⟩ | ⟨more, rfl⟩
  · simp
  · rw [← bulk_strs (H := H)]
    simp only [Rows.uptoBulk] at hb
    omega
end Go.Proofs.Ytinkookmjnflhaa
