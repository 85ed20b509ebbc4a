/- What the bound of the second form gives. -/
import Derived.Test.YtfhkkelhhjbbpaaRows
import Derived.Test.YtfhkkelhhjbbpaaOpen
namespace Go.Proofs.Ytfhkkelhhjbbpaa
open Go.ChangeShapes Go.WideShapes Go.ChangeAt Go.RowKit
theorem bulk_part {H : Type} {d : DataW H} : ∀ {l : List (DataW H)}, d ∈ l → Rows.uptoBulk d ≤ Rows.uptoBulkAll l
  | x :: r, h => by
    simp only [Rows.uptoBulkAll]
    rcases List.mem_cons.1 h with rfl | h
    · omega
    · have := bulk_part h; omega
theorem bulk_strs {H : Type} : ∀ ss : List ByteArray, Rows.uptoBulkAll (strs (H := H) ss) = (ss.map fun s => s.size + 1).sum
  | [] => by simp [strs, Rows.uptoBulkAll]
  | s :: ss => by
    have ih := bulk_strs (H := H) ss
    simp only [strs, List.map_cons, Rows.uptoBulkAll, Rows.uptoBulk, List.sum_cons] at ih ⊢
    rw [ih, size_of_toList]
theorem bulk_texts {H : Type} {ds : List (DataW H)} {d : DataW H} {ss : List ByteArray} (h : Rows.uptoBulkAll ds ≤ 1048576) {j : Nat} (hd : ds[j]? = some d)
    (e : (d = .nil ∧ ss = []) ∨ ∃ more, d = .slice (strs ss) more) : (ss.map fun s => s.size + 1).sum ≤ 1048576 := by
  have hb := bulk_part (List.mem_of_getElem? hd)
  rcases e with ⟨_, rfl⟩ | ⟨more, rfl⟩
  · simp
  · rw [← bulk_strs (H := H)]
    simp only [Rows.uptoBulk] at hb
    omega
theorem bulk_le {H : Type} : ∀ l : List (DataW H), l.length ≤ Rows.uptoBulkAll l
  | [] => by simp
  | d :: r => by
    have := bulk_le r
    have h1 : 1 ≤ Rows.uptoBulk d := by
      cases d
      case lit l => cases l <;> simp [Rows.uptoBulk]
      all_goals simp [Rows.uptoBulk]
    simp only [Rows.uptoBulkAll, List.length_cons]
    omega
theorem bulk_len {H T : Type} {ds : List (DataW H)} {d : DataW H} {xs : List T} {f : T → DataW H} (h : Rows.uptoBulkAll ds ≤ 1048576) {j : Nat} (hd : ds[j]? = some d)
    (e : (d = .nil ∧ xs = []) ∨ ∃ more, d = .slice (xs.map f) more) : xs.length ≤ 1048576 := by
  have hb := bulk_part (List.mem_of_getElem? hd)
  rcases e with ⟨_, rfl⟩ | ⟨more, rfl⟩
  · simp
  · have := bulk_le (xs.map f)
    rw [List.length_map] at this
    simp only [Rows.uptoBulk] at hb
    omega
end Go.Proofs.Ytfhkkelhhjbbpaa
