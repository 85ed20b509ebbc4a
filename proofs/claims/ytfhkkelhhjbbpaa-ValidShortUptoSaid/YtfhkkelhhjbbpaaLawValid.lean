/- The walks of the statements of chapter 23. -/
import Derived.Test.YtfhkkelhhjbbpaaValid
import Derived.OpenShut
namespace Go.Proofs.Ytfhkkelhhjbbpaa
open Go.RowKit
set_option linter.unusedVariables false
set_option linter.unusedSimpArgs false

theorem clash1 (k : ByteArray) (a b x f : Int) (w : World) (A B : Nat) (h0 : w.cell? ⟨A, 0, none⟩ = some (.string k)) (h1 : w.cell? ⟨A, 1, none⟩ = some (.int .u32 a)) (h2 : w.cell? ⟨A, 2, none⟩ = some (.int .u32 b)) (h3 : w.cell? ⟨B, 0, none⟩ = some (.int .u32 x)) :
    Calls Try.prog 8 #[.slice (some ⟨A, 0, none⟩) 1 1, .slice (some ⟨B, 0, none⟩) 1 1, .int .u32 f] w fun e w' => e = .returned (clashV (clash [⟨k, a, b⟩] [x] f)) ∧ Kp w w' :=
  clash_any [⟨k, a, b⟩] (some ⟨A, 0, none⟩) 1 [x] (some ⟨B, 0, none⟩) 1 f w
    ⟨by simp, fun _ => ⟨A, 0, rfl, fun j hj => by
      obtain rfl : j = 0 := by simp at hj; omega
      exact ⟨h0, h1, h2⟩⟩⟩
    ⟨by simp, fun _ => ⟨B, 0, rfl, fun j hj => by
      obtain rfl : j = 0 := by simp at hj; omega
      exact h3⟩⟩

theorem two_blocks (w : World) (x y z u : Value) (t t' : TypeId) :
    ((w.alloc (.cells #[x, y, z] t)).alloc (.cells #[u] t')).cell? ⟨w.heap.size, 0, none⟩ = some x ∧ ((w.alloc (.cells #[x, y, z] t)).alloc (.cells #[u] t')).cell? ⟨w.heap.size, 1, none⟩ = some y ∧
    ((w.alloc (.cells #[x, y, z] t)).alloc (.cells #[u] t')).cell? ⟨w.heap.size, 2, none⟩ = some z ∧ ((w.alloc (.cells #[x, y, z] t)).alloc (.cells #[u] t')).cell? ⟨w.heap.size + 1, 0, none⟩ = some u := by
  have h1 : Bk (w.alloc (.cells #[x, y, z] t)) w.heap.size t [x, y, z] := Bk.new w t [x, y, z]
  have h2 := h1.alloc (.cells #[u] t')
  have h3 : Bk ((w.alloc (.cells #[x, y, z] t)).alloc (.cells #[u] t')) (w.alloc (.cells #[x, y, z] t)).heap.size t' [u] := Bk.new _ t' [u]
  refine ⟨h2.cell 0, h2.cell 1, h2.cell 2, ?_⟩
  have := h3.cell 0
  rw [World.size_alloc] at this
  exact this
theorem alive1 (w : World) : Calls Try.prog 8 #[.slice (some ⟨w.heap.size, 0, none⟩) 1 1, .slice (some ⟨w.heap.size + 1, 0, none⟩) 1 1, .int .u32 0]
    ((w.alloc (.cells #[.string ⟨#[97]⟩, .int .u32 3, .int .u32 0] 27)).alloc (.cells #[.int .u32 3] 24)) fun e w' => e = .returned (.tuple #[.int .i64 0, .bool false]) ∧ Kp ((w.alloc (.cells #[.string ⟨#[97]⟩, .int .u32 3, .int .u32 0] 27)).alloc (.cells #[.int .u32 3] 24)) w' := by
  obtain ⟨a, b, c, d⟩ := two_blocks w (.string ⟨#[97]⟩) (.int .u32 3) (.int .u32 0) (.int .u32 3) 27 24
  exact clash1 _ 3 0 3 0 _ _ _ a b c d
theorem alive2 (w : World) : Calls Try.prog 8 #[.slice (some ⟨w.heap.size, 0, none⟩) 1 1, .slice (some ⟨w.heap.size + 1, 0, none⟩) 1 1, .int .u32 2]
    ((w.alloc (.cells #[.string ⟨#[97]⟩, .int .u32 0, .int .u32 1] 27)).alloc (.cells #[.int .u32 0] 24)) fun e w' => e = .returned (.tuple #[.int .i64 0, .bool true]) ∧ Kp ((w.alloc (.cells #[.string ⟨#[97]⟩, .int .u32 0, .int .u32 1] 27)).alloc (.cells #[.int .u32 0] 24)) w' := by
  obtain ⟨a, b, c, d⟩ := two_blocks w (.string ⟨#[97]⟩) (.int .u32 0) (.int .u32 1) (.int .u32 0) 27 24
  exact clash1 _ 0 1 0 2 _ _ _ a b c d
theorem alive3 (w : World) : Calls Try.prog 11 #[.slice (some ⟨w.heap.size, 0, none⟩) 2 2]
    (w.alloc (.cells #[.string ⟨#[]⟩, .int .u32 0, .int .u32 0, .string ⟨#[]⟩, .int .u32 1, .int .u32 0] 27)) fun e w' => e = .returned (.int .i64 1) ∧ Kp (w.alloc (.cells #[.string ⟨#[]⟩, .int .u32 0, .int .u32 0, .string ⟨#[]⟩, .int .u32 1, .int .u32 0] 27)) w' := by
  have h : Bk (w.alloc (.cells #[.string ⟨#[]⟩, .int .u32 0, .int .u32 0, .string ⟨#[]⟩, .int .u32 1, .int .u32 0] 27)) w.heap.size 27 _ := Bk.new w 27 [.string ⟨#[]⟩, .int .u32 0, .int .u32 0, .string ⟨#[]⟩, .int .u32 1, .int .u32 0]
  exact misses_any [⟨⟨#[]⟩, 0, 0⟩, ⟨⟨#[]⟩, 1, 0⟩] (some ⟨w.heap.size, 0, none⟩) 2 _ ⟨by simp, fun _ => ⟨w.heap.size, 0, rfl, fun j hj => by
    match j, hj with
    | 0, _ => exact ⟨h.cell 0, h.cell 1, h.cell 2⟩
    | 1, _ => exact ⟨h.cell 3, h.cell 4, h.cell 5⟩⟩⟩

set_option maxHeartbeats 800000 in
theorem alive_any (w : World) : Calls Try.prog 10 #[] w fun e w' => e = .returned (.bool true) ∧ Kp w w' := by
  go_enter Try.func10, Try.ntmps10
  go_wp2_with fail
  refine (alive1 w).mono ?_
  rintro e w1 ⟨rfl, hk1⟩
  go_wp2_with fail
  refine (alive2 w1).mono ?_
  rintro e w2 ⟨rfl, hk2⟩
  go_wp2_with fail
  refine (alive3 w2).mono ?_
  rintro e w3 ⟨rfl, hk3⟩
  go_wp2_with fail
  go_ret
  refine ⟨rfl, ?_⟩
  exact Kp.trans (Kp.trans (Kp.trans (by (repeat (first | exact Kp.refl _ | assumption | refine Kp.alloc ?_ _ | refine Kp.drew ?_ | refine Kp.drewN ?_ _ | refine Kp.trans ?_ (by assumption)))) hk1) (Kp.trans (by (repeat (first | exact Kp.refl _ | assumption | refine Kp.alloc ?_ _ | refine Kp.drew ?_ | refine Kp.drewN ?_ _ | refine Kp.trans ?_ (by assumption)))) hk2)) (Kp.trans (by (repeat (first | exact Kp.refl _ | assumption | refine Kp.alloc ?_ _ | refine Kp.drew ?_ | refine Kp.drewN ?_ _ | refine Kp.trans ?_ (by assumption)))) hk3)

/-- The first k reads with Forgets set. -/
def setF (f : Int) (rs : List Rd) (k : Nat) : List Rd := (rs.take k).map (fun r => { r with fg := f }) ++ rs.drop k
theorem setF_len (f : Int) (rs : List Rd) (k : Nat) : (setF f rs k).length = rs.length := by
  unfold setF; rw [List.length_append, List.length_map, List.length_take, List.length_drop]; omega
theorem setF_zero (f : Int) (rs : List Rd) : setF f rs 0 = rs := by simp [setF]
theorem setF_get (f : Int) (rs : List Rd) (k j : Nat) (h : j < rs.length) : (setF f rs k)[j]'(by rw [setF_len]; exact h) = if j < k then { rs[j] with fg := f } else rs[j] := by
  unfold setF
  by_cases e : j < k
  · rw [List.getElem_append_left (by rw [List.length_map, List.length_take]; omega), if_pos e]
    simp
  · rw [List.getElem_append_right (by rw [List.length_map, List.length_take]; omega), if_neg e]
    simp only [List.length_map, List.length_take, List.getElem_drop]
    congr 1
    omega
theorem setF_step (f : Int) (rs : List Rd) (k : Nat) (h : k < rs.length) : (setF f rs k).set k { (setF f rs k)[k]'(by rw [setF_len]; exact h) with fg := f } = setF f rs (k + 1) := by
  apply List.ext_getElem
  · simp [setF_len]
  · intro j h1 h2
    have hj : j < rs.length := by rw [setF_len] at h2; exact h2
    rw [List.getElem_set]
    by_cases e : k = j
    · subst e
      rw [if_pos rfl, setF_get f rs _ _ hj, setF_get f rs _ _ hj, if_neg (by omega), if_pos (by omega)]
    · rw [if_neg e, setF_get f rs _ _ hj, setF_get f rs _ _ hj]
      by_cases e2 : j < k
      · rw [if_pos e2, if_pos (by omega)]
      · rw [if_neg e2, if_neg (by omega)]
def froms (rs : List Rd) : List Int := rs.map Rd.fr
theorem froms_setF (f : Int) (rs : List Rd) (k : Nat) : froms (setF f rs k) = froms rs := by
  unfold froms
  apply List.ext_getElem
  · simp [setF_len]
  · intro j h1 h2
    simp only [List.getElem_map]
    rw [setF_get f rs k j (by simpa using h2)]
    split <;> rfl
end Go.Proofs.Ytfhkkelhhjbbpaa
