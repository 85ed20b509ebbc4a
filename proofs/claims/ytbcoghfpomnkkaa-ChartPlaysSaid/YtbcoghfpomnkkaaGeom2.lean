/- The contracts of geom.Where and of the reference's sizes. -/
import Derived.Test.YtbcoghfpomnkkaaGeom
namespace Go.Proofs.Ytbcoghfpomnkkaa
open Go.RowKit
set_option linter.unusedVariables false

theorem div_mod_bd {s r n : Int} (hs : 3 ≤ s) (hs2 : s ≤ 10) (hn : 0 ≤ n) (hn2 : n < s * r) (hr2 : r ≤ 12) : 0 ≤ n / s ∧ n / s < r ∧ 0 ≤ n % s ∧ n % s < s ∧ n / s * s + n % s = n := by
  refine ⟨Int.ediv_nonneg hn (by omega), Int.ediv_lt_of_lt_mul (by omega) (by rw [Int.mul_comm]; exact hn2), Int.emod_nonneg _ (by omega), Int.emod_lt_of_pos _ (by omega), ?_⟩
  have := Int.mul_ediv_add_emod n s
  rw [Int.mul_comm]; omega
theorem mul_sr {p s r : Int} (h : RightG p s r) : 0 ≤ s * r ∧ s * r ≤ 120 ∧ 0 ≤ r * s ∧ r * s ≤ 120 ∧ r * s = s * r := by
  obtain ⟨h1, h2, h3, h4, h5, h6⟩ := h
  have a1 : 0 ≤ s * r := Int.mul_nonneg (by omega) (by omega)
  have a2 : s * r ≤ 10 * 12 := Int.mul_le_mul h4 h6 (by omega) (by omega)
  have e := Int.mul_comm r s
  omega


set_option maxHeartbeats 400000 in
theorem rslots_any (p s r : Int) (h : RightG p s r) (w : World) :
    Calls Try.prog 18 #[geo p s r] w fun e w' => e = .returned (.int .i64 (s - 1)) ∧ w.alloc (gob p s r) = w' := by
  obtain ⟨h1, h2, h3, h4, h5, h6⟩ := id h
  go_enter Try.func18, Try.ntmps18
  go_wp2_with fail
  go_ret
  exact ⟨rfl, rfl⟩




set_option maxHeartbeats 400000 in
theorem rheld_any (p s r : Int) (h : RightG p s r) (w : World) :
    Calls Try.prog 25 #[geo p s r] w fun e w' => e = .returned (.int .i64 ((r - 2) * (s - 1))) ∧ Kp w w' := by
  obtain ⟨h1, h2, h3, h4, h5, h6⟩ := id h
  have m := mul2 (a := r - 2) (b := s - 1) (by omega) (by omega) (by omega) (by omega)
  have e1 : IntKind.i64.wrap (r - 2) = r - 2 := IntWalk.i64_in _ (by omega)
  have e2 : IntKind.i64.wrap ((r - 2) * (s - 1)) = (r - 2) * (s - 1) := IntWalk.i64_in _ (by omega)
  have hG := Gat.new w p s r
  go_enter Try.func25, Try.ntmps25
  go_wp2_with fail
  go_region_held3 (fun (W : World) => W.cell? ⟨w.heap.size, 0, none⟩ = some (.int .i64 p) ∧ W.cell? ⟨w.heap.size, 1, none⟩ = some (.int .i64 s) ∧ W.cell? ⟨w.heap.size, 2, none⟩ = some (.int .i64 r))
    ((refine Gat.keep hG ?_; repeat (first | exact Kp.refl _ | refine Kp.alloc ?_ _ | refine Kp.drew ?_)))
    (first
      | (go_at_call 18; refine (rslots_any p s r h _).mono ?_; rintro e w' ⟨rfl, rfl⟩))
  go_wp2
  go_ret
  refine ⟨rfl, ?_⟩
  repeat (first | exact Kp.refl _ | refine Kp.alloc ?_ _ | refine Kp.drew ?_)



end Go.Proofs.Ytbcoghfpomnkkaa
