/- The contracts of geom.Where and of the reference's sizes. -/
import Derived.Test.YtbclmnlggngepaaGeom
namespace Go.Proofs.Ytbclmnlggngepaa
open Go.RowKit
set_option linter.unusedVariables false

theorem div_mod_bd {s r n : Int} (hs : 3 ≤ s) (hs2 : s ≤ 10) (hn : 0 ≤ n) (hn2 : n < s * r) (hr2 : r ≤ 12) : 0 ≤ n / s ∧ n / s < r ∧ 0 ≤ n % s ∧ n % s < s ∧ n / s * s + n % s = n := by
  refine ⟨Int.ediv_nonneg hn (by omega), Int.ediv_lt_of_lt_mul (by omega) (by rw [Int.mul_comm]; exact hn2), Int.emod_nonneg _ (by omega), Int.emod_lt_of_pos _ (by omega), ?_⟩
  have := Int.mul_ediv_add_emod n s
  rw [Int.mul_comm]; omega
theorem mul_sr {p s r : Int} (h : RightG p s r) : 0 ≤ s * r ∧ s * r ≤ 120 ∧ 0 ≤ r * s ∧ r * s ≤ 120 ∧ r * s = s * r := by
  obtain ⟨h1, h2, h3, h4, h5, h6⟩ := h
  have a1 : 0 ≤ s * r := Int.mul_nonneg (by omega) (by omega)
  have a2 : s * r ≤ 10 * 12 := Int.mul_le_mul h4 h6 (by omega) (by omega)
  have e := Int.mul_comm r s
  omega




set_option maxHeartbeats 400000 in
theorem rsize_any (p s r : Int) (h : RightG p s r) (w : World) :
    Calls Try.prog 14 #[geo p s r] w fun e w' => e = .returned (.int .i64 (p * s * r)) ∧ w.alloc (gob p s r) = w' := by
  obtain ⟨h1, h2, h3, h4, h5, h6⟩ := id h
  obtain ⟨m1, m2, m3, m4⟩ := mul3 h
  go_enter Try.func14, Try.ntmps14
  go_wp2_with fail
  go_ret
  exact ⟨rfl, rfl⟩





end Go.Proofs.Ytbclmnlggngepaa
