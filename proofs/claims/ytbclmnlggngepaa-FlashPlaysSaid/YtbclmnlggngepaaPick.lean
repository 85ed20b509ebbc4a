/- The contract of cachepotbook.Pick; two small closers. -/
import Derived.Test.YtbclmnlggngepaaBase
namespace Go.Proofs.Ytbclmnlggngepaa
open Go.RowKit
set_option linter.unusedVariables false

theorem ret_bool {a b : Bool} (h : a = b) : Ending.returned (.bool a) = .returned (.bool b) := by rw [h]
theorem ret_int {k : IntKind} {a b : Int} (h : a = b) : Ending.returned (.int k a) = .returned (.int k b) := by rw [h]

theorem emod_of_tmod (n m : Int) (hm : 0 < m) : n % m = if n.tmod m < 0 then n.tmod m + m else n.tmod m := by
  have h1 := Int.tmod_lt_of_pos n hm
  have h2 := Int.lt_tmod_of_pos n hm
  have h3 := Int.tmod_add_mul_tdiv n m
  generalize n.tmod m = x at *
  generalize n.tdiv m = q at *
  subst h3
  rw [Int.add_mul_emod_self_left]
  split
  · rw [← Int.add_emod_right, Int.emod_eq_of_lt (by omega) (by omega)]
  · rw [Int.emod_eq_of_lt (by omega) (by omega)]

set_option maxHeartbeats 400000 in
theorem pick_any (n m : Int) (hm : 0 < m) (hm2 : m ≤ 1000000000) (h1 : -9223372036854775808 ≤ n) (h2 : n ≤ 9223372036854775807) (w : World) :
    Calls Try.prog 27 #[.int .i64 n, .int .i64 m] w fun e w' => e = .returned (.int .i64 (n % m)) ∧ w = w' := by
  go_enter Try.func27, Try.ntmps27
  have hb1 := Int.tmod_lt_of_pos n hm
  have hb2 := Int.lt_tmod_of_pos n hm
  have he := Lib.hid (emod_of_tmod n m hm)
  go_wp2
  all_goals go_ret
  · have hneg : n.tmod m < 0 := by assumption
    exact ⟨by rw [he.out, if_pos hneg]; rfl, rfl⟩
  · have hpos : 0 ≤ n.tmod m := by assumption
    exact ⟨by rw [he.out, if_neg (by omega)]; rfl, rfl⟩

end Go.Proofs.Ytbclmnlggngepaa
