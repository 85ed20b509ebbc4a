/- The contract of cachepotbook.Pick; two small closers. -/
import Derived.Test.YtinkookmjnflhaaBase
namespace Go.Proofs.Ytinkookmjnflhaa
open Go.RowKit
set_option linter.unusedVariables false

theorem ret_bool {a b : Bool} (h : a = b) : Ending.returned (.bool a) = .returned (.bool b) := by rw [h]
theorem ret_int {k : IntKind} {a b : Int} (h : a = b) : Ending.returned (.int k a) = .returned (.int k b) := by rw [h]

theorem emod_of_tmod (n m : Int) (hm : 0 < m) : n % m = if n.tmod m < 0 then n.tmod m + m else n.tmod m := by
  have h1 := Int.tmod_lt_of_pos n hm
  have h2 := Int.lt_tmod_of_pos n hm
  have h3 := Int.tmod_add_mul_tdiv n m
  generalize n.tmod m = x at *
  generalize n.tdiv m = q at *
  subst h3
  rw [Int.add_mul_emod_self_left]
  split
  · rw [← Int.add_emod_right, Int.emod_eq_of_lt (by omega) (by omega)]
  · rw [Int.emod_eq_of_lt (by omega) (by omega)]


end Go.Proofs.Ytinkookmjnflhaa
