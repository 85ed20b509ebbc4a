/- The contracts of package piece, second part: a floor, what is no piece, Of as a whole. -/
import Derived.Test.YtadggldngoknjaaPiece
namespace Go.Proofs.Ytadggldngoknjaa
open Go.RowKit
set_option linter.unusedVariables false

set_option maxRecDepth 20000 in
set_option maxHeartbeats 4000000 in
theorem of_floor (a b : Int) (s : ByteArray) (h1 : 1 ≤ a) (h2 : a ≤ 2147483647) (hs : s.size = 4) (w : World) :
    Calls Try.prog 13 #[frv 4 a b s] w fun e w' => e = .returned (.tuple #[pval (ofP 4 a b s), .int .i64 (codeP (ofP 4 a b s))]) ∧ Kp w w' := by
  have hz : ((s.size : Int) == 4) = true := by simp [hs]
  have hF2 := Lib.hid (FrkN w 4 a b s)
  have hof : ofP 4 a b s = if (get4 s 0 : Int) ≤ a then some (.floor a b (get4 s 0)) else none := by
    unfold ofP
    rw [if_pos ⟨h1, h2⟩, if_neg (by omega), if_neg (by omega), if_neg (by omega)]
    by_cases c : (get4 s 0 : Int) ≤ a
    · rw [if_pos ⟨rfl, hs, c⟩, if_pos c]
    · rw [if_neg (fun h => c h.2.2), if_neg c]
  have HOF := Lib.hid hof
  clear hof
  go_enter Try.func13, Try.ntmps13
  go_upto_region 13 with fail
  go_cut [6] (fun v wx => Kp w wx ∧ ∃ g, v = .pointer (some ⟨g, 0, none⟩) ∧ Bk wx g 35 [.int .u32 a, .int .u32 b, .int .u32 (get4 s 0 : Nat)])
  case first =>
    go_region_held3 (fun (W : World) => W.cell? ⟨w.heap.size, 0, none⟩ = some (.int .i64 4) ∧ W.cell? ⟨w.heap.size, 1, none⟩ = some (.int .u32 a) ∧ W.cell? ⟨w.heap.size, 2, none⟩ = some (.int .u32 b) ∧ W.cell? ⟨w.heap.size, 3, none⟩ = some (.string s)) (first | exact hF2.out _ _ (Kp.refl _) rfl | exact hF2.out _ _ (Kp.one _ _) rfl | exact hF2.out _ _ ((Kp.one _ _).drew) rfl)
      (first
        | (go_at_call 26; refine (number_i s (by omega) _ (by omega) (by omega) (by omega) _).mono ?_; rintro e w' ⟨rfl, n, rfl⟩))
    all_goals go_wp2_with fail
    all_goals go_meet
    all_goals exact ⟨by (repeat (first | with_reducible exact Kp.refl _ | with_reducible assumption | with_reducible refine Kp.alloc ?_ _ | with_reducible refine Kp.drew ?_ | with_reducible refine Kp.drewN ?_ _ | exact Kp.refl _ | assumption | refine Kp.alloc ?_ _ | refine Kp.drew ?_ | refine Kp.drewN ?_ _ | refine Kp.trans ?_ (by assumption))), _, rfl, Bk.at _ _ [_, _, _] _ (by simp [go_sem])⟩
  case rest =>
    obtain ⟨hK, g, rfl, hB⟩ := hcut
    have c0 := hB.cell 0
    have c1 := hB.cell 1
    have c2 := hB.cell 2
    simp only [List.getElem?_cons_zero, List.getElem?_cons_succ] at c0 c1 c2
    generalize get4 s 0 = p at *
    clear hB hF2
    by_cases e0 : (p : Int) ≤ a
    · have hr := HOF.out
      rw [if_pos e0] at hr
      clear HOF
      go_wp2_with fail
      go_ret2
      exact ⟨by first | rfl | (rw [hr]; rfl), hK⟩
    · have hr : ofP 4 a b s = none := by rw [HOF.out, if_neg (by omega)]
      clear HOF
      go_wp2_with fail
      go_ret2
      exact ⟨by first | rfl | (rw [hr]; rfl), hK⟩

/-- A frame that is of no kind, or whose body's length is another. -/
def NoKind (k b : Int) (s : ByteArray) : Prop :=
  (k = 1 ∧ s.toList.isEmpty = false) ∨ (k = 2 ∧ s.toList.isEmpty = true) ∨ (k = 3 ∧ ((s.size : Int) == 16) = false) ∨ (k = 3 ∧ ((s.size : Int) == 16) = true ∧ (b != 0) = false) ∨ (k = 4 ∧ ((s.size : Int) == 4) = false) ∨
  ((k == 1) = false ∧ (k == 2) = false ∧ (k == 3) = false ∧ (k == 4) = false)
set_option maxHeartbeats 1600000 in
theorem of_no (k a b : Int) (s : ByteArray) (h1 : 1 ≤ a) (h2 : a ≤ 2147483647) (hs : s.size ≤ 9223372036854775807) (h : NoKind k b s) (w : World) :
    Calls Try.prog 13 #[frv k a b s] w fun e w' => e = .returned (.tuple #[.nilIface, .int .i64 2]) ∧ Kp w w' := by
  rcases h with ⟨rfl, h⟩ | ⟨rfl, h⟩ | ⟨rfl, h⟩ | ⟨rfl, h, h'⟩ | ⟨rfl, h⟩ | ⟨e1, e2, e3, e4⟩
  all_goals
    go_enter Try.func13, Try.ntmps13
    go_wp2
    go_ret2
    refine ⟨rfl, ?_⟩
    (repeat (first | with_reducible exact Kp.refl _ | with_reducible assumption | with_reducible refine Kp.alloc ?_ _ | with_reducible refine Kp.drew ?_ | with_reducible refine Kp.drewN ?_ _ | exact Kp.refl _ | assumption | refine Kp.alloc ?_ _ | refine Kp.drew ?_ | refine Kp.drewN ?_ _ | refine Kp.trans ?_ (by assumption)))
end Go.Proofs.Ytadggldngoknjaa
