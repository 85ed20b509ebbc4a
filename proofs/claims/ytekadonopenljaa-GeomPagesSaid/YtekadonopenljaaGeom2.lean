/- The contracts of geom.Where and of the reference's sizes. -/
import Derived.Test.YtekadonopenljaaGeom
namespace Go.Proofs.Ytekadonopenljaa
open Go.RowKit
set_option linter.unusedVariables false

theorem div_mod_bd {s r n : Int} (hs : 3 ≤ s) (hs2 : s ≤ 10) (hn : 0 ≤ n) (hn2 : n < s * r) (hr2 : r ≤ 12) : 0 ≤ n / s ∧ n / s < r ∧ 0 ≤ n % s ∧ n % s < s ∧ n / s * s + n % s = n := by
  refine ⟨Int.ediv_nonneg hn (by omega), Int.ediv_lt_of_lt_mul (by omega) (by rw [Int.mul_comm]; exact hn2), Int.emod_nonneg _ (by omega), Int.emod_lt_of_pos _ (by omega), ?_⟩
  have := Int.mul_ediv_add_emod n s
  rw [Int.mul_comm]; omega
theorem mul_sr {p s r : Int} (h : RightG p s r) : 0 ≤ s * r ∧ s * r ≤ 120 ∧ 0 ≤ r * s ∧ r * s ≤ 120 ∧ r * s = s * r := by
  obtain ⟨h1, h2, h3, h4, h5, h6⟩ := h
  have a1 : 0 ≤ s * r := Int.mul_nonneg (by omega) (by omega)
  have a2 : s * r ≤ 10 * 12 := Int.mul_le_mul h4 h6 (by omega) (by omega)
  have e := Int.mul_comm r s
  omega
set_option maxHeartbeats 400000 in
theorem where_yes (p s r n : Int) (h : RightG p s r) (hn : 0 ≤ n) (hn2 : n < r * s) (w : World) :
    Calls Try.prog 24 #[geo p s r, .int .i64 n] w fun e w' => e = .returned (.tuple #[.int .i64 (n / s), .int .i64 (n % s), .bool true]) ∧ Kp w w' := by
  obtain ⟨h1, h2, h3, h4, h5, h6⟩ := id h
  obtain ⟨m1, m2, m3, m4, m5⟩ := mul_sr h
  obtain ⟨d1, d2, d3, d4, d5⟩ := div_mod_bd h3 h4 hn (by omega) h6
  have d6 : n / s ≤ 120 := by omega
  clear m5 d5
  have x1 : decide (r * s ≤ n) = false := by simp; omega
  have x2 : ¬ (s = 0) := by omega
  have t1 : n.tdiv s = n / s := Int.tdiv_eq_ediv_of_nonneg hn
  have t2 : n.tmod s = n % s := Int.tmod_eq_emod_of_nonneg hn
  have t3 : IntKind.i64.wrap (n / s) = n / s := IntWalk.i64_in _ (by omega)
  have t4 : IntKind.i64.wrap (n % s) = n % s := IntWalk.i64_in _ (by omega)
  have hG := Gat.new w p s r
  go_enter Try.func24, Try.ntmps24
  go_wp2_with fail
  refine (right_yes p s r h _).mono ?_
  rintro e w' ⟨rfl, rfl⟩
  go_wp2_with fail
  go_region_held3 (fun (W : World) => W.cell? ⟨w.heap.size, 0, none⟩ = some (.int .i64 p) ∧ W.cell? ⟨w.heap.size, 1, none⟩ = some (.int .i64 s) ∧ W.cell? ⟨w.heap.size, 2, none⟩ = some (.int .i64 r))
    ((refine Gat.keep hG ?_; repeat (first | exact Kp.refl _ | refine Kp.alloc ?_ _ | refine Kp.drew ?_))) (fail)
  go_wp2
  go_ret3
  refine ⟨rfl, ?_⟩
  repeat (first | exact Kp.refl _ | refine Kp.alloc ?_ _ | refine Kp.drew ?_)
set_option maxHeartbeats 800000 in
theorem where_no (p s r n : Int) (h : ¬ RightG p s r ∨ n < 0 ∨ r * s ≤ n) (w : World) :
    Calls Try.prog 24 #[geo p s r, .int .i64 n] w fun e w' => e = .returned (.tuple #[.int .i64 0, .int .i64 0, .bool false]) ∧ Kp w w' := by
  by_cases hr : RightG p s r
  · have h' : n < 0 ∨ (0 ≤ n ∧ r * s ≤ n) := by
      rcases h with h | h
      · exact absurd hr h
      · omega
    clear h
    obtain ⟨m1, m2, m3, m4, m5⟩ := mul_sr hr
    clear m5
    rcases h' with h1 | ⟨h1, h2⟩
    all_goals
      go_enter Try.func24, Try.ntmps24
      go_wp2_with fail
      refine (right_yes p s r hr _).mono ?_
      rintro e w' ⟨rfl, rfl⟩
      go_wp2_with fail
      go_ret3
      refine ⟨rfl, ?_⟩
      repeat (first | exact Kp.refl _ | refine Kp.alloc ?_ _ | refine Kp.drew ?_)
  · clear h
    go_enter Try.func24, Try.ntmps24
    go_wp2_with fail
    refine (right_no p s r hr _).mono ?_
    rintro e w' ⟨rfl, rfl⟩
    go_wp2_with fail
    go_ret3
    refine ⟨rfl, ?_⟩
    repeat (first | exact Kp.refl _ | refine Kp.alloc ?_ _ | refine Kp.drew ?_)

set_option maxHeartbeats 400000 in
theorem rslots_any (p s r : Int) (h : RightG p s r) (w : World) :
    Calls Try.prog 26 #[geo p s r] w fun e w' => e = .returned (.int .i64 (s - 1)) ∧ w.alloc (gob p s r) = w' := by
  obtain ⟨h1, h2, h3, h4, h5, h6⟩ := id h
  go_enter Try.func26, Try.ntmps26
  go_wp2_with fail
  go_ret
  exact ⟨rfl, rfl⟩
set_option maxHeartbeats 400000 in
theorem rroom_any (p s r : Int) (h : RightG p s r) (w : World) :
    Calls Try.prog 25 #[geo p s r] w fun e w' => e = .returned (.int .i64 (p - 15)) ∧ w.alloc (gob p s r) = w' := by
  obtain ⟨h1, h2, h3, h4, h5, h6⟩ := id h
  go_enter Try.func25, Try.ntmps25
  go_wp2_with fail
  go_ret
  exact ⟨rfl, rfl⟩
set_option maxHeartbeats 400000 in
theorem rsize_any (p s r : Int) (h : RightG p s r) (w : World) :
    Calls Try.prog 19 #[geo p s r] w fun e w' => e = .returned (.int .i64 (p * s * r)) ∧ w.alloc (gob p s r) = w' := by
  obtain ⟨h1, h2, h3, h4, h5, h6⟩ := id h
  obtain ⟨m1, m2, m3, m4⟩ := mul3 h
  go_enter Try.func19, Try.ntmps19
  go_wp2_with fail
  go_ret
  exact ⟨rfl, rfl⟩
set_option maxHeartbeats 400000 in
theorem rmost_any (p s r : Int) (h : RightG p s r) (w : World) :
    Calls Try.prog 21 #[geo p s r] w fun e w' => e = .returned (.int .i64 ((r - 3) * (s - 1))) ∧ Kp w w' := by
  obtain ⟨h1, h2, h3, h4, h5, h6⟩ := id h
  have m := mul2 (a := r - 3) (b := s - 1) (by omega) (by omega) (by omega) (by omega)
  have e1 : IntKind.i64.wrap (r - 3) = r - 3 := IntWalk.i64_in _ (by omega)
  have e2 : IntKind.i64.wrap ((r - 3) * (s - 1)) = (r - 3) * (s - 1) := IntWalk.i64_in _ (by omega)
  have hG := Gat.new w p s r
  go_enter Try.func21, Try.ntmps21
  go_wp2_with fail
  go_region_held3 (fun (W : World) => W.cell? ⟨w.heap.size, 0, none⟩ = some (.int .i64 p) ∧ W.cell? ⟨w.heap.size, 1, none⟩ = some (.int .i64 s) ∧ W.cell? ⟨w.heap.size, 2, none⟩ = some (.int .i64 r))
    ((refine Gat.keep hG ?_; repeat (first | exact Kp.refl _ | refine Kp.alloc ?_ _ | refine Kp.drew ?_)))
    (first
      | (go_at_call 26; refine (rslots_any p s r h _).mono ?_; rintro e w' ⟨rfl, rfl⟩))
  go_wp2
  go_ret
  refine ⟨rfl, ?_⟩
  repeat (first | exact Kp.refl _ | refine Kp.alloc ?_ _ | refine Kp.drew ?_)
set_option maxHeartbeats 400000 in
theorem rheld_any (p s r : Int) (h : RightG p s r) (w : World) :
    Calls Try.prog 22 #[geo p s r] w fun e w' => e = .returned (.int .i64 ((r - 2) * (s - 1))) ∧ Kp w w' := by
  obtain ⟨h1, h2, h3, h4, h5, h6⟩ := id h
  have m := mul2 (a := r - 2) (b := s - 1) (by omega) (by omega) (by omega) (by omega)
  have e1 : IntKind.i64.wrap (r - 2) = r - 2 := IntWalk.i64_in _ (by omega)
  have e2 : IntKind.i64.wrap ((r - 2) * (s - 1)) = (r - 2) * (s - 1) := IntWalk.i64_in _ (by omega)
  have hG := Gat.new w p s r
  go_enter Try.func22, Try.ntmps22
  go_wp2_with fail
  go_region_held3 (fun (W : World) => W.cell? ⟨w.heap.size, 0, none⟩ = some (.int .i64 p) ∧ W.cell? ⟨w.heap.size, 1, none⟩ = some (.int .i64 s) ∧ W.cell? ⟨w.heap.size, 2, none⟩ = some (.int .i64 r))
    ((refine Gat.keep hG ?_; repeat (first | exact Kp.refl _ | refine Kp.alloc ?_ _ | refine Kp.drew ?_)))
    (first
      | (go_at_call 26; refine (rslots_any p s r h _).mono ?_; rintro e w' ⟨rfl, rfl⟩))
  go_wp2
  go_ret
  refine ⟨rfl, ?_⟩
  repeat (first | exact Kp.refl _ | refine Kp.alloc ?_ _ | refine Kp.drew ?_)

set_option maxHeartbeats 800000 in
theorem rneed_core (p s r : Int) (h : RightG p s r) (n a : Int) (w : World) (hn : (n < 1 ∧ a = 1) ∨ (1 ≤ n ∧ n ≤ 1048576 ∧ a = n) ∨ (1048576 < n ∧ a = 1048576)) :
    Calls Try.prog 20 #[geo p s r, .int .i64 n] w fun e w' => e = .returned (.int .i64 (needZ p n)) ∧ Kp w w' := by
  obtain ⟨h1, h2, h3, h4, h5, h6⟩ := id h
  have h0 : 0 ≤ a := by omega
  have h0' : a ≤ 1048576 := by omega
  obtain ⟨d0, d1, d2, d3⟩ := need_div a (p - 15) (by omega) (by omega) h0 h0'
  have hz : needZ p n = (a + (p - 15) - 1) / (p - 15) + 1 := by
    unfold needZ
    rcases hn with ⟨x1, rfl⟩ | ⟨x1, x2, rfl⟩ | ⟨x1, rfl⟩
    · have : (1 + (p - 15) - 1) / (p - 15) = 1 := by rw [show 1 + (p - 15) - 1 = p - 15 by omega]; exact Int.ediv_self (by omega)
      rw [if_pos (by omega), this]; rfl
    · rw [if_neg (by omega), if_pos x2]
    · rw [if_neg (by omega), if_neg (by omega)]
  have HZ := Lib.hid hz
  clear hz
  have e1 : IntKind.i64.wrap (a + (p - 15)) = a + (p - 15) := IntWalk.i64_in _ (by omega)
  have e2 : IntKind.i64.wrap (a + (p - 15) - 1) = a + (p - 15) - 1 := IntWalk.i64_in _ (by omega)
  have e3 : ¬ ((p - 15 : Int) = 0) := by omega
  have e4 : ∀ x : Int, 0 ≤ x → x ≤ 1048700 → IntKind.i64.wrap x = x := fun x y z => IntWalk.i64_in _ (by omega)
  have e5 := e4 _ d2 d3
  have hG := Gat.new w p s r
  rcases hn with ⟨x1, rfl⟩ | ⟨x1, x2, rfl⟩ | ⟨x1, rfl⟩
  all_goals
    clear e4
    go_enter Try.func20, Try.ntmps20
    go_wp2_with fail
    go_region_held3 (fun (W : World) => W.cell? ⟨w.heap.size, 0, none⟩ = some (.int .i64 p) ∧ W.cell? ⟨w.heap.size, 1, none⟩ = some (.int .i64 s) ∧ W.cell? ⟨w.heap.size, 2, none⟩ = some (.int .i64 r))
      ((refine Gat.keep hG ?_; repeat (first | exact Kp.refl _ | refine Kp.alloc ?_ _ | refine Kp.drew ?_)))
      (first
        | (go_at_call 25; refine (rroom_any p s r h _).mono ?_; rintro e w' ⟨rfl, rfl⟩))
    all_goals go_wp2
    all_goals go_ret
    all_goals refine ⟨ret_int ?_, ?_⟩
    all_goals try (repeat (first | exact Kp.refl _ | refine Kp.alloc ?_ _ | refine Kp.drew ?_))
    all_goals
      rw [HZ.out]
      exact IntWalk.i64_in _ (by omega)
theorem rneed_any (p s r : Int) (h : RightG p s r) (n : Int) (w : World) :
    Calls Try.prog 20 #[geo p s r, .int .i64 n] w fun e w' => e = .returned (.int .i64 (needZ p n)) ∧ Kp w w' := by
  rcases Int.lt_or_le n 1 with h1 | h1
  · exact rneed_core p s r h n 1 w (.inl ⟨h1, rfl⟩)
  · rcases Int.lt_or_le 1048576 n with h2 | h2
    · exact rneed_core p s r h n 1048576 w (.inr (.inr ⟨h2, rfl⟩))
    · exact rneed_core p s r h n n w (.inr (.inl ⟨h1, h2, rfl⟩))
end Go.Proofs.Ytekadonopenljaa
