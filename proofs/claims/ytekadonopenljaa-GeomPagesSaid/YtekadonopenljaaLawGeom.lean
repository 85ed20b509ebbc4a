/- The walks of the statements of chapter 6. -/
import Derived.Test.YtekadonopenljaaGeom2
import Derived.OpenShut
namespace Go.Proofs.Ytekadonopenljaa
open Go.RowKit
set_option linter.unusedVariables false

theorem RightG.small (p s r : Int) : RightG (32 + p % 33) (3 + s % 4) (4 + r % 4) := by unfold RightG; omega

theorem bounds_law {P S R : Int} (h : RightG P S R) : S - 1 ≤ (R - 3) * (S - 1) ∧ (R - 2) * (S - 1) = (R - 3) * (S - 1) + (S - 1) ∧ P * S * R = P * ((R - 2) * (S - 1) + 2 * (S - 1) + R) ∧ 0 ≤ P * S * R ∧ P * S * R ≤ 15360 ∧ 0 ≤ (R - 3) * (S - 1) ∧ (R - 3) * (S - 1) ≤ 40000 := by
  have m3 := mul3 h
  obtain ⟨h1, h2, h3, h4, h5, h6⟩ := h
  have e0 : S - 1 ≤ (R - 3) * (S - 1) := by
    have := Int.mul_le_mul (show 1 ≤ R - 3 by omega) (Int.le_refl (S - 1)) (by omega) (by omega)
    omega
  have e1 : (R - 2) * (S - 1) = (R - 3) * (S - 1) + (S - 1) := by
    rw [show R - 2 = (R - 3) + 1 by omega, Int.add_mul, Int.one_mul]
  have e2 : (R - 2) * (S - 1) + 2 * (S - 1) + R = S * R := by
    rw [← Int.add_mul, show R - 2 + 2 = R by omega, Int.mul_sub, Int.mul_one, Int.mul_comm]; omega
  have m := mul2 (a := R - 3) (b := S - 1) (by omega) (by omega) (by omega) (by omega)
  exact ⟨e0, e1, by rw [e2, Int.mul_assoc], m3.2.2.1, m3.2.2.2, m.1, m.2⟩

set_option maxHeartbeats 400000 in
theorem alive_any (w : World) : Calls Try.prog 10 #[] w fun e w' => e = .returned (.bool true) ∧ Kp w w' := by
  have hr : RightG 32 4 4 := by unfold RightG; omega
  have hz : needZ 32 18 = 3 := by decide
  have hG := Gat.new w 32 4 4
  go_enter Try.func10, Try.ntmps10
  go_wp2_with fail
  refine (right_yes 32 4 4 hr _).mono ?_
  rintro e w1 ⟨rfl, rfl⟩
  go_wp2_with fail
  refine (room_yes 32 4 4 hr _).mono ?_
  rintro e w1 ⟨rfl, rfl⟩
  go_wp2_with fail
  refine (slots_yes 32 4 4 hr _).mono ?_
  rintro e w1 ⟨rfl, rfl⟩
  go_wp2_with fail
  refine (need_yes 32 4 4 hr 18 _).mono ?_
  rintro e w1 ⟨rfl, hk⟩
  obtain ⟨c0, c1, c2⟩ := hG.keep (Kp.trans (by (repeat (first | exact Kp.refl _ | assumption | refine Kp.alloc ?_ _ | refine Kp.drew ?_ | refine Kp.drewN ?_ _ | refine Kp.trans ?_ (by assumption)))) hk)
  go_wp2_with fail
  refine (most_yes 32 4 4 hr _).mono ?_
  rintro e w2 ⟨rfl, hk2⟩
  obtain ⟨d0, d1, d2⟩ := Gat.keep ⟨c0, c1, c2⟩ hk2
  go_wp2_with fail
  refine (held_yes 32 4 4 hr _).mono ?_
  rintro e w3 ⟨rfl, hk3⟩
  go_wp2_with fail
  go_ret
  refine ⟨rfl, ?_⟩
  refine Kp.trans (Kp.trans (Kp.trans ?_ hk) hk2) hk3
  (repeat (first | exact Kp.refl _ | assumption | refine Kp.alloc ?_ _ | refine Kp.drew ?_ | refine Kp.drewN ?_ _ | refine Kp.trans ?_ (by assumption)))

set_option maxHeartbeats 800000 in
theorem GeomBack_walk (w : World) (p s r : Int) (wp : (Lit.int .i64 p).wf = true) (ws : (Lit.int .i64 s).wf = true) (wr : (Lit.int .i64 r).wf = true) (n : Int) (wn : (Lit.int .i64 n).wf = true) :
    Calls Try.prog 7 #[geo p s r, .int .i64 n] w fun e w' => e = .returned (.bool true) ∧ Kp w w' := by
  have hB := Gbx.new w p s r
  go_enter Try.func7, Try.ntmps7
  go_wp2_with fail
  refine (bgeom_any p s r (bounds_i64 wp) (bounds_i64 ws) (bounds_i64 wr) _).mono ?_
  rintro e w1 ⟨rfl, hk1⟩
  have hR := RightG.small p s r
  have hB1 := hB.keep hk1
  obtain ⟨c0, c1, c2⟩ := hB1.cells
  obtain ⟨f0, f1, f2⟩ := hB1.free
  go_wp2_with fail
  have hB2 := hB1.put (p' := 32 + p % 33) (s' := 3 + s % 4) (r' := 4 + r % 4)
  have hK2 : Kp w (((w1.setCell ⟨w.heap.size, 0, none⟩ (.int .i64 (32 + p % 33))).setCell ⟨w.heap.size, 1, none⟩ (.int .i64 (3 + s % 4))).setCell ⟨w.heap.size, 2, none⟩ (.int .i64 (4 + r % 4))) :=
    ((((Kp.one w _).trans hk1).set (Nat.le_refl _) _).set (Nat.le_refl _) _).set (Nat.le_refl _) _
  generalize (((w1.setCell ⟨w.heap.size, 0, none⟩ (.int .i64 (32 + p % 33))).setCell ⟨w.heap.size, 1, none⟩ (.int .i64 (3 + s % 4))).setCell ⟨w.heap.size, 2, none⟩ (.int .i64 (4 + r % 4))) = w2 at hB2 hK2 ⊢
  generalize 32 + p % 33 = P at *
  generalize 3 + s % 4 = S at *
  generalize 4 + r % 4 = R at *
  clear c0 c1 c2 f0 f1 f2 hB1 hk1 hB
  obtain ⟨c0, c1, c2⟩ := hB2.cells
  obtain ⟨h1, h2, h3, h4, h5, h6⟩ := id hR
  obtain ⟨m1, m2, m3, m4, m5⟩ := mul_sr hR
  by_cases h : 0 ≤ n ∧ n < R * S
  · obtain ⟨ha, hb⟩ := h
    obtain ⟨d1, d2, d3, d4, d5⟩ := div_mod_bd h3 h4 ha (by omega) h6
    have hw := where_yes P S R n hR ha hb w2
    have hp := fun W => page_yes P S R (n / S) (n % S) hR d1 d2 d3 d4 W
    rw [d5] at hp
    have d7 : n % S ≤ S - 1 := by omega
    generalize n / S = A at *
    generalize n % S = B at *
    clear m5 d5
    refine hw.mono ?_
    rintro e w3 ⟨rfl, hk3⟩
    have hG3 := hB2.cells.keep hk3
    obtain ⟨c0, c1, c2⟩ := hG3
    go_wp2_with fail
    refine (hp _).mono ?_
    rintro e w4 ⟨rfl, hk4⟩
    have hG4 := (hB2.cells.keep hk3).keep hk4
    go_wp2_with fail
    refine (alive_any _).mono ?_
    rintro e w5 ⟨rfl, hk5⟩
    obtain ⟨e0, e1, e2⟩ := hG4.keep hk5
    go_wp2_with fail
    refine (slots_yes P S R hR _).mono ?_
    rintro e w6 ⟨rfl, rfl⟩
    go_wp2_with fail
    go_ret
    refine ⟨by first | rfl | exact ret_bool (by simp <;> omega), ?_⟩
    exact ((((hK2.trans hk3).trans hk4).trans hk5).alloc _).alloc _
  · have hw := where_no P S R n (.inr (by omega)) w2
    clear h m5
    refine hw.mono ?_
    rintro e w3 ⟨rfl, hk3⟩
    have hG3 := hB2.cells.keep hk3
    obtain ⟨c0, c1, c2⟩ := hG3
    go_wp2_with fail
    refine (page_yes P S R 0 0 hR (by omega) (by omega) (by omega) (by omega) _).mono ?_
    rintro e w4 ⟨rfl, hk4⟩
    go_wp2_with fail
    refine (alive_any _).mono ?_
    rintro e w5 ⟨rfl, hk5⟩
    go_wp2_with fail
    go_ret
    refine ⟨rfl, ?_⟩
    exact ((hK2.trans hk3).trans hk4).trans hk5

set_option maxHeartbeats 800000 in
theorem GeomBounds_walk (w : World) (p s r : Int) (wp : (Lit.int .i64 p).wf = true) (ws : (Lit.int .i64 s).wf = true) (wr : (Lit.int .i64 r).wf = true) :
    Calls Try.prog 5 #[geo p s r] w fun e w' => e = .returned (.bool true) ∧ Kp w w' := by
  have hB := Gbx.new w p s r
  go_enter Try.func5, Try.ntmps5
  go_wp2_with fail
  refine (bgeom_any p s r (bounds_i64 wp) (bounds_i64 ws) (bounds_i64 wr) _).mono ?_
  rintro e w1 ⟨rfl, hk1⟩
  have hR := RightG.small p s r
  have hB1 := hB.keep hk1
  obtain ⟨c0, c1, c2⟩ := hB1.cells
  obtain ⟨f0, f1, f2⟩ := hB1.free
  go_wp2_with fail
  have hB2 := hB1.put (p' := 32 + p % 33) (s' := 3 + s % 4) (r' := 4 + r % 4)
  have hK2 : Kp w (((w1.setCell ⟨w.heap.size, 0, none⟩ (.int .i64 (32 + p % 33))).setCell ⟨w.heap.size, 1, none⟩ (.int .i64 (3 + s % 4))).setCell ⟨w.heap.size, 2, none⟩ (.int .i64 (4 + r % 4))) :=
    ((((Kp.one w _).trans hk1).set (Nat.le_refl _) _).set (Nat.le_refl _) _).set (Nat.le_refl _) _
  generalize (((w1.setCell ⟨w.heap.size, 0, none⟩ (.int .i64 (32 + p % 33))).setCell ⟨w.heap.size, 1, none⟩ (.int .i64 (3 + s % 4))).setCell ⟨w.heap.size, 2, none⟩ (.int .i64 (4 + r % 4))) = w2 at hB2 hK2 ⊢
  generalize 32 + p % 33 = P at *
  generalize 3 + s % 4 = S at *
  generalize 4 + r % 4 = R at *
  clear c0 c1 c2 f0 f1 f2 hB1 hk1 hB
  obtain ⟨c0, c1, c2⟩ := hB2.cells
  obtain ⟨h1, h2, h3, h4, h5, h6⟩ := id hR
  have hG2 := hB2.cells
  have hM := fun W => most_yes P S R hR W
  have hH := fun W => held_yes P S R hR W
  have hY := fun W => bytes_yes P S R hR W
  obtain ⟨q1, q2, q3, q4, q5, q6, q7⟩ := bounds_law hR
  generalize (R - 3) * (S - 1) = M at *
  generalize (R - 2) * (S - 1) = H at *
  generalize P * S * R = Y at *
  have x1 : decide (S - 1 ≤ M) = true := by simp; omega
  have x2 : (H == M + (S - 1)) = true := by simp; omega
  have x3 : (Y == P * (H + 2 * (S - 1) + R)) = true := by simp [q3]
  have y1 : IntKind.i64.wrap (M + (S - 1)) = M + (S - 1) := IntWalk.i64_in _ (by omega)
  have y2 : IntKind.i64.wrap (2 * (S - 1)) = 2 * (S - 1) := IntWalk.i64_in _ (by omega)
  have y3 : IntKind.i64.wrap (H + 2 * (S - 1)) = H + 2 * (S - 1) := IntWalk.i64_in _ (by omega)
  have y4 : IntKind.i64.wrap (H + 2 * (S - 1) + R) = H + 2 * (S - 1) + R := IntWalk.i64_in _ (by omega)
  have y5 : IntKind.i64.wrap (P * (H + 2 * (S - 1) + R)) = P * (H + 2 * (S - 1) + R) := IntWalk.i64_in _ (by rw [← q3]; omega)
  clear q1 q2 q3 q4 q5 q6 q7
  go_region_held3 (fun (W : World) => W.cell? ⟨w.heap.size, 0, none⟩ = some (.int .i64 P) ∧ W.cell? ⟨w.heap.size, 1, none⟩ = some (.int .i64 S) ∧ W.cell? ⟨w.heap.size, 2, none⟩ = some (.int .i64 R))
    ((refine Gat.keep hG2 ?_; (repeat (first | exact Kp.refl _ | assumption | refine Kp.alloc ?_ _ | refine Kp.drew ?_ | refine Kp.drewN ?_ _ | refine Kp.trans ?_ (by assumption)))))
    (first
      | (go_at_call 10; refine (alive_any _).mono ?_; rintro e w3 ⟨rfl, hk3⟩)
      | (go_at_call 17; refine (hM _).mono ?_; rintro e w3 ⟨rfl, hk3⟩)
      | (go_at_call 18; refine (hH _).mono ?_; rintro e w3 ⟨rfl, hk3⟩)
      | (go_at_call 16; refine (slots_yes P S R hR _).mono ?_; rintro e w3 ⟨rfl, rfl⟩)
      | (go_at_call 15; refine (hY _).mono ?_; rintro e w3 ⟨rfl, rfl⟩))
  go_wp2
  go_ret
  refine ⟨rfl, Kp.trans hK2 ?_⟩
  (repeat (first | exact Kp.refl _ | assumption | refine Kp.alloc ?_ _ | refine Kp.drew ?_ | refine Kp.drewN ?_ _ | refine Kp.trans ?_ (by assumption)))
end Go.Proofs.Ytekadonopenljaa
