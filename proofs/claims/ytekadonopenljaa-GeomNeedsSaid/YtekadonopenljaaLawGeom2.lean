/- The walks of the statements of chapter 6, continued. -/
import Derived.Test.YtekadonopenljaaLawGeom
namespace Go.Proofs.Ytekadonopenljaa
open Go.RowKit
set_option linter.unusedVariables false

theorem ceil_bd (N ρ : Int) (h : 1 ≤ ρ) (hN : 0 ≤ N) : N ≤ (N + ρ - 1) / ρ * ρ ∧ (N + ρ - 1) / ρ * ρ ≤ N + ρ - 1 := by
  have h1 := Int.ediv_mul_le (N + ρ - 1) (show ρ ≠ 0 by omega)
  have h2 := Int.lt_ediv_add_one_mul_self (N + ρ - 1) (show 0 < ρ by omega)
  rw [Int.add_mul, Int.one_mul] at h2
  omega
theorem needs_law {P N M : Int} (h1 : 32 ≤ P) (h2 : P ≤ 128) (hN : 0 ≤ N) (hN2 : N < 1048576) (hM : 0 ≤ M) (hM2 : M < 1048576) :
    2 ≤ needZ P N ∧ needZ P N ≤ needZ P (N + M) ∧ needZ P N ≤ 1048701 ∧ N ≤ (needZ P N - 1) * (P - 15) ∧ (needZ P N - 1) * (P - 15) ≤ 2000000 ∧ (N = 0 ∨ (needZ P N - 2) * (P - 15) < N) ∧ -200 ≤ (needZ P N - 2) * (P - 15) ∧ (needZ P N - 2) * (P - 15) ≤ 2000000 := by
  have e : ∀ x : Int, 0 < x → x ≤ 1048576 → needZ P x = (x + (P - 15) - 1) / (P - 15) + 1 := fun x a b => by unfold needZ; rw [if_neg (by omega), if_pos b]
  have big : ∀ x : Int, 1048576 < x → needZ P x = (1048576 + (P - 15) - 1) / (P - 15) + 1 := fun x a => by unfold needZ; rw [if_neg (by omega), if_neg (by omega)]
  have le2 : ∀ x : Int, 2 ≤ needZ P x := fun x => by
    rcases Int.lt_or_le 0 x with a | a
    · rcases Int.lt_or_le 1048576 x with b | b
      · rw [big x b]; have := div_pos1 1048576 (P - 15) (by omega) (by omega); omega
      · rw [e x a b]; have := div_pos1 x (P - 15) (by omega) (by omega); omega
    · unfold needZ; rw [if_pos a]; omega
  by_cases h0 : N = 0
  · subst h0
    have z : needZ P 0 = 2 := rfl
    have := le2 (0 + M)
    rw [z]
    refine ⟨by omega, this, by omega, by omega, by omega, .inl rfl, by omega, by omega⟩
  · have eN := e N (by omega) (by omega)
    have hc := ceil_bd N (P - 15) (by omega) hN
    have hd := need_div N (P - 15) (by omega) (by omega) hN (by omega)
    have m1 : (needZ P N - 1) * (P - 15) = (N + (P - 15) - 1) / (P - 15) * (P - 15) := by rw [eN]; congr 1; omega
    have m2 : (needZ P N - 2) * (P - 15) = (N + (P - 15) - 1) / (P - 15) * (P - 15) - (P - 15) := by
      rw [eN, show (N + (P - 15) - 1) / (P - 15) + 1 - 2 = (N + (P - 15) - 1) / (P - 15) - 1 by omega, Int.sub_mul, Int.one_mul]
    have hq := div_pos1 N (P - 15) (by omega) (by omega)
    have m3 : 0 ≤ ((N + (P - 15) - 1) / (P - 15) - 1) * (P - 15) := Int.mul_nonneg (by omega) (by omega)
    rw [Int.sub_mul, Int.one_mul] at m3
    refine ⟨le2 N, ?_, by omega, by omega, by omega, .inr (by omega), by omega, by omega⟩
    rcases Int.lt_or_le 1048576 (N + M) with b | b
    · rw [eN, big _ b]
      have := Int.ediv_le_ediv (show 0 < P - 15 by omega) (show N + (P - 15) - 1 ≤ 1048576 + (P - 15) - 1 by omega)
      omega
    · rw [eN, e _ (by omega) b]
      have := Int.ediv_le_ediv (show 0 < P - 15 by omega) (show N + (P - 15) - 1 ≤ N + M + (P - 15) - 1 by omega)
      omega
theorem need_neg (P x : Int) (h : x ≤ 0) : needZ P x = 2 := by unfold needZ; rw [if_pos h]

set_option maxHeartbeats 1600000 in
theorem GeomNeeds_walk (w : World) (p s r : Int) (wp : (Lit.int .i64 p).wf = true) (ws : (Lit.int .i64 s).wf = true) (wr : (Lit.int .i64 r).wf = true) (n : Int) (wn : (Lit.int .i64 n).wf = true) (m : Int) (wm : (Lit.int .i64 m).wf = true) :
    Calls Try.prog 3 #[geo p s r, .int .i64 n, .int .i64 m] w fun e w' => e = .returned (.bool true) ∧ Kp w w' := by
  have hB := Gbx.new w p s r
  go_enter Try.func3, Try.ntmps3
  go_wp2_with fail
  refine (bgeom_any p s r (bounds_i64 wp) (bounds_i64 ws) (bounds_i64 wr) _).mono ?_
  rintro e w1 ⟨rfl, hk1⟩
  have hR := RightG.small p s r
  have hB1 := hB.keep hk1
  obtain ⟨c0, c1, c2⟩ := hB1.cells
  obtain ⟨f0, f1, f2⟩ := hB1.free
  go_wp2_with fail
  have hB2 := hB1.put (p' := 32 + p % 33) (s' := 3 + s % 4) (r' := 4 + r % 4)
  have hK2 : Kp w (((w1.setCell ⟨w.heap.size, 0, none⟩ (.int .i64 (32 + p % 33))).setCell ⟨w.heap.size, 1, none⟩ (.int .i64 (3 + s % 4))).setCell ⟨w.heap.size, 2, none⟩ (.int .i64 (4 + r % 4))) :=
    ((((Kp.one w _).trans hk1).set (Nat.le_refl _) _).set (Nat.le_refl _) _).set (Nat.le_refl _) _
  generalize (((w1.setCell ⟨w.heap.size, 0, none⟩ (.int .i64 (32 + p % 33))).setCell ⟨w.heap.size, 1, none⟩ (.int .i64 (3 + s % 4))).setCell ⟨w.heap.size, 2, none⟩ (.int .i64 (4 + r % 4))) = w2 at hB2 hK2 ⊢
  generalize 32 + p % 33 = P at *
  generalize 3 + s % 4 = S at *
  generalize 4 + r % 4 = R at *
  clear c0 c1 c2 f0 f1 f2 hB1 hk1 hB
  obtain ⟨c0, c1, c2⟩ := hB2.cells
  obtain ⟨h1, h2, h3, h4, h5, h6⟩ := id hR
  have bn := bounds_i64 wn
  have bm := bounds_i64 wm
  refine (pick_any n 1048576 (by omega) (by omega) bn.1 bn.2 _).mono ?_
  rintro e w3 ⟨rfl, rfl⟩
  go_wp2_with fail
  refine (pick_any m 1048576 (by omega) (by omega) bm.1 bm.2 _).mono ?_
  rintro e w3 ⟨rfl, rfl⟩
  have N1 : 0 ≤ n % 1048576 := by omega
  have N2 : n % 1048576 < 1048576 := by omega
  have M1 : 0 ≤ m % 1048576 := by omega
  have M2 : m % 1048576 < 1048576 := by omega
  generalize n % 1048576 = N at *
  generalize m % 1048576 = M at *
  clear bn bm wn wm wp ws wr
  go_wp2_with fail
  refine (alive_any _).mono ?_
  rintro e w3 ⟨rfl, hk3⟩
  have hG3 := hB2.cells.keep hk3
  obtain ⟨q1, q2, q3, q4, q5, q6, q7, q8⟩ := needs_law h1 h2 N1 N2 M1 M2
  have hD := fun W => need_yes P S R hR (-1 - N) W
  rw [need_neg P (-1 - N) (by omega)] at hD
  have y1 : IntKind.i64.wrap (N + M) = N + M := IntWalk.i64_in _ (by omega)
  have HQ := Lib.hid (And.intro q1 (And.intro q2 (And.intro q3 (And.intro q4 (And.intro q5 (And.intro q6 (And.intro q7 q8)))))))
  clear q1 q2 q3 q4 q5 q6 q7 q8
  go_wp2_with fail
  go_region_held3 (fun (W : World) => W.cell? ⟨w.heap.size, 0, none⟩ = some (.int .i64 P) ∧ W.cell? ⟨w.heap.size, 1, none⟩ = some (.int .i64 S) ∧ W.cell? ⟨w.heap.size, 2, none⟩ = some (.int .i64 R))
    ((refine Gat.keep hG3 ?_; (repeat (first | exact Kp.refl _ | assumption | refine Kp.alloc ?_ _ | refine Kp.drew ?_ | refine Kp.drewN ?_ _ | refine Kp.trans ?_ (by assumption)))))
    (first
      | (go_at_call 11; refine (need_yes P S R hR _ _).mono ?_; rintro e w4 ⟨rfl, hk4⟩))
  obtain ⟨q1, q2, q3, q4, q5, q6, q7, q8⟩ := HQ.out
  generalize needZ P N = A at *
  generalize needZ P (N + M) = C at *
  have hK4 : Kp w3 w4 := by (repeat (first | exact Kp.refl _ | assumption | refine Kp.alloc ?_ _ | refine Kp.drew ?_ | refine Kp.drewN ?_ _ | refine Kp.trans ?_ (by assumption)))
  have hG4 := hG3.keep hK4
  have y2 : -200 ≤ (A - 2) * (P - 15) := by omega
  have x1 : decide (2 ≤ A) = true := by simp; omega
  have x2 : decide (A ≤ C) = true := by simp; omega
  have x3 : decide (N ≤ (A - 1) * (P - 15)) = true := by simp; omega
  have hK4' : Kp w w4 := (hK2.trans hk3).trans hK4
  clear hk4 hK4 hk3 hK2 q7 q2 c0 c1 c2 hB2 hG3
  go_wp2_with fail
  refine (room_yes P S R hR _).mono ?_
  rintro e w5 ⟨rfl, rfl⟩
  have hG5 := hG4.keep ((Kp.one w4 (gob P S R)).alloc (gob P S R))
  obtain ⟨d0, d1, d2⟩ := hG5
  have hK5 := (hK4'.alloc (gob P S R)).alloc (gob P S R)
  generalize (w4.alloc (gob P S R)).alloc (gob P S R) = w5 at *
  by_cases q0 : N = 0
  · have x4 : (N == 0) = true := by simp [q0]
    clear q0 q6
    go_wp2_with fail
    refine (hD _).mono ?_
    rintro e w6 ⟨rfl, hk6⟩
    go_wp2_with fail
    go_ret
    exact ⟨rfl, hK5.trans hk6⟩
  · have x4 : (N == 0) = false := by simp [q0]
    have x5 : decide ((A - 2) * (P - 15) < N) = true := by simp; omega
    clear q0 q6
    go_wp2_with fail
    refine (hD _).mono ?_
    rintro e w6 ⟨rfl, hk6⟩
    go_wp2_with fail
    go_ret
    exact ⟨rfl, hK5.trans hk6⟩

set_option maxHeartbeats 1600000 in
theorem GeomTells_right (w w2 : World) (b : Nat) (P S R : Int) (h : RightG P S R) : True := trivial
end Go.Proofs.Ytekadonopenljaa
