/- The walk of the statement GeomPages of chapter 6. -/
import Derived.Test.YtekadonopenljaaLawGeom
namespace Go.Proofs.Ytekadonopenljaa
open Go.RowKit
set_option linter.unusedVariables false

set_option maxHeartbeats 8000000 in
theorem pages_right (w : World) (p s r : Int) (wp : (Lit.int .i64 p).wf = true) (ws : (Lit.int .i64 s).wf = true) (wr : (Lit.int .i64 r).wf = true) (a b n : Int) (hR : RightG p s r) :
    Calls Try.prog 6 #[geo p s r, .int .i64 a, .int .i64 b, .int .i64 n, .bool false] w fun e w' => e = .returned (.bool true) ∧ Kp w w' := by
  have hB2 := Gbx.new w p s r
  have hK2 := Kp.one w (gob p s r)
  go_enter Try.func6, Try.ntmps6
  go_wp2_with fail
  generalize hw2 : w.alloc (gob p s r) = w2 at hB2 hK2 ⊢
  clear hw2
  generalize p = P at *
  generalize s = S at *
  generalize r = R at *
  obtain ⟨c0, c1, c2⟩ := hB2.cells
  obtain ⟨h1, h2, h3, h4, h5, h6⟩ := id hR
  obtain ⟨m1, m2, m3, m4, m5⟩ := mul_sr hR
  have hpage : (0 ≤ a ∧ a < R ∧ 0 ≤ b ∧ b < S) ∨ a < 0 ∨ (0 ≤ a ∧ R ≤ a) ∨ (0 ≤ a ∧ a < R ∧ b < 0) ∨ (0 ≤ a ∧ a < R ∧ 0 ≤ b ∧ S ≤ b) := by omega
  have hwhere : (0 ≤ n ∧ n < S * R) ∨ n < 0 ∨ (0 ≤ n ∧ S * R ≤ n) := by omega
  rcases hpage with ⟨p1, p2, p3, p4⟩ | p1 | ⟨p1, p2⟩ | ⟨p1, p2, p3⟩ | ⟨p1, p2, p3, p4⟩
  · rcases hwhere with ⟨q1, q2⟩ | q1 | ⟨q1, q2⟩
    · have hP := fun W => page_yes P S R a b hR p1 p2 p3 p4 W
      have hW := fun W => where_yes P S R n hR q1 (by omega) W
      obtain ⟨l1, l2, l3⟩ := page_lt hR p1 p2 p3 p4
      clear l3
      have z1 : ¬ (S = 0) := by omega
      clear m5
      have hG2 := hB2.cells
      refine (alive_any _).mono ?_
      rintro e w3 ⟨rfl, hk3⟩
      have hK3 := hK2.trans hk3
      have hG3 := hG2.keep hk3
      clear c0 c1 c2 hk3 hK2
      obtain ⟨c0, c1, c2⟩ := id hG3
      go_wp2_with fail
      refine (hP _).mono ?_
      rintro e w4 ⟨rfl, hk4⟩
      have hK4 := hK3.trans hk4
      have hG4 := hG3.keep hk4
      clear c0 c1 c2 hk4 hK3
      obtain ⟨c0, c1, c2⟩ := id hG4
      go_wp2_with fail
      refine (hW _).mono ?_
      rintro e w5 ⟨rfl, hk5⟩
      have hK5 := hK4.trans hk5
      have hG5 := hG4.keep hk5
      clear c0 c1 c2 hk5 hK4
      obtain ⟨c0, c1, c2⟩ := id hG5
      go_wp2_with fail
      refine (rright_yes P S R hR _).mono ?_
      rintro e w6 ⟨rfl, rfl⟩
      have hK6 := hK5.alloc (gob P S R)
      have hG6 := hG5.keep (Kp.one w5 (gob P S R))
      clear c0 c1 c2 hK5
      generalize w5.alloc (gob P S R) = w6 at *
      obtain ⟨c0, c1, c2⟩ := id hG6
      go_wp2_with fail
      go_ret
      exact ⟨rfl, hK6⟩
    · have hP := fun W => page_yes P S R a b hR p1 p2 p3 p4 W
      have hW := fun W => where_no P S R n (.inr (by omega)) W
      obtain ⟨l1, l2, l3⟩ := page_lt hR p1 p2 p3 p4
      clear l3
      clear m5
      have hG2 := hB2.cells
      refine (alive_any _).mono ?_
      rintro e w3 ⟨rfl, hk3⟩
      have hK3 := hK2.trans hk3
      have hG3 := hG2.keep hk3
      clear c0 c1 c2 hk3 hK2
      obtain ⟨c0, c1, c2⟩ := id hG3
      go_wp2_with fail
      refine (hP _).mono ?_
      rintro e w4 ⟨rfl, hk4⟩
      have hK4 := hK3.trans hk4
      have hG4 := hG3.keep hk4
      clear c0 c1 c2 hk4 hK3
      obtain ⟨c0, c1, c2⟩ := id hG4
      go_wp2_with fail
      refine (hW _).mono ?_
      rintro e w5 ⟨rfl, hk5⟩
      have hK5 := hK4.trans hk5
      have hG5 := hG4.keep hk5
      clear c0 c1 c2 hk5 hK4
      obtain ⟨c0, c1, c2⟩ := id hG5
      go_wp2_with fail
      refine (rright_yes P S R hR _).mono ?_
      rintro e w6 ⟨rfl, rfl⟩
      have hK6 := hK5.alloc (gob P S R)
      have hG6 := hG5.keep (Kp.one w5 (gob P S R))
      clear c0 c1 c2 hK5
      generalize w5.alloc (gob P S R) = w6 at *
      obtain ⟨c0, c1, c2⟩ := id hG6
      go_wp2_with fail
      go_ret
      exact ⟨rfl, hK6⟩
    · have hP := fun W => page_yes P S R a b hR p1 p2 p3 p4 W
      have hW := fun W => where_no P S R n (.inr (by omega)) W
      obtain ⟨l1, l2, l3⟩ := page_lt hR p1 p2 p3 p4
      clear l3
      clear m5
      have hG2 := hB2.cells
      refine (alive_any _).mono ?_
      rintro e w3 ⟨rfl, hk3⟩
      have hK3 := hK2.trans hk3
      have hG3 := hG2.keep hk3
      clear c0 c1 c2 hk3 hK2
      obtain ⟨c0, c1, c2⟩ := id hG3
      go_wp2_with fail
      refine (hP _).mono ?_
      rintro e w4 ⟨rfl, hk4⟩
      have hK4 := hK3.trans hk4
      have hG4 := hG3.keep hk4
      clear c0 c1 c2 hk4 hK3
      obtain ⟨c0, c1, c2⟩ := id hG4
      go_wp2_with fail
      refine (hW _).mono ?_
      rintro e w5 ⟨rfl, hk5⟩
      have hK5 := hK4.trans hk5
      have hG5 := hG4.keep hk5
      clear c0 c1 c2 hk5 hK4
      obtain ⟨c0, c1, c2⟩ := id hG5
      go_wp2_with fail
      refine (rright_yes P S R hR _).mono ?_
      rintro e w6 ⟨rfl, rfl⟩
      have hK6 := hK5.alloc (gob P S R)
      have hG6 := hG5.keep (Kp.one w5 (gob P S R))
      clear c0 c1 c2 hK5
      generalize w5.alloc (gob P S R) = w6 at *
      obtain ⟨c0, c1, c2⟩ := id hG6
      go_wp2_with fail
      go_ret
      exact ⟨rfl, hK6⟩
  · rcases hwhere with ⟨q1, q2⟩ | q1 | ⟨q1, q2⟩
    · have hP := fun W => page_no P S R a b (.inr (by omega)) W
      have hW := fun W => where_yes P S R n hR q1 (by omega) W
      have z1 : ¬ (S = 0) := by omega
      clear m5
      have hG2 := hB2.cells
      refine (alive_any _).mono ?_
      rintro e w3 ⟨rfl, hk3⟩
      have hK3 := hK2.trans hk3
      have hG3 := hG2.keep hk3
      clear c0 c1 c2 hk3 hK2
      obtain ⟨c0, c1, c2⟩ := id hG3
      go_wp2_with fail
      refine (hP _).mono ?_
      rintro e w4 ⟨rfl, hk4⟩
      have hK4 := hK3.trans hk4
      have hG4 := hG3.keep hk4
      clear c0 c1 c2 hk4 hK3
      obtain ⟨c0, c1, c2⟩ := id hG4
      go_wp2_with fail
      refine (hW _).mono ?_
      rintro e w5 ⟨rfl, hk5⟩
      have hK5 := hK4.trans hk5
      have hG5 := hG4.keep hk5
      clear c0 c1 c2 hk5 hK4
      obtain ⟨c0, c1, c2⟩ := id hG5
      go_wp2_with fail
      refine (rright_yes P S R hR _).mono ?_
      rintro e w6 ⟨rfl, rfl⟩
      have hK6 := hK5.alloc (gob P S R)
      have hG6 := hG5.keep (Kp.one w5 (gob P S R))
      clear c0 c1 c2 hK5
      generalize w5.alloc (gob P S R) = w6 at *
      obtain ⟨c0, c1, c2⟩ := id hG6
      go_wp2_with fail
      go_ret
      exact ⟨rfl, hK6⟩
    · have hP := fun W => page_no P S R a b (.inr (by omega)) W
      have hW := fun W => where_no P S R n (.inr (by omega)) W
      clear m5
      have hG2 := hB2.cells
      refine (alive_any _).mono ?_
      rintro e w3 ⟨rfl, hk3⟩
      have hK3 := hK2.trans hk3
      have hG3 := hG2.keep hk3
      clear c0 c1 c2 hk3 hK2
      obtain ⟨c0, c1, c2⟩ := id hG3
      go_wp2_with fail
      refine (hP _).mono ?_
      rintro e w4 ⟨rfl, hk4⟩
      have hK4 := hK3.trans hk4
      have hG4 := hG3.keep hk4
      clear c0 c1 c2 hk4 hK3
      obtain ⟨c0, c1, c2⟩ := id hG4
      go_wp2_with fail
      refine (hW _).mono ?_
      rintro e w5 ⟨rfl, hk5⟩
      have hK5 := hK4.trans hk5
      have hG5 := hG4.keep hk5
      clear c0 c1 c2 hk5 hK4
      obtain ⟨c0, c1, c2⟩ := id hG5
      go_wp2_with fail
      refine (rright_yes P S R hR _).mono ?_
      rintro e w6 ⟨rfl, rfl⟩
      have hK6 := hK5.alloc (gob P S R)
      have hG6 := hG5.keep (Kp.one w5 (gob P S R))
      clear c0 c1 c2 hK5
      generalize w5.alloc (gob P S R) = w6 at *
      obtain ⟨c0, c1, c2⟩ := id hG6
      go_wp2_with fail
      go_ret
      exact ⟨rfl, hK6⟩
    · have hP := fun W => page_no P S R a b (.inr (by omega)) W
      have hW := fun W => where_no P S R n (.inr (by omega)) W
      clear m5
      have hG2 := hB2.cells
      refine (alive_any _).mono ?_
      rintro e w3 ⟨rfl, hk3⟩
      have hK3 := hK2.trans hk3
      have hG3 := hG2.keep hk3
      clear c0 c1 c2 hk3 hK2
      obtain ⟨c0, c1, c2⟩ := id hG3
      go_wp2_with fail
      refine (hP _).mono ?_
      rintro e w4 ⟨rfl, hk4⟩
      have hK4 := hK3.trans hk4
      have hG4 := hG3.keep hk4
      clear c0 c1 c2 hk4 hK3
      obtain ⟨c0, c1, c2⟩ := id hG4
      go_wp2_with fail
      refine (hW _).mono ?_
      rintro e w5 ⟨rfl, hk5⟩
      have hK5 := hK4.trans hk5
      have hG5 := hG4.keep hk5
      clear c0 c1 c2 hk5 hK4
      obtain ⟨c0, c1, c2⟩ := id hG5
      go_wp2_with fail
      refine (rright_yes P S R hR _).mono ?_
      rintro e w6 ⟨rfl, rfl⟩
      have hK6 := hK5.alloc (gob P S R)
      have hG6 := hG5.keep (Kp.one w5 (gob P S R))
      clear c0 c1 c2 hK5
      generalize w5.alloc (gob P S R) = w6 at *
      obtain ⟨c0, c1, c2⟩ := id hG6
      go_wp2_with fail
      go_ret
      exact ⟨rfl, hK6⟩
  · rcases hwhere with ⟨q1, q2⟩ | q1 | ⟨q1, q2⟩
    · have hP := fun W => page_no P S R a b (.inr (by omega)) W
      have hW := fun W => where_yes P S R n hR q1 (by omega) W
      have z1 : ¬ (S = 0) := by omega
      clear m5
      have hG2 := hB2.cells
      refine (alive_any _).mono ?_
      rintro e w3 ⟨rfl, hk3⟩
      have hK3 := hK2.trans hk3
      have hG3 := hG2.keep hk3
      clear c0 c1 c2 hk3 hK2
      obtain ⟨c0, c1, c2⟩ := id hG3
      go_wp2_with fail
      refine (hP _).mono ?_
      rintro e w4 ⟨rfl, hk4⟩
      have hK4 := hK3.trans hk4
      have hG4 := hG3.keep hk4
      clear c0 c1 c2 hk4 hK3
      obtain ⟨c0, c1, c2⟩ := id hG4
      go_wp2_with fail
      refine (hW _).mono ?_
      rintro e w5 ⟨rfl, hk5⟩
      have hK5 := hK4.trans hk5
      have hG5 := hG4.keep hk5
      clear c0 c1 c2 hk5 hK4
      obtain ⟨c0, c1, c2⟩ := id hG5
      go_wp2_with fail
      refine (rright_yes P S R hR _).mono ?_
      rintro e w6 ⟨rfl, rfl⟩
      have hK6 := hK5.alloc (gob P S R)
      have hG6 := hG5.keep (Kp.one w5 (gob P S R))
      clear c0 c1 c2 hK5
      generalize w5.alloc (gob P S R) = w6 at *
      obtain ⟨c0, c1, c2⟩ := id hG6
      go_wp2_with fail
      go_ret
      exact ⟨rfl, hK6⟩
    · have hP := fun W => page_no P S R a b (.inr (by omega)) W
      have hW := fun W => where_no P S R n (.inr (by omega)) W
      clear m5
      have hG2 := hB2.cells
      refine (alive_any _).mono ?_
      rintro e w3 ⟨rfl, hk3⟩
      have hK3 := hK2.trans hk3
      have hG3 := hG2.keep hk3
      clear c0 c1 c2 hk3 hK2
      obtain ⟨c0, c1, c2⟩ := id hG3
      go_wp2_with fail
      refine (hP _).mono ?_
      rintro e w4 ⟨rfl, hk4⟩
      have hK4 := hK3.trans hk4
      have hG4 := hG3.keep hk4
      clear c0 c1 c2 hk4 hK3
      obtain ⟨c0, c1, c2⟩ := id hG4
      go_wp2_with fail
      refine (hW _).mono ?_
      rintro e w5 ⟨rfl, hk5⟩
      have hK5 := hK4.trans hk5
      have hG5 := hG4.keep hk5
      clear c0 c1 c2 hk5 hK4
      obtain ⟨c0, c1, c2⟩ := id hG5
      go_wp2_with fail
      refine (rright_yes P S R hR _).mono ?_
      rintro e w6 ⟨rfl, rfl⟩
      have hK6 := hK5.alloc (gob P S R)
      have hG6 := hG5.keep (Kp.one w5 (gob P S R))
      clear c0 c1 c2 hK5
      generalize w5.alloc (gob P S R) = w6 at *
      obtain ⟨c0, c1, c2⟩ := id hG6
      go_wp2_with fail
      go_ret
      exact ⟨rfl, hK6⟩
    · have hP := fun W => page_no P S R a b (.inr (by omega)) W
      have hW := fun W => where_no P S R n (.inr (by omega)) W
      clear m5
      have hG2 := hB2.cells
      refine (alive_any _).mono ?_
      rintro e w3 ⟨rfl, hk3⟩
      have hK3 := hK2.trans hk3
      have hG3 := hG2.keep hk3
      clear c0 c1 c2 hk3 hK2
      obtain ⟨c0, c1, c2⟩ := id hG3
      go_wp2_with fail
      refine (hP _).mono ?_
      rintro e w4 ⟨rfl, hk4⟩
      have hK4 := hK3.trans hk4
      have hG4 := hG3.keep hk4
      clear c0 c1 c2 hk4 hK3
      obtain ⟨c0, c1, c2⟩ := id hG4
      go_wp2_with fail
      refine (hW _).mono ?_
      rintro e w5 ⟨rfl, hk5⟩
      have hK5 := hK4.trans hk5
      have hG5 := hG4.keep hk5
      clear c0 c1 c2 hk5 hK4
      obtain ⟨c0, c1, c2⟩ := id hG5
      go_wp2_with fail
      refine (rright_yes P S R hR _).mono ?_
      rintro e w6 ⟨rfl, rfl⟩
      have hK6 := hK5.alloc (gob P S R)
      have hG6 := hG5.keep (Kp.one w5 (gob P S R))
      clear c0 c1 c2 hK5
      generalize w5.alloc (gob P S R) = w6 at *
      obtain ⟨c0, c1, c2⟩ := id hG6
      go_wp2_with fail
      go_ret
      exact ⟨rfl, hK6⟩
  · rcases hwhere with ⟨q1, q2⟩ | q1 | ⟨q1, q2⟩
    · have hP := fun W => page_no P S R a b (.inr (by omega)) W
      have hW := fun W => where_yes P S R n hR q1 (by omega) W
      have z1 : ¬ (S = 0) := by omega
      clear m5
      have hG2 := hB2.cells
      refine (alive_any _).mono ?_
      rintro e w3 ⟨rfl, hk3⟩
      have hK3 := hK2.trans hk3
      have hG3 := hG2.keep hk3
      clear c0 c1 c2 hk3 hK2
      obtain ⟨c0, c1, c2⟩ := id hG3
      go_wp2_with fail
      refine (hP _).mono ?_
      rintro e w4 ⟨rfl, hk4⟩
      have hK4 := hK3.trans hk4
      have hG4 := hG3.keep hk4
      clear c0 c1 c2 hk4 hK3
      obtain ⟨c0, c1, c2⟩ := id hG4
      go_wp2_with fail
      refine (hW _).mono ?_
      rintro e w5 ⟨rfl, hk5⟩
      have hK5 := hK4.trans hk5
      have hG5 := hG4.keep hk5
      clear c0 c1 c2 hk5 hK4
      obtain ⟨c0, c1, c2⟩ := id hG5
      go_wp2_with fail
      refine (rright_yes P S R hR _).mono ?_
      rintro e w6 ⟨rfl, rfl⟩
      have hK6 := hK5.alloc (gob P S R)
      have hG6 := hG5.keep (Kp.one w5 (gob P S R))
      clear c0 c1 c2 hK5
      generalize w5.alloc (gob P S R) = w6 at *
      obtain ⟨c0, c1, c2⟩ := id hG6
      go_wp2_with fail
      go_ret
      exact ⟨rfl, hK6⟩
    · have hP := fun W => page_no P S R a b (.inr (by omega)) W
      have hW := fun W => where_no P S R n (.inr (by omega)) W
      clear m5
      have hG2 := hB2.cells
      refine (alive_any _).mono ?_
      rintro e w3 ⟨rfl, hk3⟩
      have hK3 := hK2.trans hk3
      have hG3 := hG2.keep hk3
      clear c0 c1 c2 hk3 hK2
      obtain ⟨c0, c1, c2⟩ := id hG3
      go_wp2_with fail
      refine (hP _).mono ?_
      rintro e w4 ⟨rfl, hk4⟩
      have hK4 := hK3.trans hk4
      have hG4 := hG3.keep hk4
      clear c0 c1 c2 hk4 hK3
      obtain ⟨c0, c1, c2⟩ := id hG4
      go_wp2_with fail
      refine (hW _).mono ?_
      rintro e w5 ⟨rfl, hk5⟩
      have hK5 := hK4.trans hk5
      have hG5 := hG4.keep hk5
      clear c0 c1 c2 hk5 hK4
      obtain ⟨c0, c1, c2⟩ := id hG5
      go_wp2_with fail
      refine (rright_yes P S R hR _).mono ?_
      rintro e w6 ⟨rfl, rfl⟩
      have hK6 := hK5.alloc (gob P S R)
      have hG6 := hG5.keep (Kp.one w5 (gob P S R))
      clear c0 c1 c2 hK5
      generalize w5.alloc (gob P S R) = w6 at *
      obtain ⟨c0, c1, c2⟩ := id hG6
      go_wp2_with fail
      go_ret
      exact ⟨rfl, hK6⟩
    · have hP := fun W => page_no P S R a b (.inr (by omega)) W
      have hW := fun W => where_no P S R n (.inr (by omega)) W
      clear m5
      have hG2 := hB2.cells
      refine (alive_any _).mono ?_
      rintro e w3 ⟨rfl, hk3⟩
      have hK3 := hK2.trans hk3
      have hG3 := hG2.keep hk3
      clear c0 c1 c2 hk3 hK2
      obtain ⟨c0, c1, c2⟩ := id hG3
      go_wp2_with fail
      refine (hP _).mono ?_
      rintro e w4 ⟨rfl, hk4⟩
      have hK4 := hK3.trans hk4
      have hG4 := hG3.keep hk4
      clear c0 c1 c2 hk4 hK3
      obtain ⟨c0, c1, c2⟩ := id hG4
      go_wp2_with fail
      refine (hW _).mono ?_
      rintro e w5 ⟨rfl, hk5⟩
      have hK5 := hK4.trans hk5
      have hG5 := hG4.keep hk5
      clear c0 c1 c2 hk5 hK4
      obtain ⟨c0, c1, c2⟩ := id hG5
      go_wp2_with fail
      refine (rright_yes P S R hR _).mono ?_
      rintro e w6 ⟨rfl, rfl⟩
      have hK6 := hK5.alloc (gob P S R)
      have hG6 := hG5.keep (Kp.one w5 (gob P S R))
      clear c0 c1 c2 hK5
      generalize w5.alloc (gob P S R) = w6 at *
      obtain ⟨c0, c1, c2⟩ := id hG6
      go_wp2_with fail
      go_ret
      exact ⟨rfl, hK6⟩
  · rcases hwhere with ⟨q1, q2⟩ | q1 | ⟨q1, q2⟩
    · have hP := fun W => page_no P S R a b (.inr (by omega)) W
      have hW := fun W => where_yes P S R n hR q1 (by omega) W
      have z1 : ¬ (S = 0) := by omega
      clear m5
      have hG2 := hB2.cells
      refine (alive_any _).mono ?_
      rintro e w3 ⟨rfl, hk3⟩
      have hK3 := hK2.trans hk3
      have hG3 := hG2.keep hk3
      clear c0 c1 c2 hk3 hK2
      obtain ⟨c0, c1, c2⟩ := id hG3
      go_wp2_with fail
      refine (hP _).mono ?_
      rintro e w4 ⟨rfl, hk4⟩
      have hK4 := hK3.trans hk4
      have hG4 := hG3.keep hk4
      clear c0 c1 c2 hk4 hK3
      obtain ⟨c0, c1, c2⟩ := id hG4
      go_wp2_with fail
      refine (hW _).mono ?_
      rintro e w5 ⟨rfl, hk5⟩
      have hK5 := hK4.trans hk5
      have hG5 := hG4.keep hk5
      clear c0 c1 c2 hk5 hK4
      obtain ⟨c0, c1, c2⟩ := id hG5
      go_wp2_with fail
      refine (rright_yes P S R hR _).mono ?_
      rintro e w6 ⟨rfl, rfl⟩
      have hK6 := hK5.alloc (gob P S R)
      have hG6 := hG5.keep (Kp.one w5 (gob P S R))
      clear c0 c1 c2 hK5
      generalize w5.alloc (gob P S R) = w6 at *
      obtain ⟨c0, c1, c2⟩ := id hG6
      go_wp2_with fail
      go_ret
      exact ⟨rfl, hK6⟩
    · have hP := fun W => page_no P S R a b (.inr (by omega)) W
      have hW := fun W => where_no P S R n (.inr (by omega)) W
      clear m5
      have hG2 := hB2.cells
      refine (alive_any _).mono ?_
      rintro e w3 ⟨rfl, hk3⟩
      have hK3 := hK2.trans hk3
      have hG3 := hG2.keep hk3
      clear c0 c1 c2 hk3 hK2
      obtain ⟨c0, c1, c2⟩ := id hG3
      go_wp2_with fail
      refine (hP _).mono ?_
      rintro e w4 ⟨rfl, hk4⟩
      have hK4 := hK3.trans hk4
      have hG4 := hG3.keep hk4
      clear c0 c1 c2 hk4 hK3
      obtain ⟨c0, c1, c2⟩ := id hG4
      go_wp2_with fail
      refine (hW _).mono ?_
      rintro e w5 ⟨rfl, hk5⟩
      have hK5 := hK4.trans hk5
      have hG5 := hG4.keep hk5
      clear c0 c1 c2 hk5 hK4
      obtain ⟨c0, c1, c2⟩ := id hG5
      go_wp2_with fail
      refine (rright_yes P S R hR _).mono ?_
      rintro e w6 ⟨rfl, rfl⟩
      have hK6 := hK5.alloc (gob P S R)
      have hG6 := hG5.keep (Kp.one w5 (gob P S R))
      clear c0 c1 c2 hK5
      generalize w5.alloc (gob P S R) = w6 at *
      obtain ⟨c0, c1, c2⟩ := id hG6
      go_wp2_with fail
      go_ret
      exact ⟨rfl, hK6⟩
    · have hP := fun W => page_no P S R a b (.inr (by omega)) W
      have hW := fun W => where_no P S R n (.inr (by omega)) W
      clear m5
      have hG2 := hB2.cells
      refine (alive_any _).mono ?_
      rintro e w3 ⟨rfl, hk3⟩
      have hK3 := hK2.trans hk3
      have hG3 := hG2.keep hk3
      clear c0 c1 c2 hk3 hK2
      obtain ⟨c0, c1, c2⟩ := id hG3
      go_wp2_with fail
      refine (hP _).mono ?_
      rintro e w4 ⟨rfl, hk4⟩
      have hK4 := hK3.trans hk4
      have hG4 := hG3.keep hk4
      clear c0 c1 c2 hk4 hK3
      obtain ⟨c0, c1, c2⟩ := id hG4
      go_wp2_with fail
      refine (hW _).mono ?_
      rintro e w5 ⟨rfl, hk5⟩
      have hK5 := hK4.trans hk5
      have hG5 := hG4.keep hk5
      clear c0 c1 c2 hk5 hK4
      obtain ⟨c0, c1, c2⟩ := id hG5
      go_wp2_with fail
      refine (rright_yes P S R hR _).mono ?_
      rintro e w6 ⟨rfl, rfl⟩
      have hK6 := hK5.alloc (gob P S R)
      have hG6 := hG5.keep (Kp.one w5 (gob P S R))
      clear c0 c1 c2 hK5
      generalize w5.alloc (gob P S R) = w6 at *
      obtain ⟨c0, c1, c2⟩ := id hG6
      go_wp2_with fail
      go_ret
      exact ⟨rfl, hK6⟩

set_option maxHeartbeats 8000000 in
theorem pages_small (w : World) (p s r : Int) (wp : (Lit.int .i64 p).wf = true) (ws : (Lit.int .i64 s).wf = true) (wr : (Lit.int .i64 r).wf = true) (a b n : Int) :
    Calls Try.prog 6 #[geo p s r, .int .i64 a, .int .i64 b, .int .i64 n, .bool true] w fun e w' => e = .returned (.bool true) ∧ Kp w w' := by
  have hB := Gbx.new w p s r
  go_enter Try.func6, Try.ntmps6
  go_wp2_with fail
  refine (bgeom_any p s r (bounds_i64 wp) (bounds_i64 ws) (bounds_i64 wr) _).mono ?_
  rintro e w1 ⟨rfl, hk1⟩
  have hR := RightG.small p s r
  have hB1 := hB.keep hk1
  obtain ⟨c0, c1, c2⟩ := hB1.cells
  obtain ⟨f0, f1, f2⟩ := hB1.free
  go_wp2_with fail
  have hB2 := hB1.put (p' := 32 + p % 33) (s' := 3 + s % 4) (r' := 4 + r % 4)
  have hK2 : Kp w (((w1.setCell ⟨w.heap.size, 0, none⟩ (.int .i64 (32 + p % 33))).setCell ⟨w.heap.size, 1, none⟩ (.int .i64 (3 + s % 4))).setCell ⟨w.heap.size, 2, none⟩ (.int .i64 (4 + r % 4))) :=
    ((((Kp.one w _).trans hk1).set (Nat.le_refl _) _).set (Nat.le_refl _) _).set (Nat.le_refl _) _
  generalize (((w1.setCell ⟨w.heap.size, 0, none⟩ (.int .i64 (32 + p % 33))).setCell ⟨w.heap.size, 1, none⟩ (.int .i64 (3 + s % 4))).setCell ⟨w.heap.size, 2, none⟩ (.int .i64 (4 + r % 4))) = w2 at hB2 hK2 ⊢
  generalize 32 + p % 33 = P at *
  generalize 3 + s % 4 = S at *
  generalize 4 + r % 4 = R at *
  clear c0 c1 c2 f0 f1 f2 hB1 hk1 hB
  obtain ⟨c0, c1, c2⟩ := hB2.cells
  obtain ⟨h1, h2, h3, h4, h5, h6⟩ := id hR
  obtain ⟨m1, m2, m3, m4, m5⟩ := mul_sr hR
  have hpage : (0 ≤ a ∧ a < R ∧ 0 ≤ b ∧ b < S) ∨ a < 0 ∨ (0 ≤ a ∧ R ≤ a) ∨ (0 ≤ a ∧ a < R ∧ b < 0) ∨ (0 ≤ a ∧ a < R ∧ 0 ≤ b ∧ S ≤ b) := by omega
  have hwhere : (0 ≤ n ∧ n < S * R) ∨ n < 0 ∨ (0 ≤ n ∧ S * R ≤ n) := by omega
  rcases hpage with ⟨p1, p2, p3, p4⟩ | p1 | ⟨p1, p2⟩ | ⟨p1, p2, p3⟩ | ⟨p1, p2, p3, p4⟩
  · rcases hwhere with ⟨q1, q2⟩ | q1 | ⟨q1, q2⟩
    · have hP := fun W => page_yes P S R a b hR p1 p2 p3 p4 W
      have hW := fun W => where_yes P S R n hR q1 (by omega) W
      obtain ⟨l1, l2, l3⟩ := page_lt hR p1 p2 p3 p4
      clear l3
      have z1 : ¬ (S = 0) := by omega
      clear m5
      have hG2 := hB2.cells
      refine (alive_any _).mono ?_
      rintro e w3 ⟨rfl, hk3⟩
      have hK3 := hK2.trans hk3
      have hG3 := hG2.keep hk3
      clear c0 c1 c2 hk3 hK2
      obtain ⟨c0, c1, c2⟩ := id hG3
      go_wp2_with fail
      refine (hP _).mono ?_
      rintro e w4 ⟨rfl, hk4⟩
      have hK4 := hK3.trans hk4
      have hG4 := hG3.keep hk4
      clear c0 c1 c2 hk4 hK3
      obtain ⟨c0, c1, c2⟩ := id hG4
      go_wp2_with fail
      refine (hW _).mono ?_
      rintro e w5 ⟨rfl, hk5⟩
      have hK5 := hK4.trans hk5
      have hG5 := hG4.keep hk5
      clear c0 c1 c2 hk5 hK4
      obtain ⟨c0, c1, c2⟩ := id hG5
      go_wp2_with fail
      refine (rright_yes P S R hR _).mono ?_
      rintro e w6 ⟨rfl, rfl⟩
      have hK6 := hK5.alloc (gob P S R)
      have hG6 := hG5.keep (Kp.one w5 (gob P S R))
      clear c0 c1 c2 hK5
      generalize w5.alloc (gob P S R) = w6 at *
      obtain ⟨c0, c1, c2⟩ := id hG6
      go_wp2_with fail
      go_ret
      exact ⟨rfl, hK6⟩
    · have hP := fun W => page_yes P S R a b hR p1 p2 p3 p4 W
      have hW := fun W => where_no P S R n (.inr (by omega)) W
      obtain ⟨l1, l2, l3⟩ := page_lt hR p1 p2 p3 p4
      clear l3
      clear m5
      have hG2 := hB2.cells
      refine (alive_any _).mono ?_
      rintro e w3 ⟨rfl, hk3⟩
      have hK3 := hK2.trans hk3
      have hG3 := hG2.keep hk3
      clear c0 c1 c2 hk3 hK2
      obtain ⟨c0, c1, c2⟩ := id hG3
      go_wp2_with fail
      refine (hP _).mono ?_
      rintro e w4 ⟨rfl, hk4⟩
      have hK4 := hK3.trans hk4
      have hG4 := hG3.keep hk4
      clear c0 c1 c2 hk4 hK3
      obtain ⟨c0, c1, c2⟩ := id hG4
      go_wp2_with fail
      refine (hW _).mono ?_
      rintro e w5 ⟨rfl, hk5⟩
      have hK5 := hK4.trans hk5
      have hG5 := hG4.keep hk5
      clear c0 c1 c2 hk5 hK4
      obtain ⟨c0, c1, c2⟩ := id hG5
      go_wp2_with fail
      refine (rright_yes P S R hR _).mono ?_
      rintro e w6 ⟨rfl, rfl⟩
      have hK6 := hK5.alloc (gob P S R)
      have hG6 := hG5.keep (Kp.one w5 (gob P S R))
      clear c0 c1 c2 hK5
      generalize w5.alloc (gob P S R) = w6 at *
      obtain ⟨c0, c1, c2⟩ := id hG6
      go_wp2_with fail
      go_ret
      exact ⟨rfl, hK6⟩
    · have hP := fun W => page_yes P S R a b hR p1 p2 p3 p4 W
      have hW := fun W => where_no P S R n (.inr (by omega)) W
      obtain ⟨l1, l2, l3⟩ := page_lt hR p1 p2 p3 p4
      clear l3
      clear m5
      have hG2 := hB2.cells
      refine (alive_any _).mono ?_
      rintro e w3 ⟨rfl, hk3⟩
      have hK3 := hK2.trans hk3
      have hG3 := hG2.keep hk3
      clear c0 c1 c2 hk3 hK2
      obtain ⟨c0, c1, c2⟩ := id hG3
      go_wp2_with fail
      refine (hP _).mono ?_
      rintro e w4 ⟨rfl, hk4⟩
      have hK4 := hK3.trans hk4
      have hG4 := hG3.keep hk4
      clear c0 c1 c2 hk4 hK3
      obtain ⟨c0, c1, c2⟩ := id hG4
      go_wp2_with fail
      refine (hW _).mono ?_
      rintro e w5 ⟨rfl, hk5⟩
      have hK5 := hK4.trans hk5
      have hG5 := hG4.keep hk5
      clear c0 c1 c2 hk5 hK4
      obtain ⟨c0, c1, c2⟩ := id hG5
      go_wp2_with fail
      refine (rright_yes P S R hR _).mono ?_
      rintro e w6 ⟨rfl, rfl⟩
      have hK6 := hK5.alloc (gob P S R)
      have hG6 := hG5.keep (Kp.one w5 (gob P S R))
      clear c0 c1 c2 hK5
      generalize w5.alloc (gob P S R) = w6 at *
      obtain ⟨c0, c1, c2⟩ := id hG6
      go_wp2_with fail
      go_ret
      exact ⟨rfl, hK6⟩
  · rcases hwhere with ⟨q1, q2⟩ | q1 | ⟨q1, q2⟩
    · have hP := fun W => page_no P S R a b (.inr (by omega)) W
      have hW := fun W => where_yes P S R n hR q1 (by omega) W
      have z1 : ¬ (S = 0) := by omega
      clear m5
      have hG2 := hB2.cells
      refine (alive_any _).mono ?_
      rintro e w3 ⟨rfl, hk3⟩
      have hK3 := hK2.trans hk3
      have hG3 := hG2.keep hk3
      clear c0 c1 c2 hk3 hK2
      obtain ⟨c0, c1, c2⟩ := id hG3
      go_wp2_with fail
      refine (hP _).mono ?_
      rintro e w4 ⟨rfl, hk4⟩
      have hK4 := hK3.trans hk4
      have hG4 := hG3.keep hk4
      clear c0 c1 c2 hk4 hK3
      obtain ⟨c0, c1, c2⟩ := id hG4
      go_wp2_with fail
      refine (hW _).mono ?_
      rintro e w5 ⟨rfl, hk5⟩
      have hK5 := hK4.trans hk5
      have hG5 := hG4.keep hk5
      clear c0 c1 c2 hk5 hK4
      obtain ⟨c0, c1, c2⟩ := id hG5
      go_wp2_with fail
      refine (rright_yes P S R hR _).mono ?_
      rintro e w6 ⟨rfl, rfl⟩
      have hK6 := hK5.alloc (gob P S R)
      have hG6 := hG5.keep (Kp.one w5 (gob P S R))
      clear c0 c1 c2 hK5
      generalize w5.alloc (gob P S R) = w6 at *
      obtain ⟨c0, c1, c2⟩ := id hG6
      go_wp2_with fail
      go_ret
      exact ⟨rfl, hK6⟩
    · have hP := fun W => page_no P S R a b (.inr (by omega)) W
      have hW := fun W => where_no P S R n (.inr (by omega)) W
      clear m5
      have hG2 := hB2.cells
      refine (alive_any _).mono ?_
      rintro e w3 ⟨rfl, hk3⟩
      have hK3 := hK2.trans hk3
      have hG3 := hG2.keep hk3
      clear c0 c1 c2 hk3 hK2
      obtain ⟨c0, c1, c2⟩ := id hG3
      go_wp2_with fail
      refine (hP _).mono ?_
      rintro e w4 ⟨rfl, hk4⟩
      have hK4 := hK3.trans hk4
      have hG4 := hG3.keep hk4
      clear c0 c1 c2 hk4 hK3
      obtain ⟨c0, c1, c2⟩ := id hG4
      go_wp2_with fail
      refine (hW _).mono ?_
      rintro e w5 ⟨rfl, hk5⟩
      have hK5 := hK4.trans hk5
      have hG5 := hG4.keep hk5
      clear c0 c1 c2 hk5 hK4
      obtain ⟨c0, c1, c2⟩ := id hG5
      go_wp2_with fail
      refine (rright_yes P S R hR _).mono ?_
      rintro e w6 ⟨rfl, rfl⟩
      have hK6 := hK5.alloc (gob P S R)
      have hG6 := hG5.keep (Kp.one w5 (gob P S R))
      clear c0 c1 c2 hK5
      generalize w5.alloc (gob P S R) = w6 at *
      obtain ⟨c0, c1, c2⟩ := id hG6
      go_wp2_with fail
      go_ret
      exact ⟨rfl, hK6⟩
    · have hP := fun W => page_no P S R a b (.inr (by omega)) W
      have hW := fun W => where_no P S R n (.inr (by omega)) W
      clear m5
      have hG2 := hB2.cells
      refine (alive_any _).mono ?_
      rintro e w3 ⟨rfl, hk3⟩
      have hK3 := hK2.trans hk3
      have hG3 := hG2.keep hk3
      clear c0 c1 c2 hk3 hK2
      obtain ⟨c0, c1, c2⟩ := id hG3
      go_wp2_with fail
      refine (hP _).mono ?_
      rintro e w4 ⟨rfl, hk4⟩
      have hK4 := hK3.trans hk4
      have hG4 := hG3.keep hk4
      clear c0 c1 c2 hk4 hK3
      obtain ⟨c0, c1, c2⟩ := id hG4
      go_wp2_with fail
      refine (hW _).mono ?_
      rintro e w5 ⟨rfl, hk5⟩
      have hK5 := hK4.trans hk5
      have hG5 := hG4.keep hk5
      clear c0 c1 c2 hk5 hK4
      obtain ⟨c0, c1, c2⟩ := id hG5
      go_wp2_with fail
      refine (rright_yes P S R hR _).mono ?_
      rintro e w6 ⟨rfl, rfl⟩
      have hK6 := hK5.alloc (gob P S R)
      have hG6 := hG5.keep (Kp.one w5 (gob P S R))
      clear c0 c1 c2 hK5
      generalize w5.alloc (gob P S R) = w6 at *
      obtain ⟨c0, c1, c2⟩ := id hG6
      go_wp2_with fail
      go_ret
      exact ⟨rfl, hK6⟩
  · rcases hwhere with ⟨q1, q2⟩ | q1 | ⟨q1, q2⟩
    · have hP := fun W => page_no P S R a b (.inr (by omega)) W
      have hW := fun W => where_yes P S R n hR q1 (by omega) W
      have z1 : ¬ (S = 0) := by omega
      clear m5
      have hG2 := hB2.cells
      refine (alive_any _).mono ?_
      rintro e w3 ⟨rfl, hk3⟩
      have hK3 := hK2.trans hk3
      have hG3 := hG2.keep hk3
      clear c0 c1 c2 hk3 hK2
      obtain ⟨c0, c1, c2⟩ := id hG3
      go_wp2_with fail
      refine (hP _).mono ?_
      rintro e w4 ⟨rfl, hk4⟩
      have hK4 := hK3.trans hk4
      have hG4 := hG3.keep hk4
      clear c0 c1 c2 hk4 hK3
      obtain ⟨c0, c1, c2⟩ := id hG4
      go_wp2_with fail
      refine (hW _).mono ?_
      rintro e w5 ⟨rfl, hk5⟩
      have hK5 := hK4.trans hk5
      have hG5 := hG4.keep hk5
      clear c0 c1 c2 hk5 hK4
      obtain ⟨c0, c1, c2⟩ := id hG5
      go_wp2_with fail
      refine (rright_yes P S R hR _).mono ?_
      rintro e w6 ⟨rfl, rfl⟩
      have hK6 := hK5.alloc (gob P S R)
      have hG6 := hG5.keep (Kp.one w5 (gob P S R))
      clear c0 c1 c2 hK5
      generalize w5.alloc (gob P S R) = w6 at *
      obtain ⟨c0, c1, c2⟩ := id hG6
      go_wp2_with fail
      go_ret
      exact ⟨rfl, hK6⟩
    · have hP := fun W => page_no P S R a b (.inr (by omega)) W
      have hW := fun W => where_no P S R n (.inr (by omega)) W
      clear m5
      have hG2 := hB2.cells
      refine (alive_any _).mono ?_
      rintro e w3 ⟨rfl, hk3⟩
      have hK3 := hK2.trans hk3
      have hG3 := hG2.keep hk3
      clear c0 c1 c2 hk3 hK2
      obtain ⟨c0, c1, c2⟩ := id hG3
      go_wp2_with fail
      refine (hP _).mono ?_
      rintro e w4 ⟨rfl, hk4⟩
      have hK4 := hK3.trans hk4
      have hG4 := hG3.keep hk4
      clear c0 c1 c2 hk4 hK3
      obtain ⟨c0, c1, c2⟩ := id hG4
      go_wp2_with fail
      refine (hW _).mono ?_
      rintro e w5 ⟨rfl, hk5⟩
      have hK5 := hK4.trans hk5
      have hG5 := hG4.keep hk5
      clear c0 c1 c2 hk5 hK4
      obtain ⟨c0, c1, c2⟩ := id hG5
      go_wp2_with fail
      refine (rright_yes P S R hR _).mono ?_
      rintro e w6 ⟨rfl, rfl⟩
      have hK6 := hK5.alloc (gob P S R)
      have hG6 := hG5.keep (Kp.one w5 (gob P S R))
      clear c0 c1 c2 hK5
      generalize w5.alloc (gob P S R) = w6 at *
      obtain ⟨c0, c1, c2⟩ := id hG6
      go_wp2_with fail
      go_ret
      exact ⟨rfl, hK6⟩
    · have hP := fun W => page_no P S R a b (.inr (by omega)) W
      have hW := fun W => where_no P S R n (.inr (by omega)) W
      clear m5
      have hG2 := hB2.cells
      refine (alive_any _).mono ?_
      rintro e w3 ⟨rfl, hk3⟩
      have hK3 := hK2.trans hk3
      have hG3 := hG2.keep hk3
      clear c0 c1 c2 hk3 hK2
      obtain ⟨c0, c1, c2⟩ := id hG3
      go_wp2_with fail
      refine (hP _).mono ?_
      rintro e w4 ⟨rfl, hk4⟩
      have hK4 := hK3.trans hk4
      have hG4 := hG3.keep hk4
      clear c0 c1 c2 hk4 hK3
      obtain ⟨c0, c1, c2⟩ := id hG4
      go_wp2_with fail
      refine (hW _).mono ?_
      rintro e w5 ⟨rfl, hk5⟩
      have hK5 := hK4.trans hk5
      have hG5 := hG4.keep hk5
      clear c0 c1 c2 hk5 hK4
      obtain ⟨c0, c1, c2⟩ := id hG5
      go_wp2_with fail
      refine (rright_yes P S R hR _).mono ?_
      rintro e w6 ⟨rfl, rfl⟩
      have hK6 := hK5.alloc (gob P S R)
      have hG6 := hG5.keep (Kp.one w5 (gob P S R))
      clear c0 c1 c2 hK5
      generalize w5.alloc (gob P S R) = w6 at *
      obtain ⟨c0, c1, c2⟩ := id hG6
      go_wp2_with fail
      go_ret
      exact ⟨rfl, hK6⟩
  · rcases hwhere with ⟨q1, q2⟩ | q1 | ⟨q1, q2⟩
    · have hP := fun W => page_no P S R a b (.inr (by omega)) W
      have hW := fun W => where_yes P S R n hR q1 (by omega) W
      have z1 : ¬ (S = 0) := by omega
      clear m5
      have hG2 := hB2.cells
      refine (alive_any _).mono ?_
      rintro e w3 ⟨rfl, hk3⟩
      have hK3 := hK2.trans hk3
      have hG3 := hG2.keep hk3
      clear c0 c1 c2 hk3 hK2
      obtain ⟨c0, c1, c2⟩ := id hG3
      go_wp2_with fail
      refine (hP _).mono ?_
      rintro e w4 ⟨rfl, hk4⟩
      have hK4 := hK3.trans hk4
      have hG4 := hG3.keep hk4
      clear c0 c1 c2 hk4 hK3
      obtain ⟨c0, c1, c2⟩ := id hG4
      go_wp2_with fail
      refine (hW _).mono ?_
      rintro e w5 ⟨rfl, hk5⟩
      have hK5 := hK4.trans hk5
      have hG5 := hG4.keep hk5
      clear c0 c1 c2 hk5 hK4
      obtain ⟨c0, c1, c2⟩ := id hG5
      go_wp2_with fail
      refine (rright_yes P S R hR _).mono ?_
      rintro e w6 ⟨rfl, rfl⟩
      have hK6 := hK5.alloc (gob P S R)
      have hG6 := hG5.keep (Kp.one w5 (gob P S R))
      clear c0 c1 c2 hK5
      generalize w5.alloc (gob P S R) = w6 at *
      obtain ⟨c0, c1, c2⟩ := id hG6
      go_wp2_with fail
      go_ret
      exact ⟨rfl, hK6⟩
    · have hP := fun W => page_no P S R a b (.inr (by omega)) W
      have hW := fun W => where_no P S R n (.inr (by omega)) W
      clear m5
      have hG2 := hB2.cells
      refine (alive_any _).mono ?_
      rintro e w3 ⟨rfl, hk3⟩
      have hK3 := hK2.trans hk3
      have hG3 := hG2.keep hk3
      clear c0 c1 c2 hk3 hK2
      obtain ⟨c0, c1, c2⟩ := id hG3
      go_wp2_with fail
      refine (hP _).mono ?_
      rintro e w4 ⟨rfl, hk4⟩
      have hK4 := hK3.trans hk4
      have hG4 := hG3.keep hk4
      clear c0 c1 c2 hk4 hK3
      obtain ⟨c0, c1, c2⟩ := id hG4
      go_wp2_with fail
      refine (hW _).mono ?_
      rintro e w5 ⟨rfl, hk5⟩
      have hK5 := hK4.trans hk5
      have hG5 := hG4.keep hk5
      clear c0 c1 c2 hk5 hK4
      obtain ⟨c0, c1, c2⟩ := id hG5
      go_wp2_with fail
      refine (rright_yes P S R hR _).mono ?_
      rintro e w6 ⟨rfl, rfl⟩
      have hK6 := hK5.alloc (gob P S R)
      have hG6 := hG5.keep (Kp.one w5 (gob P S R))
      clear c0 c1 c2 hK5
      generalize w5.alloc (gob P S R) = w6 at *
      obtain ⟨c0, c1, c2⟩ := id hG6
      go_wp2_with fail
      go_ret
      exact ⟨rfl, hK6⟩
    · have hP := fun W => page_no P S R a b (.inr (by omega)) W
      have hW := fun W => where_no P S R n (.inr (by omega)) W
      clear m5
      have hG2 := hB2.cells
      refine (alive_any _).mono ?_
      rintro e w3 ⟨rfl, hk3⟩
      have hK3 := hK2.trans hk3
      have hG3 := hG2.keep hk3
      clear c0 c1 c2 hk3 hK2
      obtain ⟨c0, c1, c2⟩ := id hG3
      go_wp2_with fail
      refine (hP _).mono ?_
      rintro e w4 ⟨rfl, hk4⟩
      have hK4 := hK3.trans hk4
      have hG4 := hG3.keep hk4
      clear c0 c1 c2 hk4 hK3
      obtain ⟨c0, c1, c2⟩ := id hG4
      go_wp2_with fail
      refine (hW _).mono ?_
      rintro e w5 ⟨rfl, hk5⟩
      have hK5 := hK4.trans hk5
      have hG5 := hG4.keep hk5
      clear c0 c1 c2 hk5 hK4
      obtain ⟨c0, c1, c2⟩ := id hG5
      go_wp2_with fail
      refine (rright_yes P S R hR _).mono ?_
      rintro e w6 ⟨rfl, rfl⟩
      have hK6 := hK5.alloc (gob P S R)
      have hG6 := hG5.keep (Kp.one w5 (gob P S R))
      clear c0 c1 c2 hK5
      generalize w5.alloc (gob P S R) = w6 at *
      obtain ⟨c0, c1, c2⟩ := id hG6
      go_wp2_with fail
      go_ret
      exact ⟨rfl, hK6⟩
  · rcases hwhere with ⟨q1, q2⟩ | q1 | ⟨q1, q2⟩
    · have hP := fun W => page_no P S R a b (.inr (by omega)) W
      have hW := fun W => where_yes P S R n hR q1 (by omega) W
      have z1 : ¬ (S = 0) := by omega
      clear m5
      have hG2 := hB2.cells
      refine (alive_any _).mono ?_
      rintro e w3 ⟨rfl, hk3⟩
      have hK3 := hK2.trans hk3
      have hG3 := hG2.keep hk3
      clear c0 c1 c2 hk3 hK2
      obtain ⟨c0, c1, c2⟩ := id hG3
      go_wp2_with fail
      refine (hP _).mono ?_
      rintro e w4 ⟨rfl, hk4⟩
      have hK4 := hK3.trans hk4
      have hG4 := hG3.keep hk4
      clear c0 c1 c2 hk4 hK3
      obtain ⟨c0, c1, c2⟩ := id hG4
      go_wp2_with fail
      refine (hW _).mono ?_
      rintro e w5 ⟨rfl, hk5⟩
      have hK5 := hK4.trans hk5
      have hG5 := hG4.keep hk5
      clear c0 c1 c2 hk5 hK4
      obtain ⟨c0, c1, c2⟩ := id hG5
      go_wp2_with fail
      refine (rright_yes P S R hR _).mono ?_
      rintro e w6 ⟨rfl, rfl⟩
      have hK6 := hK5.alloc (gob P S R)
      have hG6 := hG5.keep (Kp.one w5 (gob P S R))
      clear c0 c1 c2 hK5
      generalize w5.alloc (gob P S R) = w6 at *
      obtain ⟨c0, c1, c2⟩ := id hG6
      go_wp2_with fail
      go_ret
      exact ⟨rfl, hK6⟩
    · have hP := fun W => page_no P S R a b (.inr (by omega)) W
      have hW := fun W => where_no P S R n (.inr (by omega)) W
      clear m5
      have hG2 := hB2.cells
      refine (alive_any _).mono ?_
      rintro e w3 ⟨rfl, hk3⟩
      have hK3 := hK2.trans hk3
      have hG3 := hG2.keep hk3
      clear c0 c1 c2 hk3 hK2
      obtain ⟨c0, c1, c2⟩ := id hG3
      go_wp2_with fail
      refine (hP _).mono ?_
      rintro e w4 ⟨rfl, hk4⟩
      have hK4 := hK3.trans hk4
      have hG4 := hG3.keep hk4
      clear c0 c1 c2 hk4 hK3
      obtain ⟨c0, c1, c2⟩ := id hG4
      go_wp2_with fail
      refine (hW _).mono ?_
      rintro e w5 ⟨rfl, hk5⟩
      have hK5 := hK4.trans hk5
      have hG5 := hG4.keep hk5
      clear c0 c1 c2 hk5 hK4
      obtain ⟨c0, c1, c2⟩ := id hG5
      go_wp2_with fail
      refine (rright_yes P S R hR _).mono ?_
      rintro e w6 ⟨rfl, rfl⟩
      have hK6 := hK5.alloc (gob P S R)
      have hG6 := hG5.keep (Kp.one w5 (gob P S R))
      clear c0 c1 c2 hK5
      generalize w5.alloc (gob P S R) = w6 at *
      obtain ⟨c0, c1, c2⟩ := id hG6
      go_wp2_with fail
      go_ret
      exact ⟨rfl, hK6⟩
    · have hP := fun W => page_no P S R a b (.inr (by omega)) W
      have hW := fun W => where_no P S R n (.inr (by omega)) W
      clear m5
      have hG2 := hB2.cells
      refine (alive_any _).mono ?_
      rintro e w3 ⟨rfl, hk3⟩
      have hK3 := hK2.trans hk3
      have hG3 := hG2.keep hk3
      clear c0 c1 c2 hk3 hK2
      obtain ⟨c0, c1, c2⟩ := id hG3
      go_wp2_with fail
      refine (hP _).mono ?_
      rintro e w4 ⟨rfl, hk4⟩
      have hK4 := hK3.trans hk4
      have hG4 := hG3.keep hk4
      clear c0 c1 c2 hk4 hK3
      obtain ⟨c0, c1, c2⟩ := id hG4
      go_wp2_with fail
      refine (hW _).mono ?_
      rintro e w5 ⟨rfl, hk5⟩
      have hK5 := hK4.trans hk5
      have hG5 := hG4.keep hk5
      clear c0 c1 c2 hk5 hK4
      obtain ⟨c0, c1, c2⟩ := id hG5
      go_wp2_with fail
      refine (rright_yes P S R hR _).mono ?_
      rintro e w6 ⟨rfl, rfl⟩
      have hK6 := hK5.alloc (gob P S R)
      have hG6 := hG5.keep (Kp.one w5 (gob P S R))
      clear c0 c1 c2 hK5
      generalize w5.alloc (gob P S R) = w6 at *
      obtain ⟨c0, c1, c2⟩ := id hG6
      go_wp2_with fail
      go_ret
      exact ⟨rfl, hK6⟩

set_option maxHeartbeats 8000000 in
theorem pages_none (w : World) (p s r : Int) (wp : (Lit.int .i64 p).wf = true) (ws : (Lit.int .i64 s).wf = true) (wr : (Lit.int .i64 r).wf = true) (a b n : Int) (hR : ¬ RightG p s r) :
    Calls Try.prog 6 #[geo p s r, .int .i64 a, .int .i64 b, .int .i64 n, .bool false] w fun e w' => e = .returned (.bool true) ∧ Kp w w' := by
  have hB2 := Gbx.new w p s r
  have hK2 := Kp.one w (gob p s r)
  go_enter Try.func6, Try.ntmps6
  go_wp2_with fail
  generalize hw2 : w.alloc (gob p s r) = w2 at hB2 hK2 ⊢
  clear hw2
  generalize p = P at *
  generalize s = S at *
  generalize r = R at *
  obtain ⟨c0, c1, c2⟩ := hB2.cells
  have hG2 := hB2.cells
  refine (alive_any _).mono ?_
  rintro e w3 ⟨rfl, hk3⟩
  have hK3 := hK2.trans hk3
  have hG3 := hG2.keep hk3
  clear c0 c1 c2 hk3 hK2
  obtain ⟨c0, c1, c2⟩ := id hG3
  go_wp2_with fail
  refine (page_no P S R a b (.inl hR) _).mono ?_
  rintro e w4 ⟨rfl, hk4⟩
  have hK4 := hK3.trans hk4
  have hG4 := hG3.keep hk4
  clear c0 c1 c2 hk4 hK3
  obtain ⟨c0, c1, c2⟩ := id hG4
  go_wp2_with fail
  refine (where_no P S R n (.inl hR) _).mono ?_
  rintro e w5 ⟨rfl, hk5⟩
  have hK5 := hK4.trans hk5
  have hG5 := hG4.keep hk5
  clear c0 c1 c2 hk5 hK4
  obtain ⟨c0, c1, c2⟩ := id hG5
  go_wp2_with fail
  refine (rright_no P S R hR _).mono ?_
  rintro e w6 ⟨rfl, rfl⟩
  have hK6 := hK5.alloc (gob P S R)
  have hG6 := hG5.keep (Kp.one w5 (gob P S R))
  clear c0 c1 c2 hK5
  generalize w5.alloc (gob P S R) = w6 at *
  obtain ⟨c0, c1, c2⟩ := id hG6
  go_wp2_with fail
  go_ret
  exact ⟨rfl, hK6⟩

theorem GeomPages_walk (w : World) (p s r : Int) (wp : (Lit.int .i64 p).wf = true) (ws : (Lit.int .i64 s).wf = true) (wr : (Lit.int .i64 r).wf = true) (a : Int) (wa : (Lit.int .i64 a).wf = true) (b : Int) (wb : (Lit.int .i64 b).wf = true) (n : Int) (wn : (Lit.int .i64 n).wf = true) (small : Bool) :
    Calls Try.prog 6 #[geo p s r, .int .i64 a, .int .i64 b, .int .i64 n, .bool small] w fun e w' => e = .returned (.bool true) ∧ Kp w w' := by
  cases small
  · by_cases hR : RightG p s r
    · exact pages_right w p s r wp ws wr a b n hR
    · exact pages_none w p s r wp ws wr a b n hR
  · exact pages_small w p s r wp ws wr a b n
end Go.Proofs.Ytekadonopenljaa
