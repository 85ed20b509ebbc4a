/- The walks of the statements of chapter 6: GeomTells, GeomPages. -/
import Derived.Test.YtekadonopenljaaLawGeom
namespace Go.Proofs.Ytekadonopenljaa
open Go.RowKit
set_option linter.unusedVariables false

set_option maxHeartbeats 1600000 in
theorem tells_small (w : World) (p s r : Int) (wp : (Lit.int .i64 p).wf = true) (ws : (Lit.int .i64 s).wf = true) (wr : (Lit.int .i64 r).wf = true) (n : Int) :
    Calls Try.prog 4 #[geo p s r, .int .i64 n, .bool true] w fun e w' => e = .returned (.bool true) ∧ Kp w w' := by
  have hB := Gbx.new w p s r
  go_enter Try.func4, Try.ntmps4
  go_wp2_with fail
  refine (bgeom_any p s r (bounds_i64 wp) (bounds_i64 ws) (bounds_i64 wr) _).mono ?_
  rintro e w1 ⟨rfl, hk1⟩
  have hR := RightG.small p s r
  have hB1 := hB.keep hk1
  obtain ⟨c0, c1, c2⟩ := hB1.cells
  obtain ⟨f0, f1, f2⟩ := hB1.free
  go_wp2_with fail
  have hB2 := hB1.put (p' := 32 + p % 33) (s' := 3 + s % 4) (r' := 4 + r % 4)
  have hK2 : Kp w (((w1.setCell ⟨w.heap.size, 0, none⟩ (.int .i64 (32 + p % 33))).setCell ⟨w.heap.size, 1, none⟩ (.int .i64 (3 + s % 4))).setCell ⟨w.heap.size, 2, none⟩ (.int .i64 (4 + r % 4))) :=
    ((((Kp.one w _).trans hk1).set (Nat.le_refl _) _).set (Nat.le_refl _) _).set (Nat.le_refl _) _
  generalize (((w1.setCell ⟨w.heap.size, 0, none⟩ (.int .i64 (32 + p % 33))).setCell ⟨w.heap.size, 1, none⟩ (.int .i64 (3 + s % 4))).setCell ⟨w.heap.size, 2, none⟩ (.int .i64 (4 + r % 4))) = w2 at hB2 hK2 ⊢
  generalize 32 + p % 33 = P at *
  generalize 3 + s % 4 = S at *
  generalize 4 + r % 4 = R at *
  clear c0 c1 c2 f0 f1 f2 hB1 hk1 hB
  obtain ⟨c0, c1, c2⟩ := hB2.cells
  obtain ⟨h1, h2, h3, h4, h5, h6⟩ := id hR
  have hG2 := hB2.cells
  go_region_held3 (fun (W : World) => W.cell? ⟨w.heap.size, 0, none⟩ = some (.int .i64 P) ∧ W.cell? ⟨w.heap.size, 1, none⟩ = some (.int .i64 S) ∧ W.cell? ⟨w.heap.size, 2, none⟩ = some (.int .i64 R))
    ((refine Gat.keep hG2 ?_; (repeat (first | exact Kp.refl _ | assumption | refine Kp.alloc ?_ _ | refine Kp.drew ?_ | refine Kp.drewN ?_ _ | refine Kp.trans ?_ (by assumption)))))
    (first
      | (go_at_call 10; refine (alive_any _).mono ?_; rintro e w3 ⟨rfl, hk3⟩)
      | (go_at_call 13; refine (right_yes P S R hR _).mono ?_; rintro e w3 ⟨rfl, rfl⟩)
      | (go_at_call 14; refine (rright_yes P S R hR _).mono ?_; rintro e w3 ⟨rfl, rfl⟩))
  have hG3 := hG2.keep (Kp.trans (Kp.refl w2).drew hk3)
  have hK3 : Kp w w3 := hK2.trans (Kp.trans (Kp.refl w2).drew hk3)
  have hG4 := hG3.keep (((Kp.refl w3).alloc (gob P S R)).alloc (gob P S R))
  obtain ⟨d0, d1, d2⟩ := hG4
  have hK4 := (hK3.alloc (gob P S R)).alloc (gob P S R)
  generalize (w3.alloc (gob P S R)).alloc (gob P S R) = w4 at *
  go_wp2_with fail
  refine (rright_yes P S R hR _).mono ?_
  rintro e w5 ⟨rfl, rfl⟩
  have hK5 := hK4.alloc (gob P S R)
  have hG5 : Gat (w4.alloc (gob P S R)) w.heap.size P S R := Gat.keep ⟨d0, d1, d2⟩ (Kp.one _ _)
  generalize w4.alloc (gob P S R) = w5 at *
  clear hK4 hK3 hG3 hk3 d0 d1 d2 hK2
  obtain ⟨d0, d1, d2⟩ := id hG5
  have y1 : IntKind.i64.wrap (P - 15) = P - 15 := IntWalk.i64_in _ (by omega)
  have y2 : IntKind.i64.wrap (S - 1) = S - 1 := IntWalk.i64_in _ (by omega)
  go_wp2_with fail
  go_region_held3 (fun (W : World) => W.cell? ⟨w.heap.size, 0, none⟩ = some (.int .i64 P) ∧ W.cell? ⟨w.heap.size, 1, none⟩ = some (.int .i64 S) ∧ W.cell? ⟨w.heap.size, 2, none⟩ = some (.int .i64 R))
    ((refine Gat.keep hG5 ?_; (repeat (first | exact Kp.refl _ | assumption | refine Kp.alloc ?_ _ | refine Kp.drew ?_ | refine Kp.drewN ?_ _ | refine Kp.trans ?_ (by assumption)))))
    (first
      | (go_at_call 15; refine (bytes_yes P S R hR _).mono ?_; rintro e w6 ⟨rfl, rfl⟩)
      | (go_at_call 19; refine (rsize_any P S R hR _).mono ?_; rintro e w6 ⟨rfl, rfl⟩)
      | (go_at_call 12; refine (room_yes P S R hR _).mono ?_; rintro e w6 ⟨rfl, rfl⟩)
      | (go_at_call 16; refine (slots_yes P S R hR _).mono ?_; rintro e w6 ⟨rfl, rfl⟩)
      | (go_at_call 11; refine (need_yes P S R hR _ _).mono ?_; rintro e w6 ⟨rfl, hk6⟩)
      | (go_at_call 20; refine (rneed_any P S R hR _ _).mono ?_; rintro e w6 ⟨rfl, hk6⟩)
      | (go_at_call 17; refine (most_yes P S R hR _).mono ?_; rintro e w6 ⟨rfl, hk6⟩)
      | (go_at_call 21; refine (rmost_any P S R hR _).mono ?_; rintro e w6 ⟨rfl, hk6⟩)
      | (go_at_call 18; refine (held_yes P S R hR _).mono ?_; rintro e w6 ⟨rfl, hk6⟩)
      | (go_at_call 22; refine (rheld_any P S R hR _).mono ?_; rintro e w6 ⟨rfl, hk6⟩))
  go_wp2
  go_ret
  refine ⟨rfl, Kp.trans hK5 ?_⟩
  (repeat (first | exact Kp.refl _ | assumption | refine Kp.alloc ?_ _ | refine Kp.drew ?_ | refine Kp.drewN ?_ _ | refine Kp.trans ?_ (by assumption)))

set_option maxHeartbeats 1600000 in
theorem tells_right (w : World) (p s r : Int) (wp : (Lit.int .i64 p).wf = true) (ws : (Lit.int .i64 s).wf = true) (wr : (Lit.int .i64 r).wf = true) (n : Int) (hR : RightG p s r) :
    Calls Try.prog 4 #[geo p s r, .int .i64 n, .bool false] w fun e w' => e = .returned (.bool true) ∧ Kp w w' := by
  have hB2 := Gbx.new w p s r
  have hK2 := Kp.one w (gob p s r)
  go_enter Try.func4, Try.ntmps4
  go_wp2_with fail
  generalize hw2 : w.alloc (gob p s r) = w2 at hB2 hK2 ⊢
  clear hw2
  generalize p = P at *
  generalize s = S at *
  generalize r = R at *
  obtain ⟨c0, c1, c2⟩ := hB2.cells
  obtain ⟨h1, h2, h3, h4, h5, h6⟩ := id hR
  have hG2 := hB2.cells
  go_region_held3 (fun (W : World) => W.cell? ⟨w.heap.size, 0, none⟩ = some (.int .i64 P) ∧ W.cell? ⟨w.heap.size, 1, none⟩ = some (.int .i64 S) ∧ W.cell? ⟨w.heap.size, 2, none⟩ = some (.int .i64 R))
    ((refine Gat.keep hG2 ?_; (repeat (first | exact Kp.refl _ | assumption | refine Kp.alloc ?_ _ | refine Kp.drew ?_ | refine Kp.drewN ?_ _ | refine Kp.trans ?_ (by assumption)))))
    (first
      | (go_at_call 10; refine (alive_any _).mono ?_; rintro e w3 ⟨rfl, hk3⟩)
      | (go_at_call 13; refine (right_yes P S R hR _).mono ?_; rintro e w3 ⟨rfl, rfl⟩)
      | (go_at_call 14; refine (rright_yes P S R hR _).mono ?_; rintro e w3 ⟨rfl, rfl⟩))
  have hG3 := hG2.keep (Kp.trans (Kp.refl w2).drew hk3)
  have hK3 : Kp w w3 := hK2.trans (Kp.trans (Kp.refl w2).drew hk3)
  have hG4 := hG3.keep (((Kp.refl w3).alloc (gob P S R)).alloc (gob P S R))
  obtain ⟨d0, d1, d2⟩ := hG4
  have hK4 := (hK3.alloc (gob P S R)).alloc (gob P S R)
  generalize (w3.alloc (gob P S R)).alloc (gob P S R) = w4 at *
  go_wp2_with fail
  refine (rright_yes P S R hR _).mono ?_
  rintro e w5 ⟨rfl, rfl⟩
  have hK5 := hK4.alloc (gob P S R)
  have hG5 : Gat (w4.alloc (gob P S R)) w.heap.size P S R := Gat.keep ⟨d0, d1, d2⟩ (Kp.one _ _)
  generalize w4.alloc (gob P S R) = w5 at *
  clear hK4 hK3 hG3 hk3 d0 d1 d2 hK2
  obtain ⟨d0, d1, d2⟩ := id hG5
  have y1 : IntKind.i64.wrap (P - 15) = P - 15 := IntWalk.i64_in _ (by omega)
  have y2 : IntKind.i64.wrap (S - 1) = S - 1 := IntWalk.i64_in _ (by omega)
  go_wp2_with fail
  go_region_held3 (fun (W : World) => W.cell? ⟨w.heap.size, 0, none⟩ = some (.int .i64 P) ∧ W.cell? ⟨w.heap.size, 1, none⟩ = some (.int .i64 S) ∧ W.cell? ⟨w.heap.size, 2, none⟩ = some (.int .i64 R))
    ((refine Gat.keep hG5 ?_; (repeat (first | exact Kp.refl _ | assumption | refine Kp.alloc ?_ _ | refine Kp.drew ?_ | refine Kp.drewN ?_ _ | refine Kp.trans ?_ (by assumption)))))
    (first
      | (go_at_call 15; refine (bytes_yes P S R hR _).mono ?_; rintro e w6 ⟨rfl, rfl⟩)
      | (go_at_call 19; refine (rsize_any P S R hR _).mono ?_; rintro e w6 ⟨rfl, rfl⟩)
      | (go_at_call 12; refine (room_yes P S R hR _).mono ?_; rintro e w6 ⟨rfl, rfl⟩)
      | (go_at_call 16; refine (slots_yes P S R hR _).mono ?_; rintro e w6 ⟨rfl, rfl⟩)
      | (go_at_call 11; refine (need_yes P S R hR _ _).mono ?_; rintro e w6 ⟨rfl, hk6⟩)
      | (go_at_call 20; refine (rneed_any P S R hR _ _).mono ?_; rintro e w6 ⟨rfl, hk6⟩)
      | (go_at_call 17; refine (most_yes P S R hR _).mono ?_; rintro e w6 ⟨rfl, hk6⟩)
      | (go_at_call 21; refine (rmost_any P S R hR _).mono ?_; rintro e w6 ⟨rfl, hk6⟩)
      | (go_at_call 18; refine (held_yes P S R hR _).mono ?_; rintro e w6 ⟨rfl, hk6⟩)
      | (go_at_call 22; refine (rheld_any P S R hR _).mono ?_; rintro e w6 ⟨rfl, hk6⟩))
  go_wp2
  go_ret
  refine ⟨rfl, Kp.trans hK5 ?_⟩
  (repeat (first | exact Kp.refl _ | assumption | refine Kp.alloc ?_ _ | refine Kp.drew ?_ | refine Kp.drewN ?_ _ | refine Kp.trans ?_ (by assumption)))

set_option maxHeartbeats 1600000 in
theorem tells_none (w : World) (p s r : Int) (wp : (Lit.int .i64 p).wf = true) (ws : (Lit.int .i64 s).wf = true) (wr : (Lit.int .i64 r).wf = true) (n : Int) (hR : ¬ RightG p s r) :
    Calls Try.prog 4 #[geo p s r, .int .i64 n, .bool false] w fun e w' => e = .returned (.bool true) ∧ Kp w w' := by
  have hB2 := Gbx.new w p s r
  have hK2 := Kp.one w (gob p s r)
  go_enter Try.func4, Try.ntmps4
  go_wp2_with fail
  generalize hw2 : w.alloc (gob p s r) = w2 at hB2 hK2 ⊢
  clear hw2
  generalize p = P at *
  generalize s = S at *
  generalize r = R at *
  obtain ⟨c0, c1, c2⟩ := hB2.cells
  have hG2 := hB2.cells
  go_region_held3 (fun (W : World) => W.cell? ⟨w.heap.size, 0, none⟩ = some (.int .i64 P) ∧ W.cell? ⟨w.heap.size, 1, none⟩ = some (.int .i64 S) ∧ W.cell? ⟨w.heap.size, 2, none⟩ = some (.int .i64 R))
    ((refine Gat.keep hG2 ?_; (repeat (first | exact Kp.refl _ | assumption | refine Kp.alloc ?_ _ | refine Kp.drew ?_ | refine Kp.drewN ?_ _ | refine Kp.trans ?_ (by assumption)))))
    (first
      | (go_at_call 10; refine (alive_any _).mono ?_; rintro e w3 ⟨rfl, hk3⟩)
      | (go_at_call 13; refine (right_no P S R hR _).mono ?_; rintro e w3 ⟨rfl, rfl⟩)
      | (go_at_call 14; refine (rright_no P S R hR _).mono ?_; rintro e w3 ⟨rfl, rfl⟩))
  have hG3 := hG2.keep (Kp.trans (Kp.refl w2).drew hk3)
  have hK3 : Kp w w3 := hK2.trans (Kp.trans (Kp.refl w2).drew hk3)
  have hG4 := hG3.keep (((Kp.refl w3).alloc (gob P S R)).alloc (gob P S R))
  obtain ⟨d0, d1, d2⟩ := hG4
  have hK4 := (hK3.alloc (gob P S R)).alloc (gob P S R)
  generalize (w3.alloc (gob P S R)).alloc (gob P S R) = w4 at *
  go_wp2_with fail
  refine (rright_no P S R hR _).mono ?_
  rintro e w5 ⟨rfl, rfl⟩
  have hK5 := hK4.alloc (gob P S R)
  have hG5 : Gat (w4.alloc (gob P S R)) w.heap.size P S R := Gat.keep ⟨d0, d1, d2⟩ (Kp.one _ _)
  generalize w4.alloc (gob P S R) = w5 at *
  clear hK4 hK3 hG3 hk3 d0 d1 d2 hK2
  obtain ⟨d0, d1, d2⟩ := id hG5
  go_wp2_with fail
  refine (bytes_no P S R hR _).mono ?_
  rintro e w6 ⟨rfl, rfl⟩
  have hK6 := (hK5.alloc (gob P S R)).alloc (gob P S R)
  have hG6 := hG5.keep (((Kp.refl w5).alloc (gob P S R)).alloc (gob P S R))
  generalize (w5.alloc (gob P S R)).alloc (gob P S R) = w6 at *
  clear d0 d1 d2
  obtain ⟨d0, d1, d2⟩ := id hG6
  go_wp2_with fail
  refine (room_no P S R hR _).mono ?_
  rintro e w6 ⟨rfl, rfl⟩
  have hK7 := (hK6.alloc (gob P S R)).alloc (gob P S R)
  have hG7 := hG6.keep (((Kp.refl w6).alloc (gob P S R)).alloc (gob P S R))
  generalize (w6.alloc (gob P S R)).alloc (gob P S R) = w7 at *
  clear d0 d1 d2
  obtain ⟨d0, d1, d2⟩ := id hG7
  go_wp2_with fail
  refine (slots_no P S R hR _).mono ?_
  rintro e w6 ⟨rfl, rfl⟩
  have hK8 := (hK7.alloc (gob P S R)).alloc (gob P S R)
  have hG8 := hG7.keep (((Kp.refl w7).alloc (gob P S R)).alloc (gob P S R))
  generalize (w7.alloc (gob P S R)).alloc (gob P S R) = w8 at *
  clear d0 d1 d2
  obtain ⟨d0, d1, d2⟩ := id hG8
  go_wp2_with fail
  refine (need_no P S R hR n _).mono ?_
  rintro e w9 ⟨rfl, hk9⟩
  have hK9 := hK8.trans hk9
  have hG9 := hG8.keep hk9
  clear d0 d1 d2
  obtain ⟨d0, d1, d2⟩ := id hG9
  go_wp2_with fail
  refine (most_no P S R hR _).mono ?_
  rintro e w10 ⟨rfl, hk10⟩
  have hK10 := hK9.trans hk10
  have hG10 := hG9.keep hk10
  clear d0 d1 d2
  obtain ⟨d0, d1, d2⟩ := id hG10
  go_wp2_with fail
  refine (held_no P S R hR _).mono ?_
  rintro e w11 ⟨rfl, hk11⟩
  have hK11 := hK10.trans hk11
  have hG11 := hG10.keep hk11
  clear d0 d1 d2
  obtain ⟨d0, d1, d2⟩ := id hG11
  go_wp2_with fail
  go_ret
  exact ⟨rfl, hK11⟩

set_option maxHeartbeats 1600000 in
theorem GeomTells_walk (w : World) (p s r : Int) (wp : (Lit.int .i64 p).wf = true) (ws : (Lit.int .i64 s).wf = true) (wr : (Lit.int .i64 r).wf = true) (n : Int) (wn : (Lit.int .i64 n).wf = true) (small : Bool) :
    Calls Try.prog 4 #[geo p s r, .int .i64 n, .bool small] w fun e w' => e = .returned (.bool true) ∧ Kp w w' := by
  cases small
  · by_cases hR : RightG p s r
    · exact tells_right w p s r wp ws wr n hR
    · exact tells_none w p s r wp ws wr n hR
  · exact tells_small w p s r wp ws wr n

end Go.Proofs.Ytekadonopenljaa
