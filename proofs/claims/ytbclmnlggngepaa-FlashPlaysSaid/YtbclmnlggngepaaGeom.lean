/- The contracts of package geom, of the reference's sizes, and of cachepotbook.Geom, Pick. -/
import Derived.Test.YtbclmnlggngepaaPick
import Derived.Deep.RegionHeld3
namespace Go.Proofs.Ytbclmnlggngepaa
open Go.RowKit
set_option linter.unusedVariables false

set_option maxHeartbeats 400000 in
theorem bgeom_any (p s r : Int) (hp : -9223372036854775808 ≤ p ∧ p ≤ 9223372036854775807) (hs : -9223372036854775808 ≤ s ∧ s ≤ 9223372036854775807) (hr : -9223372036854775808 ≤ r ∧ r ≤ 9223372036854775807) (w : World) :
    Calls Try.prog 10 #[.agg #[.int .i64 p, .int .i64 s, .int .i64 r]] w fun e w' => e = .returned (.agg #[.int .i64 (32 + p % 33), .int .i64 (3 + s % 4), .int .i64 (4 + r % 4)]) ∧ Kp w w' := by
  have e1 : IntKind.i64.wrap (32 + p % 33) = 32 + p % 33 := IntWalk.i64_in _ (by omega)
  have e2 : IntKind.i64.wrap (3 + s % 4) = 3 + s % 4 := IntWalk.i64_in _ (by omega)
  have e3 : IntKind.i64.wrap (4 + r % 4) = 4 + r % 4 := IntWalk.i64_in _ (by omega)
  go_enter Try.func10, Try.ntmps10
  go_wp2_with fail
  go_region_held3 (fun (W : World) => W.cell? ⟨w.heap.size, 0, none⟩ = some (.int .i64 p) ∧ W.cell? ⟨w.heap.size, 1, none⟩ = some (.int .i64 s) ∧ W.cell? ⟨w.heap.size, 2, none⟩ = some (.int .i64 r)) (go_keep)
    (first
      | (go_at_call 27; refine (pick_any _ _ (by omega) (by omega) (by omega) (by omega) _).mono ?_; rintro e w' ⟨rfl, rfl⟩))
  go_wp2
  refine bodyPost_ret (v := .agg #[.int .i64 (32 + p % 33), .int .i64 (3 + s % 4), .int .i64 (4 + r % 4)]) (by simp [results, Try.results10, go_sem]) rfl ⟨rfl, ?_⟩
  repeat (first | exact Kp.refl _ | refine Kp.alloc ?_ _ | refine Kp.drew ?_)

abbrev geo (p s r : Int) : Value := .agg #[.int .i64 p, .int .i64 s, .int .i64 r]
/-- A geom that may be. -/
def RightG (p s r : Int) : Prop := 32 ≤ p ∧ p ≤ 128 ∧ 3 ≤ s ∧ s ≤ 10 ∧ 4 ≤ r ∧ r ≤ 12

/-- A geom's box. -/
abbrev gob (p s r : Int) : Obj := .cells #[.int .i64 p, .int .i64 s, .int .i64 r] 23
theorem notRight {p s r : Int} (h : ¬ RightG p s r) : p < 32 ∨ (32 ≤ p ∧ 128 < p) ∨ (32 ≤ p ∧ p ≤ 128 ∧ s < 3) ∨ (32 ≤ p ∧ p ≤ 128 ∧ 3 ≤ s ∧ 10 < s) ∨ (32 ≤ p ∧ p ≤ 128 ∧ 3 ≤ s ∧ s ≤ 10 ∧ r < 4) ∨ (32 ≤ p ∧ p ≤ 128 ∧ 3 ≤ s ∧ s ≤ 10 ∧ 4 ≤ r ∧ 12 < r) := by
  unfold RightG at h; omega

set_option maxHeartbeats 400000 in
theorem right_yes (p s r : Int) (h : RightG p s r) (w : World) :
    Calls Try.prog 34 #[geo p s r] w fun e w' => e = .returned (.bool true) ∧ w.alloc (gob p s r) = w' := by
  obtain ⟨h1, h2, h3, h4, h5, h6⟩ := h
  go_enter Try.func34, Try.ntmps34
  go_wp2
  go_ret
  exact ⟨rfl, rfl⟩

set_option maxHeartbeats 800000 in
theorem right_no (p s r : Int) (h : ¬ RightG p s r) (w : World) :
    Calls Try.prog 34 #[geo p s r] w fun e w' => e = .returned (.bool false) ∧ w.alloc (gob p s r) = w' := by
  have h' := notRight h
  clear h
  rcases h' with h1 | ⟨h1, h2⟩ | ⟨h1, h2, h3⟩ | ⟨h1, h2, h3, h4⟩ | ⟨h1, h2, h3, h4, h5⟩ | ⟨h1, h2, h3, h4, h5, h6⟩
  all_goals
    go_enter Try.func34, Try.ntmps34
    go_wp2
    go_ret
    first | exact ⟨rfl, rfl⟩ | exact ⟨ret_bool (by simp; omega), rfl⟩

set_option maxHeartbeats 400000 in
theorem rright_yes (p s r : Int) (h : RightG p s r) (w : World) :
    Calls Try.prog 13 #[geo p s r] w fun e w' => e = .returned (.bool true) ∧ w.alloc (gob p s r) = w' := by
  obtain ⟨h1, h2, h3, h4, h5, h6⟩ := h
  go_enter Try.func13, Try.ntmps13
  go_wp2
  go_ret
  exact ⟨rfl, rfl⟩

set_option maxHeartbeats 800000 in
theorem rright_no (p s r : Int) (h : ¬ RightG p s r) (w : World) :
    Calls Try.prog 13 #[geo p s r] w fun e w' => e = .returned (.bool false) ∧ w.alloc (gob p s r) = w' := by
  have h' := notRight h
  clear h
  rcases h' with h1 | ⟨h1, h2⟩ | ⟨h1, h2, h3⟩ | ⟨h1, h2, h3, h4⟩ | ⟨h1, h2, h3, h4, h5⟩ | ⟨h1, h2, h3, h4, h5, h6⟩
  all_goals
    go_enter Try.func13, Try.ntmps13
    go_wp2
    go_ret
    first | exact ⟨rfl, rfl⟩ | exact ⟨ret_bool (by simp; omega), rfl⟩

theorem mul3 {p s r : Int} (h : RightG p s r) : 0 ≤ p * s ∧ p * s ≤ 1280 ∧ 0 ≤ p * s * r ∧ p * s * r ≤ 15360 := by
  obtain ⟨h1, h2, h3, h4, h5, h6⟩ := h
  have a1 : 0 ≤ p * s := Int.mul_nonneg (by omega) (by omega)
  have a2 : p * s ≤ 128 * 10 := Int.mul_le_mul h2 h4 (by omega) (by omega)
  exact ⟨a1, by omega, Int.mul_nonneg a1 (by omega), Int.le_trans (Int.mul_le_mul a2 h6 (by omega) (by omega)) (by omega)⟩
theorem mul2 {a b : Int} (ha : 0 ≤ a) (ha2 : a ≤ 200) (hb : 0 ≤ b) (hb2 : b ≤ 200) : 0 ≤ a * b ∧ a * b ≤ 40000 :=
  ⟨Int.mul_nonneg ha hb, Int.le_trans (Int.mul_le_mul ha2 hb2 hb (by omega)) (by omega)⟩




set_option maxHeartbeats 400000 in
theorem bytes_yes (p s r : Int) (h : RightG p s r) (w : World) :
    Calls Try.prog 35 #[geo p s r] w fun e w' => e = .returned (.int .i64 (p * s * r)) ∧ (w.alloc (gob p s r)).alloc (gob p s r) = w' := by
  obtain ⟨h1, h2, h3, h4, h5, h6⟩ := id h
  obtain ⟨m1, m2, m3, m4⟩ := mul3 h
  go_enter Try.func35, Try.ntmps35
  go_wp2_with fail
  refine (right_yes p s r h _).mono ?_
  rintro e w' ⟨rfl, rfl⟩
  go_wp2_with fail
  go_ret
  exact ⟨rfl, rfl⟩

set_option maxHeartbeats 400000 in
theorem bytes_no (p s r : Int) (h : ¬ RightG p s r) (w : World) :
    Calls Try.prog 35 #[geo p s r] w fun e w' => e = .returned (.int .i64 0) ∧ (w.alloc (gob p s r)).alloc (gob p s r) = w' := by
  go_enter Try.func35, Try.ntmps35
  go_wp2_with fail
  refine (right_no p s r h _).mono ?_
  rintro e w' ⟨rfl, rfl⟩
  go_wp2_with fail
  go_ret
  exact ⟨rfl, rfl⟩

/-- A geom's cells. -/
def Gat (w : World) (g : Nat) (p s r : Int) : Prop := w.cell? ⟨g, 0, none⟩ = some (.int .i64 p) ∧ w.cell? ⟨g, 1, none⟩ = some (.int .i64 s) ∧ w.cell? ⟨g, 2, none⟩ = some (.int .i64 r)
theorem Gat.keep {w w' : World} {g : Nat} {p s r : Int} (h : Gat w g p s r) (k : Kp w w') : Gat w' g p s r := ⟨k.cell h.1, k.cell h.2.1, k.cell h.2.2⟩
/-- A geom's box: its cells, none of them frozen. -/
def Gbx (w : World) (g : Nat) (p s r : Int) : Prop := Bk w g 23 [.int .i64 p, .int .i64 s, .int .i64 r]
theorem Gbx.new (w : World) (p s r : Int) : Gbx (w.alloc (gob p s r)) w.heap.size p s r := Bk.new w _ _
theorem Gbx.keep {w w' : World} {g : Nat} {p s r : Int} (h : Gbx w g p s r) (k : Kp w w') : Gbx w' g p s r := Bk.keep h k
theorem Gbx.cells {w : World} {g : Nat} {p s r : Int} (h : Gbx w g p s r) : Gat w g p s r := ⟨Bk.cell h 0, Bk.cell h 1, Bk.cell h 2⟩
theorem Gbx.free {w : World} {g : Nat} {p s r : Int} (h : Gbx w g p s r) : w.frozen? ⟨g, 0, none⟩ = false ∧ w.frozen? ⟨g, 1, none⟩ = false ∧ w.frozen? ⟨g, 2, none⟩ = false := ⟨Bk.free h 0, Bk.free h 1, Bk.free h 2⟩
theorem Gbx.put {w : World} {g : Nat} {p s r p' s' r' : Int} (h : Gbx w g p s r) :
    Gbx (((w.setCell ⟨g, 0, none⟩ (.int .i64 p')).setCell ⟨g, 1, none⟩ (.int .i64 s')).setCell ⟨g, 2, none⟩ (.int .i64 r')) g p' s' r' := ((Bk.put h 0 _).put 1 _).put 2 _
theorem Gat.new (w : World) (p s r : Int) : Gat (w.alloc (gob p s r)) w.heap.size p s r := by
  refine ⟨?_, ?_, ?_⟩ <;> (rw [World.cell?_alloc_at _ _ _ _ rfl]; rfl)





/-- How many pages are needed. -/
def needZ (p n : Int) : Int := if n ≤ 0 then 2 else if n ≤ 1048576 then (n + (p - 15) - 1) / (p - 15) + 1 else (1048576 + (p - 15) - 1) / (p - 15) + 1
theorem need_div (a b : Int) (hb : 1 ≤ b) (hb2 : b ≤ 113) (ha : 0 ≤ a) (ha2 : a ≤ 1048576) : 0 ≤ a + b - 1 ∧ (a + b - 1).tdiv b = (a + b - 1) / b ∧ 0 ≤ (a + b - 1) / b ∧ (a + b - 1) / b ≤ 1048700 := by
  have h0 : 0 ≤ a + b - 1 := by omega
  refine ⟨h0, Int.tdiv_eq_ediv_of_nonneg h0, Int.ediv_nonneg h0 (by omega), Int.le_trans (Int.ediv_le_self _ h0) (by omega)⟩
theorem div_pos1 (a b : Int) (hb : 1 ≤ b) (ha : 1 ≤ a) : 1 ≤ (a + b - 1) / b := by
  rw [Int.le_ediv_iff_mul_le (by omega)]; omega




/-- A page's number. -/
theorem page_lt {p s r a b : Int} (h : RightG p s r) (ha : 0 ≤ a) (ha2 : a < r) (hb : 0 ≤ b) (hb2 : b < s) : 0 ≤ a * s ∧ a * s ≤ 120 ∧ a * s + b < s * r := by
  obtain ⟨h1, h2, h3, h4, h5, h6⟩ := h
  have := Int.mul_le_mul (show a ≤ r - 1 by omega) (Int.le_refl s) (by omega) (by omega)
  have e : (r - 1) * s = s * r - s := by rw [Int.sub_mul, Int.one_mul, Int.mul_comm]
  have m := mul2 (a := a) (b := s) (by omega) (by omega) (by omega) (by omega)
  have : a * s ≤ 12 * 10 := Int.mul_le_mul (by omega) h4 (by omega) (by omega)
  omega


end Go.Proofs.Ytbclmnlggngepaa
