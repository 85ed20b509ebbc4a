/- alive of flash's laws; plain laws of pages; FlashNew. -/
import Derived.Test.YtbclmnlggngepaaFlOk
namespace Go.Proofs.Ytbclmnlggngepaa
open Go.RowKit
set_option linter.unusedVariables false
def al0 : Dev := newD 32 3 4 ⟨#[]⟩
def al1 : Dev := (programD 32 3 4 al0 0 (fillS 0 32)).1
def al2 : Dev := crashD 32 al1 [3]
def al3 : Dev := fuseD al2 0
def al4 : Dev := (eraseD 32 3 4 al3 1).1
theorem al_a : (programD 32 3 4 al0 0 (fillS 0 32)).2 = 0 := by kernel_rfl
theorem al_b : (readD 32 3 4 al2 0).1 = fillS 0 2 ++ fillS 255 30 := by kernel_rfl
theorem al_c : (eraseD 32 3 4 al3 1).2 = 6 := by kernel_rfl
theorem al_d : al4.row.length = 3 ∧ al4.down = true := by constructor <;> kernel_rfl
theorem al_e : al1.row.length = 1 ∧ al3.row.length = 0 := by constructor <;> kernel_rfl
theorem new0_S (w : World) : Calls Try.prog 11 #[geo 32 3 4, .string ⟨#[]⟩] w fun e w' => ∃ g ib ic v, e = .returned (.tuple #[.pointer (some ⟨g, 0, none⟩), .int .i64 0]) ∧ FlS w w' g ib ic 32 3 4 al0 v :=
  new_S tinyR ⟨#[]⟩ (by decide) w
theorem fl_fill (b : Int) (n : Nat) (hn : n ≤ 1000) (w : World) : Calls Try.prog 16 #[.int .u8 b, .int .i64 (n : Int)] w fun e w' => e = .returned (.string (fillS b n)) ∧ Kp w w' := fill_nn b n (by omega) w
set_option maxRecDepth 20000 in
set_option maxHeartbeats 3200000 in
theorem falive (w : World) : Calls Try.prog 12 #[] w fun e w' => e = .returned (.bool true) ∧ Kp w w' := by
  have hF1 := Lib.hid (fun W => fl_fill 0 32 (by omega) W)
  have hF2 := Lib.hid (fun W => fl_fill 0 2 (by omega) W)
  have hF3 := Lib.hid (fun W => fl_fill 255 30 (by omega) W)
  have HB := Lib.hid al_b
  have HCAT := Lib.hid (rfl : fillS 0 2 ++ fillS 255 30 = fillS 0 2 ++ fillS 255 30)
  have hs1 : (fillS 0 2).size + (fillS 255 30).size ≤ 9223372036854775807 := by rw [fillS_size, fillS_size]; omega
  have hP := Lib.hid (fun (w W : World) g ib ic v (h : FlS w W g ib ic 32 3 4 al0 v) => show Calls _ _ _ _ (fun e w' => ∃ v', e = .returned (.int .i64 (programD 32 3 4 al0 0 (fillS 0 32)).2) ∧ FlS w w' g ib ic 32 3 4 al1 v') from prog_S h (by decide +kernel) 0 (fillS 0 32) (by rw [fillS_size]; omega))
  rw [al_a] at hP
  have hC := Lib.hid (fun (w W : World) g ib ic v (h : FlS w W g ib ic 32 3 4 al1 v) => show ∀ B, _ → Calls _ _ _ _ (fun e w' => ∃ v', e = _ ∧ FlS w w' g ib ic 32 3 4 al2 v') from crash1_S h 3 (by omega))
  have hR := Lib.hid (fun (w W : World) g ib ic v (h : FlS w W g ib ic 32 3 4 al2 v) => read_S h 0)
  rw [al_b] at hR
  have hU := Lib.hid (fun (w W : World) g ib ic v (h : FlS w W g ib ic 32 3 4 al2 v) => show Calls _ _ _ _ (fun e w' => e = _ ∧ FlS w w' g ib ic 32 3 4 al3 v) from fuse_S h 0 (by omega))
  have hE := Lib.hid (fun (w W : World) g ib ic v (h : FlS w W g ib ic 32 3 4 al3 v) => show Calls _ _ _ _ (fun e w' => ∃ v', e = .returned (.int .i64 (eraseD 32 3 4 al3 1).2) ∧ FlS w w' g ib ic 32 3 4 al4 v') from erase_S h (by rw [al_e.2]; omega) 1)
  rw [al_c] at hE
  have hN := Lib.hid (fun (w W : World) g ib ic v (h : FlS w W g ib ic 32 3 4 al4 v) => pending_S h)
  rw [al_d.1] at hN
  have hD := Lib.hid (fun (w W : World) g ib ic v (h : FlS w W g ib ic 32 3 4 al4 v) => down_S h)
  rw [al_d.2] at hD
  generalize hx0 : fillS 0 32 = x0 at *
  generalize hx1 : fillS 0 2 = x1 at *
  generalize hx2 : fillS 255 30 = x2 at *
  have hbe : ((x1 ++ x2).toList == (x1 ++ x2).toList) = true := by simp
  clear HB HCAT hx0 hx1 hx2
  go_enter Try.func12, Try.ntmps12
  go_wp2_with fail
  refine (ftiny _).mono ?_
  rintro e w1 ⟨rfl, hk1⟩
  go_wp2_with fail
  refine (new0_S _).mono ?_
  rintro e w2 ⟨g, ib, ic, v, rfl, h2⟩
  go_wp2_with fail
  refine (hF1.out _).mono ?_
  rintro e w3 ⟨rfl, hk3⟩
  go_wp2_with fail
  refine (hP.out _ _ _ _ _ _ (h2.keep hk3)).mono ?_
  rintro e w4 ⟨v4, rfl, h4⟩
  go_wp2_with fail
  refine (hC.out _ _ _ _ _ _ h4 _ rfl).mono ?_
  rintro e w5 ⟨v5, rfl, h5⟩
  go_wp2_with fail
  refine (hR.out _ _ _ _ _ _ h5).mono ?_
  rintro e w6 ⟨rfl, h6⟩
  go_wp2_with fail
  refine (hU.out _ _ _ _ _ _ h6).mono ?_
  rintro e w7 ⟨rfl, h7⟩
  go_wp2_with fail
  refine (hF2.out _).mono ?_
  rintro e w8 ⟨rfl, hk8⟩
  go_wp2_with fail
  refine (hF3.out _).mono ?_
  rintro e w9 ⟨rfl, hk9⟩
  go_wp2_with fail
  refine (hE.out _ _ _ _ _ _ (h7.keep (hk8.trans hk9))).mono ?_
  rintro e w10 ⟨v10, rfl, h10⟩
  go_wp2_with fail
  refine (hN.out _ _ _ _ _ _ h10).mono ?_
  rintro e w11 ⟨rfl, h11⟩
  go_wp2_with fail
  refine (hD.out _ _ _ _ _ _ h11).mono ?_
  rintro e w12 ⟨rfl, h12⟩
  go_wp2_with fail
  go_ret
  exact ⟨rfl, hk1.trans h12.kp⟩
end Go.Proofs.Ytbclmnlggngepaa
