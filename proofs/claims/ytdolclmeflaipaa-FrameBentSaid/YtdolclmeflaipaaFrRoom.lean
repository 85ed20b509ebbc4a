/- FrameRoom. -/
import Derived.Test.YtdolclmeflaipaaFrLaw2
namespace Go.Proofs.Ytdolclmeflaipaa
open Go.RowKit
set_option linter.unusedVariables false
set_option maxRecDepth 20000 in
set_option maxHeartbeats 3200000 in
theorem FrameRoom_walk (w : World) (p s r : Int) (wp : (Lit.int .i64 p).wf = true) (ws : (Lit.int .i64 s).wf = true) (wr : (Lit.int .i64 r).wf = true) (a : Int) (wa : (Lit.int .u32 a).wf = true) (b : Int) (wb : (Lit.int .u32 b).wf = true) (c : Int) (wc : (Lit.int .u8 c).wf = true) :
    Calls Try.prog 9 #[geo p s r, .int .u32 a, .int .u32 b, .int .u8 c] w fun e w' => e = .returned (.bool true) ∧ Kp w w' := by
  have bp := bounds_i64 wp
  have bs := bounds_i64 ws
  have br := bounds_i64 wr
  have ba := bounds_u32 wa
  have bb := bounds_u32 wb
  clear wp ws wr wa wb wc
  have hG0 := Bk.new w 23 [.int .i64 p, .int .i64 s, .int .i64 r]
  have hK0 := Kp.one w (gob p s r)
  have HGE := Lib.hid (fun w => bgeom_any p s r bp bs br w)
  have hR : RightG (32 + p % 33) (3 + s % 4) (4 + r % 4) := by unfold RightG; omega
  generalize 32 + p % 33 = P at *
  generalize 3 + s % 4 = S at *
  generalize 4 + r % 4 = N at *
  have hP : 32 ≤ P ∧ P ≤ 128 := by unfold RightG at hR; omega
  have HRO := Lib.hid (fun w => rroom_any P S N hR w)
  have HFI := Lib.hid (fun w => fill_any c (P - 15) (by omega) (by omega) w)
  have hts : ((fillS c (P - 15).toNat).size : Int) = P - 15 := by rw [fillS_size]; omega
  generalize fillS c (P - 15).toNat = t at *
  have hpg : PgOk P 2 a b t := ⟨hP.1, hP.2, by omega, by omega, ba.1, ba.2, bb.1, bb.2, by omega⟩
  have HB1 := Lib.hid (fun w => bytesR P S N 2 a b t (by omega) ba bb _ _ (fbS_ok P S N 2 a b t hR hpg) w)
  have hx9 : (t ++ ⟨#[120]⟩).size = t.size + 1 := by rw [ByteArray.size_append]; rfl
  have e2 : fbS P S N 2 a b (t ++ ⟨#[120]⟩) = (⟨#[]⟩, 4) := by
    unfold fbS
    rw [if_neg (fun h => h hR), if_neg (by omega), if_pos (by rw [hx9]; omega)]
  have HB2 := Lib.hid (fun w => bytesR P S N 2 a b (t ++ ⟨#[120]⟩) (by rw [hx9]; omega) ba bb _ _ e2 w)
  have hpsz := pageS_size hpg
  have HRD := Lib.hid (fun w => readR (pageS P 2 a b t) (by omega) _ _ (read_back hpg).1 w)
  have hcat : t.size + 1 ≤ 9223372036854775807 := by omega
  have htt : (t.toList == t.toList) = true := by simp
  clear hpg e2 hx9
  generalize pageS P 2 a b t = x at *
  obtain ⟨g0, g1, g2⟩ := hG0.c3g
  go_enter Try.func9, Try.ntmps9
  go_wp2_with fail
  refine (HGE.out _).mono ?_
  rintro e w1 ⟨rfl, hk1⟩
  have hG1 := hG0.keep hk1
  have hK1 := hK0.trans hk1
  clear g0 g1 g2 hG0 hK0 hk1
  obtain ⟨g0, g1, g2⟩ := hG1.c3g
  have u0 := hG1.free 0
  have u1 := hG1.free 1
  have u2 := hG1.free 2
  go_wp2_with fail
  obtain ⟨hG2, hK2⟩ := put3 hG1 hK1 (Nat.le_refl _) (.int .i64 P) (.int .i64 S) (.int .i64 N)
  generalize ((w1.setCell ⟨w.heap.size, 0, none⟩ (.int .i64 P)).setCell ⟨w.heap.size, 1, none⟩ (.int .i64 S)).setCell ⟨w.heap.size, 2, none⟩ (.int .i64 N) = w2 at *
  clear hG1 hK1 g0 g1 g2 u0 u1 u2
  refine (HRO.out _).mono ?_
  rintro e w3 ⟨rfl, hw3⟩
  have hk3 : Kp w2 w3 := hw3 ▸ Kp.one _ _
  clear hw3
  go_wp2_with fail
  refine (HFI.out _).mono ?_
  rintro e w4 ⟨rfl, hk4⟩
  have hG4 := (hG2.keep hk3).keep hk4
  have hK4 := (hK2.trans hk3).trans hk4
  clear hG2 hK2 hk3 hk4
  obtain ⟨g0, g1, g2⟩ := hG4.c3g
  go_wp2_with fail
  refine (HB1.out _).mono ?_
  rintro e w5 ⟨rfl, hk5⟩
  have hG5 := hG4.keep hk5
  have hK5 := hK4.trans hk5
  clear g0 g1 g2 hG4 hK4 hk5
  obtain ⟨g0, g1, g2⟩ := hG5.c3g
  go_wp2_with fail
  refine (HB2.out _).mono ?_
  rintro e w6 ⟨rfl, hk6⟩
  have hG6 := hG5.keep hk6
  have hK6 := hK5.trans hk6
  clear g0 g1 g2 hG5 hK5 hk6
  go_wp2_with fail
  refine (HRD.out _).mono ?_
  rintro e w7 ⟨rfl, hk7⟩
  have hK7 := hK6.trans hk7
  clear hG6 hK6 hk7
  have hF := Bk.new w7 26 [.int .i64 2, .int .u32 a, .int .u32 b, .string t]
  go_wp2_with fail
  refine (alive_any _).mono ?_
  rintro e w8 ⟨rfl, hk8⟩
  obtain ⟨f0, f1, f2, f3⟩ := (hF.keep hk8).c4g
  go_wp2_with fail
  go_ret
  exact ⟨ret_bool (by simp), (hK7.alloc _).trans hk8⟩
end Go.Proofs.Ytdolclmeflaipaa
