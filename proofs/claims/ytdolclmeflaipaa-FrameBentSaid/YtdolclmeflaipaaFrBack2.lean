/- FrameBack. -/
import Derived.Test.YtdolclmeflaipaaFrBack
namespace Go.Proofs.Ytdolclmeflaipaa
open Go.RowKit
set_option linter.unusedVariables false
theorem cut_ok {P k a b : Int} {t : ByteArray} (hP : 32 ≤ P ∧ P ≤ 128) (ha : 0 ≤ a ∧ a ≤ 4294967295) (hb : 0 ≤ b ∧ b ≤ 4294967295) : PgOk P (1 + k % 4) a b (cutF P t) := by
  refine ⟨hP.1, hP.2, by omega, by omega, ha.1, ha.2, hb.1, hb.2, ?_⟩
  unfold cutF
  have : (t.extract 0 (P - 15).toNat).size ≤ (P - 15).toNat := by rw [ByteArray.size_extract]; omega
  omega
set_option maxRecDepth 20000 in
set_option maxHeartbeats 3200000 in
theorem FrameBack_walk (w : World) (p s r : Int) (wp : (Lit.int .i64 p).wf = true) (ws : (Lit.int .i64 s).wf = true) (wr : (Lit.int .i64 r).wf = true) (k a b : Int) (t : ByteArray) (wk : (Lit.int .i64 k).wf = true) (wa : (Lit.int .u32 a).wf = true) (wb : (Lit.int .u32 b).wf = true) (wt : t.size ≤ 140737488351232) :
    Calls Try.prog 5 #[geo p s r, frv k a b t] w fun e w' => e = .returned (.bool true) ∧ Kp w w' := by
  have bp := bounds_i64 wp
  have bs := bounds_i64 ws
  have br := bounds_i64 wr
  have bk := bounds_i64 wk
  have ba := bounds_u32 wa
  have bb := bounds_u32 wb
  clear wp ws wr wk wa wb
  have hG0 := (Bk.new w 23 [.int .i64 p, .int .i64 s, .int .i64 r]).alloc (fob k a b t)
  have hF0 : Bk ((w.alloc (gob p s r)).alloc (fob k a b t)) (w.heap.size + 1) 26 [.int .i64 k, .int .u32 a, .int .u32 b, .string t] := by
    have := Bk.new (w.alloc (gob p s r)) 26 [.int .i64 k, .int .u32 a, .int .u32 b, .string t]
    simpa using this
  have hK0 := (Kp.one w (gob p s r)).alloc (fob k a b t)
  have HGE := Lib.hid (fun w => bgeom_any p s r bp bs br w)
  have hR : RightG (32 + p % 33) (3 + s % 4) (4 + r % 4) := by unfold RightG; omega
  generalize 32 + p % 33 = P at *
  generalize 3 + s % 4 = S at *
  generalize 4 + r % 4 = N at *
  have hP : 32 ≤ P ∧ P ≤ 128 := by unfold RightG at hR; omega
  have HS := Lib.hid (fun w => shaped_any P S N hR k a b t bk (by omega) w)
  have hpg : PgOk P (1 + k % 4) a b (cutF P t) := cut_ok hP ba bb
  have hct : (cutF P t).size ≤ 9223372036854775807 := by have := hpg.room; omega
  have HB1 := Lib.hid (fun w => bytesR P S N (1 + k % 4) a b (cutF P t) hct ba bb _ _ (fbS_ok P S N _ a b _ hR hpg) w)
  have hpsz := pageS_size hpg
  have hrb := read_back hpg
  have HRD := Lib.hid (fun w => readR (pageS P (1 + k % 4) a b (cutF P t)) (by omega) _ _ hrb.1 w)
  have HBL := Lib.hid (fun w => blank_any (pageS P (1 + k % 4) a b (cutF P t)) (by omega) w)
  rw [hrb.2] at HBL
  have hszb : (((pageS P (1 + k % 4) a b (cutF P t)).size : Int) == P) = true := by simpa using hpsz
  clear hpg hct hrb
  generalize pageS P (1 + k % 4) a b (cutF P t) = x at *
  generalize 1 + k % 4 = k' at *
  generalize cutF P t = t' at *
  have htt : (t'.toList == t'.toList) = true := by simp
  obtain ⟨g0, g1, g2⟩ := hG0.c3g
  go_enter Try.func5, Try.ntmps5
  go_wp2_with fail
  refine (HGE.out _).mono ?_
  rintro e w1 ⟨rfl, hk1⟩
  have hG1 := hG0.keep hk1
  have hF1 := hF0.keep hk1
  have hK1 := hK0.trans hk1
  clear g0 g1 g2 hG0 hF0 hK0 hk1
  obtain ⟨g0, g1, g2⟩ := hG1.c3g
  obtain ⟨f0, f1, f2, f3⟩ := hF1.c4g
  have u0 := hG1.free 0
  have u1 := hG1.free 1
  have u2 := hG1.free 2
  go_wp2_with fail
  obtain ⟨hG2, hK2⟩ := put3 hG1 hK1 (Nat.le_refl _) (.int .i64 P) (.int .i64 S) (.int .i64 N)
  have hF2 := far3 hF1 (show w.heap.size + 1 ≠ w.heap.size by omega) (.int .i64 P) (.int .i64 S) (.int .i64 N)
  generalize ((w1.setCell ⟨w.heap.size, 0, none⟩ (.int .i64 P)).setCell ⟨w.heap.size, 1, none⟩ (.int .i64 S)).setCell ⟨w.heap.size, 2, none⟩ (.int .i64 N) = w2 at *
  clear hG1 hK1 hF1 g0 g1 g2 u0 u1 u2 f0 f1 f2 f3
  refine (HS.out _).mono ?_
  rintro e w3 ⟨rfl, hk3⟩
  have hG3 := hG2.keep hk3
  have hF3 := hF2.keep hk3
  have hK3 := hK2.trans hk3
  clear hG2 hF2 hK2 hk3
  obtain ⟨g0, g1, g2⟩ := hG3.c3g
  obtain ⟨f0, f1, f2, f3⟩ := hF3.c4g
  have u0 := hF3.free 0
  have u1 := hF3.free 1
  have u2 := hF3.free 2
  have u3 := hF3.free 3
  obtain ⟨hF4, hK4⟩ := put4 hF3 hK3 (show w.heap.size ≤ w.heap.size + 1 by omega) (.int .i64 k') (.int .u32 a) (.int .u32 b) (.string t')
  have hG4 := far4 hG3 (show w.heap.size ≠ w.heap.size + 1 by omega) (.int .i64 k') (.int .u32 a) (.int .u32 b) (.string t')
  go_wp2_with fail
  clear hG3 hF3 hK3 g0 g1 g2 f0 f1 f2 f3 u0 u1 u2 u3
  generalize (((w3.setCell ⟨w.heap.size + 1, 0, none⟩ (.int .i64 k')).setCell ⟨w.heap.size + 1, 1, none⟩ (.int .u32 a)).setCell ⟨w.heap.size + 1, 2, none⟩ (.int .u32 b)).setCell ⟨w.heap.size + 1, 3, none⟩ (.string t') = w4 at *
  refine (HB1.out _).mono ?_
  rintro e w5 ⟨rfl, hk5⟩
  have hG5 := hG4.keep hk5
  have hF5 := hF4.keep hk5
  have hK5 := hK4.trans hk5
  clear hG4 hF4 hK4 hk5
  go_wp2_with fail
  refine (HRD.out _).mono ?_
  rintro e w6 ⟨rfl, hk6⟩
  have hG6 := hG5.keep hk6
  have hF6 := hF5.keep hk6
  have hK6 := hK5.trans hk6
  clear hG5 hF5 hK5 hk6
  have hH := Bk.new w6 26 [.int .i64 k', .int .u32 a, .int .u32 b, .string t']
  go_wp2_with fail
  refine (alive_any _).mono ?_
  rintro e w7 ⟨rfl, hk7⟩
  obtain ⟨h0, h1, h2, h3⟩ := (hH.keep hk7).c4g
  obtain ⟨g0, g1, g2⟩ := ((hG6.alloc (fob k' a b t')).keep hk7).c3g
  obtain ⟨f0, f1, f2, f3⟩ := ((hF6.alloc (fob k' a b t')).keep hk7).c4g
  go_wp2_with fail
  refine (HBL.out _).mono ?_
  rintro e w8 ⟨rfl, rfl⟩
  go_wp2_with fail
  go_ret
  exact ⟨ret_bool (by simp), (hK6.alloc _).trans hk7⟩
end Go.Proofs.Ytdolclmeflaipaa
