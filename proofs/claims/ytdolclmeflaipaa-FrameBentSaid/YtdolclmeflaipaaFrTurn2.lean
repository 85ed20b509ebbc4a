/- FrameTurned. -/
import Derived.Test.YtdolclmeflaipaaFrTurn
namespace Go.Proofs.Ytdolclmeflaipaa
open Go.RowKit
set_option linter.unusedVariables false
theorem sb_set (X : ByteArray) (i v : Nat) : strOfNums ((sb X).set i (v : Int)) = setB X i v := by
  unfold setB strN
  rw [sb_nb, List.map_set]
set_option maxRecDepth 20000 in
set_option maxHeartbeats 3200000 in
theorem FrameTurned_walk (w : World) (p s r : Int) (wp : (Lit.int .i64 p).wf = true) (ws : (Lit.int .i64 s).wf = true) (wr : (Lit.int .i64 r).wf = true) (k a b : Int) (t : ByteArray) (wk : (Lit.int .i64 k).wf = true) (wa : (Lit.int .u32 a).wf = true) (wb : (Lit.int .u32 b).wf = true) (wt : t.size ≤ 140737488351232) (at' : Int) (wat : (Lit.int .i64 at').wf = true) (y0 : Int) (wy : (Lit.int .u8 y0).wf = true) :
    Calls Try.prog 7 #[geo p s r, frv k a b t, .int .i64 at', .int .u8 y0] w fun e w' => e = .returned (.bool true) ∧ Kp w w' := by
  have bp := bounds_i64 wp
  have bs := bounds_i64 ws
  have br := bounds_i64 wr
  have bk := bounds_i64 wk
  have ba := bounds_u32 wa
  have bb := bounds_u32 wb
  have bat := bounds_i64 wat
  have by0 := bounds_u8 wy
  clear wp ws wr wk wa wb wat wy
  have hG0 := (Bk.new w 23 [.int .i64 p, .int .i64 s, .int .i64 r]).alloc (fob k a b t)
  have hF0 : Bk ((w.alloc (gob p s r)).alloc (fob k a b t)) (w.heap.size + 1) 26 [.int .i64 k, .int .u32 a, .int .u32 b, .string t] := by
    have := Bk.new (w.alloc (gob p s r)) 26 [.int .i64 k, .int .u32 a, .int .u32 b, .string t]
    simpa using this
  have hK0 := (Kp.one w (gob p s r)).alloc (fob k a b t)
  have HGE := Lib.hid (fun w => bgeom_any p s r bp bs br w)
  have hR : RightG (32 + p % 33) (3 + s % 4) (4 + r % 4) := by unfold RightG; omega
  generalize 32 + p % 33 = P at *
  generalize 3 + s % 4 = S at *
  generalize 4 + r % 4 = N at *
  have hP : 32 ≤ P ∧ P ≤ 128 := by unfold RightG at hR; omega
  have HS := Lib.hid (fun w => shaped_any P S N hR k a b t bk (by omega) w)
  have hpg : PgOk P (1 + k % 4) a b (cutF P t) := cut_ok hP ba bb
  have hct : (cutF P t).size ≤ 9223372036854775807 := by have := hpg.room; omega
  have HB1 := Lib.hid (fun w => bytesR P S N (1 + k % 4) a b (cutF P t) hct ba bb _ _ (fbS_ok P S N _ a b _ hR hpg) w)
  have hpsz := pageS_size hpg
  obtain ⟨y, hy, hyc⟩ : ∃ y : Nat, (y < 256 ∧ y ≠ 0) ∧ ((y0 = 0 ∧ y = 1) ∨ (y0 ≠ 0 ∧ y0 = y)) := by
    by_cases h0 : y0 = 0
    · exact ⟨1, by omega, Or.inl ⟨h0, rfl⟩⟩
    · exact ⟨y0.toNat, by omega, Or.inr ⟨h0, by omega⟩⟩
  have hno := fun i hi => turned_no hpg i hi y hy.1 hy.2
  generalize pageS P (1 + k % 4) a b (cutF P t) = X at *
  generalize 1 + k % 4 = k' at *
  generalize cutF P t = t' at *
  clear hpg hct
  have hI0 : 0 ≤ at' % P ∧ at' % P < P := ⟨Int.emod_nonneg _ (by omega), Int.emod_lt_of_pos _ (by omega)⟩
  have HPK := Lib.hid (fun w => pick_any at' P (by omega) (by omega) bat.1 bat.2 w)
  generalize at' % P = I at *
  have HRD := Lib.hid (fun w => show Calls _ _ _ w (fun e w' => e = .returned (.tuple #[frv 0 0 0 ⟨#[]⟩, .int .i64 5]) ∧ Kp w w') from readR (setB X I.toNat (byteAt X I.toNat ^^^ y)) (by rw [setB_size]; omega) _ _ (hno I.toNat (by omega)) w)
  have hszb : ((X.size : Int) != P) = false := by simpa using hpsz
  have hPP : (P != P) = false := by simp
  have hxb := byteAt_lt X I.toNat
  have HX := Lib.hid (u8_xor_nat _ _ hxb hy.1)
  have hil : I.toNat < (sb X).length := by rw [sb_len]; omega
  have HBX : Hid (∀ (W : World) gg (h : By W gg (sb X)), W.cell? ⟨gg, I.toNat, none⟩ = some (.int .u8 (byteAt X I.toNat : Nat)) ∧ W.frozen? ⟨gg, I.toNat, none⟩ = false) := Lib.hid (by
    intro W gg h
    refine ⟨?_, h.free _ hil⟩
    rw [h.cell _ hil]
    have hil2 : I.toNat < (nb X).length := by rw [nb_len]; omega
    unfold byteAt
    simp only [sb_nb, List.getElem_map]
    rw [List.getD_eq_getElem?_getD, List.getElem?_eq_getElem hil2]
    rfl)
  have HBP : Hid (∀ (W : World) gg c (h : By W gg (sb X)), (convert 43 9 (.slice (some ⟨gg, 0, none⟩) X.size c)).run Try.prog (W.setCell ⟨gg, I.toNat, none⟩ (.int .u8 ((byteAt X I.toNat ^^^ y : Nat) : Int))) = .ok (.string (setB X I.toNat (byteAt X I.toNat ^^^ y))) (W.setCell ⟨gg, I.toNat, none⟩ (.int .u8 ((byteAt X I.toNat ^^^ y : Nat) : Int)))) := Lib.hid (by
    intro W gg c h
    have := (h.put I.toNat hil ((byteAt X I.toNat ^^^ y : Nat) : Int)).conv (n := X.size) (c := c) (by rw [List.length_set, sb_len])
    rw [sb_set] at this
    exact this)
  clear hno hil hxb
  generalize setB X I.toNat (byteAt X I.toNat ^^^ y) = Z at *
  generalize byteAt X I.toNat = xb at *
  have hx64 : X.size ≤ 9223372036854775807 := by omega
  obtain ⟨g0, g1, g2⟩ := hG0.c3g
  rcases hyc with ⟨hz, rfl⟩ | ⟨hz, rfl⟩
  · subst hz
    go_enter Try.func7, Try.ntmps7
    go_wp2_with fail
    refine (HGE.out _).mono ?_
    rintro e w1 ⟨rfl, hk1⟩
    have hG1 := hG0.keep hk1
    have hF1 := hF0.keep hk1
    have hK1 := hK0.trans hk1
    clear g0 g1 g2 hG0 hF0 hK0 hk1
    obtain ⟨g0, g1, g2⟩ := hG1.c3g
    have u0 := hG1.free 0
    have u1 := hG1.free 1
    have u2 := hG1.free 2
    go_wp2_with fail
    obtain ⟨hG2, hK2⟩ := put3 hG1 hK1 (Nat.le_refl _) (.int .i64 P) (.int .i64 S) (.int .i64 N)
    have hF2 := far3 hF1 (show w.heap.size + 1 ≠ w.heap.size by omega) (.int .i64 P) (.int .i64 S) (.int .i64 N)
    generalize ((w1.setCell ⟨w.heap.size, 0, none⟩ (.int .i64 P)).setCell ⟨w.heap.size, 1, none⟩ (.int .i64 S)).setCell ⟨w.heap.size, 2, none⟩ (.int .i64 N) = w2 at *
    clear hG1 hK1 hF1 g0 g1 g2 u0 u1 u2
    have HC := Lib.hid (fun W (hh : Kp w2 W) => And.intro ((hG2.keep hh).c3g) ((hF2.keep hh).c4g))
    have hInh := fun (x v : Value) => (⟨fun h => h _ ((Kp.refl w2).drew), fun h _ _ => h⟩ : (∀ Wz9, (fun W => Kp w2 W) Wz9 → x = v) ↔ x = v)
    dsimp only at hInh
    refine wp_region_quietC (C := fun W => Kp w2 W) (by kernel_rfl) (by kernel_rfl) ((Kp.refl w2).drew) ?_
    repeat (first | go_big_quiet_step ((intro hW; first | (first | (go_at_call 20; refine (HS.out _).mono ?_; rintro e w' ⟨rfl, hk9⟩; exact ⟨rfl, hW.trans hk9⟩) | (go_at_call 12; refine (HB1.out _).mono ?_; rintro e w' ⟨rfl, hk9⟩; exact ⟨rfl, hW.trans hk9⟩)) | (with_reducible rfl) | (obtain ⟨⟨g0, g1, g2⟩, f0, f1, f2, f3⟩ := HC.out _ hW; (try go_simp); first | done | with_reducible rfl | exact ⟨rfl, rfl⟩))) | quiet_step ((intro hW; first | (first | (go_at_call 20; refine (HS.out _).mono ?_; rintro e w' ⟨rfl, hk9⟩; exact ⟨rfl, hW.trans hk9⟩) | (go_at_call 12; refine (HB1.out _).mono ?_; rintro e w' ⟨rfl, hk9⟩; exact ⟨rfl, hW.trans hk9⟩)) | (with_reducible rfl) | (obtain ⟨⟨g0, g1, g2⟩, f0, f1, f2, f3⟩ := HC.out _ hW; (try go_simp); first | done | with_reducible rfl | exact ⟨rfl, rfl⟩))))
    refine wpQuiet_nil ?_
    intro wq hwq
    clear hInh
    go_wp2_with fail
    refine (alive_any _).mono ?_
    rintro e w4 ⟨rfl, hk4⟩
    have hk24 := hwq.trans hk4
    obtain ⟨⟨g0, g1, g2⟩, f0, f1, f2, f3⟩ := HC.out _ hk24
    obtain ⟨W1, c, hcv, hbb, hkb, hsz⟩ := bytes_of w4 X 9 Try.underlying9
    have hK4 := Lib.hid ((hK2.trans hk24).trans hkb)
    have hsz4 := (hK2.trans hk24).size
    obtain ⟨hx1, hf1⟩ := HBX.out _ _ hbb
    have hcv2 := HBP.out _ _ c hbb
    have HKF := Lib.hid (hK4.out.set (p := ⟨w4.heap.size, I.toNat, none⟩) hsz4 (.int .u8 ((xb ^^^ 1 : Nat) : Int)))
    clear hbb hkb hk24 hG2 hF2 hK2 HC hwq hk4 hsz4
    go_wp2_with fail
    refine (HPK.out _).mono ?_
    rintro e w5 ⟨rfl, rfl⟩
    go_wp2_with fail
    rw [show bits .xor .u8 (xb : Int) 1 = ((xb ^^^ 1 : Nat) : Int) from HX.out]
    rw [hcv2]
    go_wp2_with fail
    refine (HRD.out _).mono ?_
    rintro e w6 ⟨rfl, hk6⟩
    go_wp2_with fail
    go_ret
    exact ⟨ret_bool (by simp), (HKF.out.trans hk6).alloc _⟩
  · have hd0 : ((y : Int) == 0) = false := by simpa using hz
    go_enter Try.func7, Try.ntmps7
    go_wp2_with fail
    refine (HGE.out _).mono ?_
    rintro e w1 ⟨rfl, hk1⟩
    have hG1 := hG0.keep hk1
    have hF1 := hF0.keep hk1
    have hK1 := hK0.trans hk1
    clear g0 g1 g2 hG0 hF0 hK0 hk1
    obtain ⟨g0, g1, g2⟩ := hG1.c3g
    have u0 := hG1.free 0
    have u1 := hG1.free 1
    have u2 := hG1.free 2
    go_wp2_with fail
    obtain ⟨hG2, hK2⟩ := put3 hG1 hK1 (Nat.le_refl _) (.int .i64 P) (.int .i64 S) (.int .i64 N)
    have hF2 := far3 hF1 (show w.heap.size + 1 ≠ w.heap.size by omega) (.int .i64 P) (.int .i64 S) (.int .i64 N)
    generalize ((w1.setCell ⟨w.heap.size, 0, none⟩ (.int .i64 P)).setCell ⟨w.heap.size, 1, none⟩ (.int .i64 S)).setCell ⟨w.heap.size, 2, none⟩ (.int .i64 N) = w2 at *
    clear hG1 hK1 hF1 g0 g1 g2 u0 u1 u2
    have HC := Lib.hid (fun W (hh : Kp w2 W) => And.intro ((hG2.keep hh).c3g) ((hF2.keep hh).c4g))
    have hInh := fun (x v : Value) => (⟨fun h => h _ ((Kp.refl w2).drew), fun h _ _ => h⟩ : (∀ Wz9, (fun W => Kp w2 W) Wz9 → x = v) ↔ x = v)
    dsimp only at hInh
    refine wp_region_quietC (C := fun W => Kp w2 W) (by kernel_rfl) (by kernel_rfl) ((Kp.refl w2).drew) ?_
    repeat (first | go_big_quiet_step ((intro hW; first | (first | (go_at_call 20; refine (HS.out _).mono ?_; rintro e w' ⟨rfl, hk9⟩; exact ⟨rfl, hW.trans hk9⟩) | (go_at_call 12; refine (HB1.out _).mono ?_; rintro e w' ⟨rfl, hk9⟩; exact ⟨rfl, hW.trans hk9⟩)) | (with_reducible rfl) | (obtain ⟨⟨g0, g1, g2⟩, f0, f1, f2, f3⟩ := HC.out _ hW; (try go_simp); first | done | with_reducible rfl | exact ⟨rfl, rfl⟩))) | quiet_step ((intro hW; first | (first | (go_at_call 20; refine (HS.out _).mono ?_; rintro e w' ⟨rfl, hk9⟩; exact ⟨rfl, hW.trans hk9⟩) | (go_at_call 12; refine (HB1.out _).mono ?_; rintro e w' ⟨rfl, hk9⟩; exact ⟨rfl, hW.trans hk9⟩)) | (with_reducible rfl) | (obtain ⟨⟨g0, g1, g2⟩, f0, f1, f2, f3⟩ := HC.out _ hW; (try go_simp); first | done | with_reducible rfl | exact ⟨rfl, rfl⟩))))
    refine wpQuiet_nil ?_
    intro wq hwq
    clear hInh
    go_wp2_with fail
    refine (alive_any _).mono ?_
    rintro e w4 ⟨rfl, hk4⟩
    have hk24 := hwq.trans hk4
    obtain ⟨⟨g0, g1, g2⟩, f0, f1, f2, f3⟩ := HC.out _ hk24
    obtain ⟨W1, c, hcv, hbb, hkb, hsz⟩ := bytes_of w4 X 9 Try.underlying9
    have hK4 := Lib.hid ((hK2.trans hk24).trans hkb)
    have hsz4 := (hK2.trans hk24).size
    obtain ⟨hx1, hf1⟩ := HBX.out _ _ hbb
    have hcv2 := HBP.out _ _ c hbb
    have HKF := Lib.hid (hK4.out.set (p := ⟨w4.heap.size, I.toNat, none⟩) hsz4 (.int .u8 ((xb ^^^ y : Nat) : Int)))
    clear hbb hkb hk24 hG2 hF2 hK2 HC hwq hk4 hsz4
    go_wp2_with fail
    refine (HPK.out _).mono ?_
    rintro e w5 ⟨rfl, rfl⟩
    go_wp2_with fail
    rw [HX.out]
    rw [hcv2]
    go_wp2_with fail
    refine (HRD.out _).mono ?_
    rintro e w6 ⟨rfl, hk6⟩
    go_wp2_with fail
    go_ret
    exact ⟨ret_bool (by simp), (HKF.out.trans hk6).alloc _⟩
end Go.Proofs.Ytdolclmeflaipaa
