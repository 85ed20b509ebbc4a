/- FrameTorn. -/
import Derived.Test.YtdolclmeflaipaaFrTorn
namespace Go.Proofs.Ytdolclmeflaipaa
open Go.RowKit
set_option linter.unusedVariables false
theorem beq_bytes8 (a b : ByteArray) : (a.toList == b.toList) = decide (a = b) := by
  rw [Bool.eq_iff_iff]
  simp only [beq_iff_eq, decide_eq_true_eq, ByteArray.toList_eq]
  exact ⟨fun h => ByteArray.ext (Array.toList_inj.1 h), fun h => by rw [h]⟩
set_option maxRecDepth 20000 in
set_option maxHeartbeats 3200000 in
theorem FrameTorn_walk (w : World) (p s r : Int) (wp : (Lit.int .i64 p).wf = true) (ws : (Lit.int .i64 s).wf = true) (wr : (Lit.int .i64 r).wf = true) (k a b : Int) (t : ByteArray) (wk : (Lit.int .i64 k).wf = true) (wa : (Lit.int .u32 a).wf = true) (wb : (Lit.int .u32 b).wf = true) (wt : t.size ≤ 140737488351232) (kk : Int) (wkk : (Lit.int .i64 kk).wf = true) :
    Calls Try.prog 8 #[geo p s r, frv k a b t, .int .i64 kk] w fun e w' => e = .returned (.bool true) ∧ Kp w w' := by
  have bp := bounds_i64 wp
  have bs := bounds_i64 ws
  have br := bounds_i64 wr
  have bk := bounds_i64 wk
  have ba := bounds_u32 wa
  have bb := bounds_u32 wb
  have bkk := bounds_i64 wkk
  clear wp ws wr wk wa wb wkk
  have hG0 := (Bk.new w 23 [.int .i64 p, .int .i64 s, .int .i64 r]).alloc (fob k a b t)
  have hF0 : Bk ((w.alloc (gob p s r)).alloc (fob k a b t)) (w.heap.size + 1) 26 [.int .i64 k, .int .u32 a, .int .u32 b, .string t] := by
    have := Bk.new (w.alloc (gob p s r)) 26 [.int .i64 k, .int .u32 a, .int .u32 b, .string t]
    simpa using this
  have hK0 := (Kp.one w (gob p s r)).alloc (fob k a b t)
  have HGE := Lib.hid (fun w => bgeom_any p s r bp bs br w)
  have hR : RightG (32 + p % 33) (3 + s % 4) (4 + r % 4) := by unfold RightG; omega
  generalize 32 + p % 33 = P at *
  generalize 3 + s % 4 = S at *
  generalize 4 + r % 4 = N at *
  have hP : 32 ≤ P ∧ P ≤ 128 := by unfold RightG at hR; omega
  have HS := Lib.hid (fun w => shaped_any P S N hR k a b t bk (by omega) w)
  have HRO := Lib.hid (fun w => rroom_any P S N hR w)
  have hpg0 : PgOk P (1 + k % 4) a b (cutF P t) := cut_ok hP ba bb
  have hct : (cutF P t).size ≤ 9223372036854775807 := by have := hpg0.room; omega
  have hsh := fun w => short_any (cutF P t) (P - 15 - 1).toNat hct (by omega) w
  rw [show (((P - 15 - 1).toNat : Nat) : Int) = P - 15 - 1 by omega] at hsh
  have HSH := Lib.hid hsh
  have qr : IntKind.i64.wrap (P - 15 - 1) = P - 15 - 1 := IntWalk.i64_in _ (by omega)
  have hts : (((cutF P t).extract 0 (P - 15 - 1).toNat).size : Int) + 16 ≤ P := by
    have : ((cutF P t).extract 0 (P - 15 - 1).toNat).size ≤ (P - 15 - 1).toNat := by rw [ByteArray.size_extract]; omega
    omega
  have hpg : PgOk P (1 + k % 4) a b ((cutF P t).extract 0 (P - 15 - 1).toNat) := ⟨hP.1, hP.2, hpg0.k1, hpg0.k2, ba.1, ba.2, bb.1, bb.2, by omega⟩
  clear hsh hpg0
  generalize cutF P t = t' at *
  generalize t'.extract 0 (P - 15 - 1).toNat = u at *
  have HB1 := Lib.hid (fun w => bytesR P S N (1 + k % 4) a b u (by omega) ba bb _ _ (fbS_ok P S N _ a b _ hR hpg) w)
  have hpsz := pageS_size hpg
  have hlaw := fun K hK => torn_law hpg hts K hK
  generalize pageS P (1 + k % 4) a b u = X at *
  generalize 1 + k % 4 = k' at *
  clear hpg
  have hI0 : 0 ≤ kk % P ∧ kk % P < P := ⟨Int.emod_nonneg _ (by omega), Int.emod_lt_of_pos _ (by omega)⟩
  have HPK := Lib.hid (fun w => pick_any kk P (by omega) (by omega) bkk.1 bkk.2 w)
  generalize kk % P = I at *
  have HFK := Lib.hid (fun w => fill_any 255 (P - I) (by omega) (by omega) w)
  have qk : IntKind.i64.wrap (P - I) = P - I := IntWalk.i64_in _ (by omega)
  have hZ : X.extract 0 I.toNat ++ fillS 255 (P - I).toNat = tornS X P I.toNat := by unfold tornS; rw [show ((I.toNat : Nat) : Int) = I by omega]
  have hZs := tornS_size (K := I.toNat) hpsz (by omega)
  have hcat : (X.extract 0 I.toNat).size + (fillS 255 (P - I).toNat).size ≤ 9223372036854775807 := by
    have : (X.extract 0 I.toNat).size ≤ X.size := by rw [ByteArray.size_extract]; omega
    rw [fillS_size]; omega
  have hll := hlaw I.toNat (by omega)
  have hPP : (P != P) = false := by simp
  have hle : I ≤ P := by omega
  clear hlaw
  generalize fillS 255 (P - I).toNat = fl at *
  generalize hrf : readF (tornS X P I.toNat) = rf at *
  obtain ⟨fr, cc⟩ := rf
  have HRD := Lib.hid (fun w => readR (tornS X P I.toNat) (by omega) _ _ hrf w)
  have HZ := Lib.hid hZ
  clear hrf hZ hZs
  generalize tornS X P I.toNat = Z at *
  dsimp only at hll
  obtain ⟨fk, fa, fb, ft⟩ := fr
  dsimp only at HRD
  have hor : (Z = X ∧ (Z.toList == X.toList) = true) ∨ ((Z.toList == X.toList) = false ∧ (cc != 0) = true) := by
    by_cases h : Z = X
    · exact Or.inl ⟨h, by rw [beq_bytes8]; simpa using h⟩
    · refine Or.inr ⟨by rw [beq_bytes8]; simpa using h, ?_⟩
      rcases hll with h2 | h2
      · exact absurd h2 h
      · simpa using h2
  clear hll
  obtain ⟨g0, g1, g2⟩ := hG0.c3g
  go_enter Try.func8, Try.ntmps8
  go_wp2_with fail
  refine (HGE.out _).mono ?_
  rintro e w1 ⟨rfl, hk1⟩
  have hG1 := hG0.keep hk1
  have hF1 := hF0.keep hk1
  have hK1 := hK0.trans hk1
  clear g0 g1 g2 hG0 hF0 hK0 hk1
  obtain ⟨g0, g1, g2⟩ := hG1.c3g
  obtain ⟨f0, f1, f2, f3⟩ := hF1.c4g
  have u0 := hG1.free 0
  have u1 := hG1.free 1
  have u2 := hG1.free 2
  go_wp2_with fail
  obtain ⟨hG2, hK2⟩ := put3 hG1 hK1 (Nat.le_refl _) (.int .i64 P) (.int .i64 S) (.int .i64 N)
  have hF2 := far3 hF1 (show w.heap.size + 1 ≠ w.heap.size by omega) (.int .i64 P) (.int .i64 S) (.int .i64 N)
  generalize ((w1.setCell ⟨w.heap.size, 0, none⟩ (.int .i64 P)).setCell ⟨w.heap.size, 1, none⟩ (.int .i64 S)).setCell ⟨w.heap.size, 2, none⟩ (.int .i64 N) = w2 at *
  clear hG1 hK1 hF1 g0 g1 g2 u0 u1 u2 f0 f1 f2 f3
  refine (HS.out _).mono ?_
  rintro e w3 ⟨rfl, hk3⟩
  have hG3 := hG2.keep hk3
  have hF3 := hF2.keep hk3
  have hK3 := hK2.trans hk3
  clear hG2 hF2 hK2 hk3
  obtain ⟨g0, g1, g2⟩ := hG3.c3g
  obtain ⟨f0, f1, f2, f3⟩ := hF3.c4g
  have u0 := hF3.free 0
  have u1 := hF3.free 1
  have u2 := hF3.free 2
  have u3 := hF3.free 3
  obtain ⟨hF4, hK4⟩ := put4 hF3 hK3 (show w.heap.size ≤ w.heap.size + 1 by omega) (.int .i64 k') (.int .u32 a) (.int .u32 b) (.string t')
  have hG4 := far4 hG3 (show w.heap.size ≠ w.heap.size + 1 by omega) (.int .i64 k') (.int .u32 a) (.int .u32 b) (.string t')
  go_wp2_with fail
  clear hG3 hF3 hK3 u0 u1 u2 u3
  generalize (((w3.setCell ⟨w.heap.size + 1, 0, none⟩ (.int .i64 k')).setCell ⟨w.heap.size + 1, 1, none⟩ (.int .u32 a)).setCell ⟨w.heap.size + 1, 2, none⟩ (.int .u32 b)).setCell ⟨w.heap.size + 1, 3, none⟩ (.string t') = w4 at *
  clear g0 g1 g2 f0 f1 f2 f3
  have HC := Lib.hid (fun W (hh : Kp w4 W) => And.intro ((hG4.keep hh).c3g) ((hF4.keep hh).cell 3))
  refine wp_region_relH (R := Kp) (C := fun W => Kp w4 W) 7 (by kernel_rfl) (by kernel_rfl) (Kp.refl w4).drew (fun _ _ h k => h.trans k) Kp.refl (fun _ _ _ h k => h.trans k) ?_
  simp only [List.take_succ_cons, List.take_zero, List.drop_succ_cons, List.drop_zero]
  repeat (refine wpRel_step (fun K hK => ?_); apply rel_eq; (case ob => (intro f W hW hd; (obtain ⟨⟨g0, g1, g2⟩, f3⟩ := HC.out _ hW); (try simp [deps, factOf, Region.binds] at hd); unfold relOp; go_simp; (first | exact ⟨Kp.refl _, rfl⟩ | exact Kp.refl _ | (refine ⟨Kp.refl _, ?_⟩; (first | (go_at_call 24; refine (HRO.out _).mono ?_; rintro e w' ⟨rfl, rfl⟩; exact ⟨rfl, Kp.one _ _⟩) | (go_at_call 23; refine (HSH.out _).mono ?_; rintro e w' ⟨rfl, rfl⟩; exact ⟨rfl, Kp.refl _⟩)))))); go_simp; refine hK _ _ ?_; clear hK K)
  refine wpRel_nil ?_
  intro f W hW hall
  have h5 : f 5 = .string u := allF_get hall 5 _ rfl
  have h6 : f 6 = .pointer (some ⟨w.heap.size + 1, 3, none⟩) := allF_get hall 6 _ rfl
  clear hall HC
  dsimp only
  rw [h5, h6]
  have hF5 := hF4.keep hW
  have hG5 := hG4.keep hW
  have hK5 := hK4.trans hW
  clear h5 h6 hG4 hF4 hK4 hW
  obtain ⟨f0, f1, f2, f3⟩ := hF5.c4g
  obtain ⟨g0, g1, g2⟩ := hG5.c3g
  have u3 := hF5.free 3
  have hG6 := hG5.far (p := ⟨w.heap.size + 1, 3, none⟩) (by simp) (.string u)
  have hK6 := hK5.set (p := ⟨w.heap.size + 1, 3, none⟩) (by simp) (.string u)
  go_wp2_with fail
  refine (HB1.out _).mono ?_
  rintro e w6 ⟨rfl, hk6⟩
  have hG7 := hG6.keep hk6
  have hK7 := hK6.trans hk6
  clear hG5 hF5 hK5 hG6 hK6 hk6 f0 f1 f2 f3 g0 g1 g2 u3
  go_wp2_with fail
  refine (alive_any _).mono ?_
  rintro e w7 ⟨rfl, hk7⟩
  have hG8 := hG7.keep hk7
  have hK8 := hK7.trans hk7
  obtain ⟨g0, g1, g2⟩ := hG8.c3g
  clear hG7 hK7 hk7
  go_wp2_with fail
  refine (HPK.out _).mono ?_
  rintro e w8 ⟨rfl, rfl⟩
  have HC8 := Lib.hid (fun W (hh : Kp w7 W) => (hG8.keep hh).c3g)
  clear g0 g1 g2
  go_wp2_with fail
  have hInh := fun (x v : Value) => (⟨fun h => h _ ((Kp.refl w7).drew), fun h _ _ => h⟩ : (∀ Wz9, (fun W => Kp w7 W) Wz9 → x = v) ↔ x = v)
  dsimp only at hInh
  refine wp_region_quietC (C := fun W => Kp w7 W) (by kernel_rfl) (by kernel_rfl) ((Kp.refl w7).drew) ?_
  repeat (first | go_big_quiet_step ((intro hW; first | (go_at_call 15; refine (HFK.out _).mono ?_; rintro e w' ⟨rfl, hk9⟩; exact ⟨rfl, hW.trans hk9⟩) | (with_reducible rfl) | (obtain ⟨g0, g1, g2⟩ := HC8.out _ hW; (try go_simp); first | done | with_reducible rfl | exact ⟨rfl, rfl⟩))) | quiet_step ((intro hW; first | (go_at_call 15; refine (HFK.out _).mono ?_; rintro e w' ⟨rfl, hk9⟩; exact ⟨rfl, hW.trans hk9⟩) | (with_reducible rfl) | (obtain ⟨g0, g1, g2⟩ := HC8.out _ hW; (try go_simp); first | done | with_reducible rfl | exact ⟨rfl, rfl⟩))))
  refine wpQuiet_nil ?_
  intro wq hwq
  clear hInh
  go_wp2_with fail
  rw [HZ.out]
  refine (HRD.out _).mono ?_
  rintro e w9 ⟨rfl, hk9⟩
  have hKF := ((hK8.trans hwq).trans hk9).alloc (.cells #[.int .i64 fk, .int .u32 fa, .int .u32 fb, .string ft] 26)
  rcases hor with ⟨h1, h2⟩ | ⟨h1, h2⟩
  · go_wp2_with fail
    go_ret
    exact ⟨ret_bool (by simp), hKF⟩
  · go_wp2_with fail
    go_ret
    exact ⟨ret_bool (by simp), hKF⟩
end Go.Proofs.Ytdolclmeflaipaa
