/- FrameBent. -/
import Derived.Test.YtdolclmeflaipaaFrTorn2
namespace Go.Proofs.Ytdolclmeflaipaa
open Go.RowKit
set_option linter.unusedVariables false
/-- Both readers tell the same of any page. -/
theorem both_read (s : ByteArray) (hs : s.size ≤ 9223372036854775807) : ∃ (fk fa fb : Int) (ft : ByteArray) (cc : Int), (∀ w, Calls Try.prog 16 #[.string s] w fun e w' => e = .returned (.tuple #[frv fk fa fb ft, .int .i64 cc]) ∧ Kp w w') ∧ (∀ w, Calls Try.prog 17 #[.string s] w fun e w' => e = .returned (.tuple #[frv fk fa fb ft, .int .i64 cc]) ∧ Kp w w') := by
  exact ⟨(readF s).1.k, (readF s).1.a, (readF s).1.b, (readF s).1.t, (readF s).2, fun w => readR s hs _ _ rfl w, fun w => rreadR s hs _ _ rfl w⟩
theorem sb_setB (Z : ByteArray) (i v : Nat) (hv : v < 256) : (sb Z).set i (v : Int) = sb (setB Z i v) := by
  rw [sb_nb, sb_nb, setB_nb hv, List.map_set]
theorem sb_back (Z : ByteArray) : strOfNums (sb Z) = Z := by
  rw [sb_nb]; exact strN_nb Z
set_option maxRecDepth 20000 in
set_option maxHeartbeats 3200000 in
theorem FrameBent_walk (w : World) (p s r : Int) (wp : (Lit.int .i64 p).wf = true) (ws : (Lit.int .i64 s).wf = true) (wr : (Lit.int .i64 r).wf = true) (k a b : Int) (t : ByteArray) (wk : (Lit.int .i64 k).wf = true) (wa : (Lit.int .u32 a).wf = true) (wb : (Lit.int .u32 b).wf = true) (wt : t.size ≤ 140737488351232)
    (a0 a1 a2 : Int) (wa0 : (Lit.int .i64 a0).wf = true) (wa1 : (Lit.int .i64 a1).wf = true) (wa2 : (Lit.int .i64 a2).wf = true) (y0 y1 y2 : Int) (wy0 : (Lit.int .u8 y0).wf = true) (wy1 : (Lit.int .u8 y1).wf = true) (wy2 : (Lit.int .u8 y2).wf = true) (right : Bool) :
    Calls Try.prog 6 #[geo p s r, frv k a b t, .agg #[.int .i64 a0, .int .i64 a1, .int .i64 a2], .agg #[.int .u8 y0, .int .u8 y1, .int .u8 y2], .bool right] w fun e w' => e = .returned (.bool true) ∧ Kp w w' := by
  have bp := bounds_i64 wp
  have bs := bounds_i64 ws
  have br := bounds_i64 wr
  have bk := bounds_i64 wk
  have ba := bounds_u32 wa
  have bb := bounds_u32 wb
  have ba0 := bounds_i64 wa0
  have ba1 := bounds_i64 wa1
  have ba2 := bounds_i64 wa2
  have by0 := bounds_u8 wy0
  have by1 := bounds_u8 wy1
  have by2 := bounds_u8 wy2
  clear wp ws wr wk wa wb wa0 wa1 wa2 wy0 wy1 wy2
  have HGE := Lib.hid (fun w => bgeom_any p s r bp bs br w)
  have hR : RightG (32 + p % 33) (3 + s % 4) (4 + r % 4) := by unfold RightG; omega
  generalize hPe : 32 + p % 33 = P at *
  generalize 3 + s % 4 = S at *
  generalize 4 + r % 4 = N at *
  clear hPe
  have hP : 32 ≤ P ∧ P ≤ 128 := by unfold RightG at hR; omega
  have HS := Lib.hid (fun w => shaped_any P S N hR k a b t bk (by omega) w)
  have hpg : PgOk P (1 + k % 4) a b (cutF P t) := cut_ok hP ba bb
  have hct : (cutF P t).size ≤ 9223372036854775807 := by have := hpg.room; omega
  have HB1 := Lib.hid (fun w => rbytesR P S N (1 + k % 4) a b (cutF P t) hct ba bb _ _ (fbS_ok P S N _ a b _ hR hpg) w)
  have hpsz := pageS_size hpg
  generalize pageS P (1 + k % 4) a b (cutF P t) = X at *
  generalize 1 + k % 4 = k' at *
  generalize cutF P t = t' at *
  clear hpg hct
  have HPK := Lib.hid (fun (n : Int) (h : -9223372036854775808 ≤ n ∧ n ≤ 9223372036854775807) w => pick_any n P (by omega) (by omega) h.1 h.2 w)
  have hG0 := (((Bk.new w 23 [.int .i64 p, .int .i64 s, .int .i64 r]).alloc (fob k a b t)).alloc (.cells #[.int .i64 a0, .int .i64 a1, .int .i64 a2] 41)).alloc (.cells #[.int .u8 y0, .int .u8 y1, .int .u8 y2] 42)
  have hF0 : Bk ((w.alloc (gob p s r)).alloc (fob k a b t)) (w.heap.size + 1) 26 [.int .i64 k, .int .u32 a, .int .u32 b, .string t] := by
    have := Bk.new (w.alloc (gob p s r)) 26 [.int .i64 k, .int .u32 a, .int .u32 b, .string t]
    simpa using this
  have hF0 := (hF0.alloc (.cells #[.int .i64 a0, .int .i64 a1, .int .i64 a2] 41)).alloc (.cells #[.int .u8 y0, .int .u8 y1, .int .u8 y2] 42)
  have hA0 : Bk (((w.alloc (gob p s r)).alloc (fob k a b t)).alloc (.cells #[.int .i64 a0, .int .i64 a1, .int .i64 a2] 41)) (w.heap.size + 1 + 1) 41 [.int .i64 a0, .int .i64 a1, .int .i64 a2] := by
    have := Bk.new ((w.alloc (gob p s r)).alloc (fob k a b t)) 41 [.int .i64 a0, .int .i64 a1, .int .i64 a2]
    simpa using this
  have hA0 := hA0.alloc (.cells #[.int .u8 y0, .int .u8 y1, .int .u8 y2] 42)
  have hY0 : Bk ((((w.alloc (gob p s r)).alloc (fob k a b t)).alloc (.cells #[.int .i64 a0, .int .i64 a1, .int .i64 a2] 41)).alloc (.cells #[.int .u8 y0, .int .u8 y1, .int .u8 y2] 42)) (w.heap.size + 1 + 1 + 1) 42 [.int .u8 y0, .int .u8 y1, .int .u8 y2] := by
    have := Bk.new (((w.alloc (gob p s r)).alloc (fob k a b t)).alloc (.cells #[.int .i64 a0, .int .i64 a1, .int .i64 a2] 41)) 42 [.int .u8 y0, .int .u8 y1, .int .u8 y2]
    simpa using this
  have hK0 := (((Kp.one w (gob p s r)).alloc (fob k a b t)).alloc (.cells #[.int .i64 a0, .int .i64 a1, .int .i64 a2] 41)).alloc (.cells #[.int .u8 y0, .int .u8 y1, .int .u8 y2] 42)
  obtain ⟨g0, g1, g2⟩ := hG0.c3g
  go_enter Try.func6, Try.ntmps6
  go_wp2_with fail
  refine (HGE.out _).mono ?_
  rintro e w1 ⟨rfl, hk1⟩
  have hG1 := hG0.keep hk1
  have hF1 := hF0.keep hk1
  have hA1 := hA0.keep hk1
  have hY1 := hY0.keep hk1
  have hK1 := hK0.trans hk1
  clear g0 g1 g2 hG0 hF0 hA0 hY0 hK0 hk1
  obtain ⟨g0, g1, g2⟩ := hG1.c3g
  have u0 := hG1.free 0
  have u1 := hG1.free 1
  have u2 := hG1.free 2
  go_wp2_with fail
  obtain ⟨hG2, hK2⟩ := put3 hG1 hK1 (Nat.le_refl _) (.int .i64 P) (.int .i64 S) (.int .i64 N)
  have hF2 := far3 hF1 (show w.heap.size + 1 ≠ w.heap.size by omega) (.int .i64 P) (.int .i64 S) (.int .i64 N)
  have hA2 := far3 hA1 (show w.heap.size + 1 + 1 ≠ w.heap.size by omega) (.int .i64 P) (.int .i64 S) (.int .i64 N)
  have hY2 := far3 hY1 (show w.heap.size + 1 + 1 + 1 ≠ w.heap.size by omega) (.int .i64 P) (.int .i64 S) (.int .i64 N)
  generalize ((w1.setCell ⟨w.heap.size, 0, none⟩ (.int .i64 P)).setCell ⟨w.heap.size, 1, none⟩ (.int .i64 S)).setCell ⟨w.heap.size, 2, none⟩ (.int .i64 N) = w2 at *
  clear hG1 hK1 hF1 hA1 hY1 g0 g1 g2 u0 u1 u2
  have HC := Lib.hid (fun W (hh : Kp w2 W) => And.intro ((hG2.keep hh).c3g) ((hF2.keep hh).c4g))
  have hInh := fun (x v : Value) => (⟨fun h => h _ ((Kp.refl w2).drew), fun h _ _ => h⟩ : (∀ Wz9, (fun W => Kp w2 W) Wz9 → x = v) ↔ x = v)
  dsimp only at hInh
  refine wp_region_quietC (C := fun W => Kp w2 W) (by kernel_rfl) (by kernel_rfl) ((Kp.refl w2).drew) ?_
  repeat (first | go_big_quiet_step ((intro hW; first | (first | (go_at_call 20; refine (HS.out _).mono ?_; rintro e w' ⟨rfl, hk9⟩; exact ⟨rfl, hW.trans hk9⟩) | (go_at_call 13; refine (HB1.out _).mono ?_; rintro e w' ⟨rfl, hk9⟩; exact ⟨rfl, hW.trans hk9⟩)) | (with_reducible rfl) | (obtain ⟨⟨g0, g1, g2⟩, f0, f1, f2, f3⟩ := HC.out _ hW; (try go_simp); first | done | with_reducible rfl | exact ⟨rfl, rfl⟩))) | quiet_step ((intro hW; first | (first | (go_at_call 20; refine (HS.out _).mono ?_; rintro e w' ⟨rfl, hk9⟩; exact ⟨rfl, hW.trans hk9⟩) | (go_at_call 13; refine (HB1.out _).mono ?_; rintro e w' ⟨rfl, hk9⟩; exact ⟨rfl, hW.trans hk9⟩)) | (with_reducible rfl) | (obtain ⟨⟨g0, g1, g2⟩, f0, f1, f2, f3⟩ := HC.out _ hW; (try go_simp); first | done | with_reducible rfl | exact ⟨rfl, rfl⟩))))
  refine wpQuiet_nil ?_
  intro wq hwq
  clear hInh
  go_wp2_with fail
  refine (alive_any _).mono ?_
  rintro e w4 ⟨rfl, hk4⟩
  have hk24 := hwq.trans hk4
  obtain ⟨W1, c, hcv, hbb, hkb, hsz⟩ := bytes_of w4 X 9 Try.underlying9
  have hgy := (hY2.keep hk24).lt
  have hA4 := hA2.keep (hk24.trans hkb)
  have hY4 := hY2.keep (hk24.trans hkb)
  have hK4 := (hK2.trans hk24).trans hkb
  have hsz4 := (hK2.trans hk24).size
  clear hG2 hF2 hA2 hY2 hK2 HC hwq hk4 hk24 hkb
  go_wp2_with fail
  go_loopw [14] (fun i wr => ∃ (q : Nat) (Z : ByteArray), q ≤ 3 ∧ i = .int .i64 q ∧ Z.size = X.size ∧ By wr w4.heap.size (sb Z) ∧ Bk wr (w.heap.size + 1 + 1) 41 [.int .i64 a0, .int .i64 a1, .int .i64 a2] ∧ Bk wr (w.heap.size + 1 + 1 + 1) 42 [.int .u8 y0, .int .u8 y1, .int .u8 y2] ∧ Kp w wr) (fun i _ => 3 - (intOf i).toNat)
  case atStart => exact ⟨0, X, by omega, rfl, rfl, hbb, hA4, hY4, hK4⟩
  case round =>
    obtain ⟨q, Z, hq, rfl, hZ, hbr, hAr, hYr, hKr⟩ := hrel
    clear hbb hA4 hY4 hK4 hcv
    by_cases hlt : q < 3
    · have hsel : ∃ (n : Int) (m : Nat), (-9223372036854775808 ≤ n ∧ n ≤ 9223372036854775807) ∧ m < 256 ∧ (∀ W, Kp wr W → W.cell? ⟨w.heap.size + 1 + 1, q, none⟩ = some (.int .i64 n) ∧ W.cell? ⟨w.heap.size + 1 + 1 + 1, q, none⟩ = some (.int .u8 (m : Int))) := by
        have hc : q = 0 ∨ q = 1 ∨ q = 2 := by omega
        rcases hc with rfl | rfl | rfl
        · exact ⟨a0, y0.toNat, ba0, by omega, fun W hh => ⟨(hAr.keep hh).cell 0, by rw [show ((y0.toNat : Nat) : Int) = y0 by omega]; exact (hYr.keep hh).cell 0⟩⟩
        · exact ⟨a1, y1.toNat, ba1, by omega, fun W hh => ⟨(hAr.keep hh).cell 1, by rw [show ((y1.toNat : Nat) : Int) = y1 by omega]; exact (hYr.keep hh).cell 1⟩⟩
        · exact ⟨a2, y2.toNat, ba2, by omega, fun W hh => ⟨(hAr.keep hh).cell 2, by rw [show ((y2.toNat : Nat) : Int) = y2 by omega]; exact (hYr.keep hh).cell 2⟩⟩
      obtain ⟨n, m, hn, hm, hcells⟩ := hsel
      have HPN := Lib.hid (HPK.out n hn)
      have hI0 : 0 ≤ n % P ∧ n % P < P := ⟨Int.emod_nonneg _ (by omega), Int.emod_lt_of_pos _ (by omega)⟩
      generalize n % P = I at *
      have hil : I.toNat < (sb Z).length := by rw [sb_len]; omega
      have hxb := byteAt_lt Z I.toNat
      have HX := Lib.hid (u8_xor_nat _ _ hxb hm)
      have hv : byteAt Z I.toNat ^^^ m < 256 := Nat.xor_lt_two_pow (n := 8) hxb hm
      have HBC := Lib.hid (fun W (hh : Kp wr W) => show W.cell? ⟨w4.heap.size, I.toNat, none⟩ = some (.int .u8 (byteAt Z I.toNat : Nat)) from by
        rw [(hbr.keep hh).cell _ hil]
        have hil2 : I.toNat < (nb Z).length := by rw [nb_len]; omega
        unfold byteAt
        simp only [sb_nb, List.getElem_map]
        rw [List.getD_eq_getElem?_getD, List.getElem?_eq_getElem hil2]
        rfl)
      have HCE := Lib.hid hcells
      have hfree := hbr.free I.toNat hil
      have hput := fun W (hh : Kp wr W) => (hbr.keep hh).put I.toNat hil ((byteAt Z I.toNat ^^^ m : Nat) : Int)
      rw [sb_setB Z I.toNat _ hv] at hput
      have HPT := Lib.hid hput
      have HFR := Lib.hid (fun W (hh : Kp wr W) => (hbr.keep hh).free I.toNat hil)
      have hZs2 : (setB Z I.toNat (byteAt Z I.toNat ^^^ m)).size = X.size := by rw [setB_size]; exact hZ
      have HZ2 := Lib.hid hZs2
      have HAr := Lib.hid hAr
      have HYr := Lib.hid hYr
      have hIZ : I < (Z.size : Int) := by omega
      have hIP := hI0
      have HKR := Lib.hid hKr
      clear hcells hput hZs2 hAr hYr hfree hil hv hxb
      generalize byteAt Z I.toNat = xb at *
      have hzx : (Z.size : Int) = P := by omega
      go_wp2_with fail
      refine wp_region_relH (R := Kp) (C := fun W => Kp wr W) 14 (by kernel_rfl) (by kernel_rfl) (Kp.refl wr).drew (fun _ _ h k => h.trans k) Kp.refl (fun _ _ _ h k => h.trans k) ?_
      simp only [List.take_succ_cons, List.take_zero, List.drop_succ_cons, List.drop_zero]
      repeat (refine wpRel_step (fun K hK => ?_); apply rel_eq; (case ob => (intro f W hW hd; (obtain ⟨n0, n1⟩ := HCE.out _ hW; have n2 := HBC.out _ hW); (try simp [deps, factOf, Region.binds] at hd); unfold relOp; go_simp; (first | exact ⟨Kp.refl _, rfl⟩ | exact Kp.refl _ | (refine ⟨Kp.refl _, ?_⟩; (go_at_call 11; refine (HPN.out _).mono ?_; rintro e w' ⟨rfl, rfl⟩; exact ⟨rfl, Kp.refl _⟩))))); go_simp; refine hK _ _ ?_; clear hK K)
      refine wpRel_nil ?_
      intro f W hW hall
      have h12 : f 12 = .int .u8 ((xb ^^^ m : Nat) : Int) := (allF_get hall 12 _ rfl).trans (by rw [HX.out])
      have h13 : f 13 = .pointer (some ⟨w4.heap.size, I.toNat, none⟩) := allF_get hall 13 _ rfl
      clear hall
      dsimp only
      rw [h12, h13]
      have n2 := HBC.out _ hW
      have n3 := HFR.out _ hW
      have hfin := HPT.out _ hW
      have hAf := (HAr.out.keep hW).far (p := ⟨w4.heap.size, I.toNat, none⟩) (by simp; omega) (.int .u8 ((xb ^^^ m : Nat) : Int))
      have hYf := (HYr.out.keep hW).far (p := ⟨w4.heap.size, I.toNat, none⟩) (by simp; omega) (.int .u8 ((xb ^^^ m : Nat) : Int))
      have hKf := (HKR.out.trans hW).set (p := ⟨w4.heap.size, I.toNat, none⟩) hsz4 (.int .u8 ((xb ^^^ m : Nat) : Int))
      go_wp2_with fail
      go_roundw
      case rel => exact ⟨q + 1, _, by omega, by go_num, HZ2.out, hfin, hAf, hYf, hKf⟩
      case measure => simp [intOf]; omega
    · have hcv2 := hbr.conv (n := X.size) (c := c) (by rw [sb_len, hZ])
      rw [sb_back] at hcv2
      have hge : 3 ≤ (q : Int) := by omega
      rcases right with _ | _
      · obtain ⟨fk, fa, fb, ft, cc, hr1, hr2⟩ := both_read Z (by omega)
        have HR1 := Lib.hid hr1
        have HR2 := Lib.hid hr2
        clear hr1 hr2
        have hff : (ft.toList == ft.toList) = true := by simp
        go_wp2_with fail
        refine (HR1.out _).mono ?_
        rintro e w6 ⟨rfl, hk6⟩
        have hB1 := Bk.new w6 26 [.int .i64 fk, .int .u32 fa, .int .u32 fb, .string ft]
        go_wp2_with fail
        refine (HR2.out _).mono ?_
        rintro e w7 ⟨rfl, hk7⟩
        obtain ⟨f0, f1, f2, f3⟩ := ((hB1.keep hk7).alloc (fob fk fa fb ft)).c4g
        have hKF := (((hKr.trans hk6).alloc (fob fk fa fb ft)).trans hk7).alloc (fob fk fa fb ft)
        go_wp2_with fail
        go_ret
        exact ⟨ret_bool (by simp), hKF⟩
      · have q4 : IntKind.i64.wrap (P - 4) = P - 4 := IntWalk.i64_in _ (by omega)
        have z1 : 0 ≤ P - 4 := by omega
        have z2 : P - 4 ≤ P := by omega
        have hHs : (Z.extract 0 (P - 4).toNat).size ≤ 128 := by rw [ByteArray.size_extract]; omega
        generalize hHe : Z.extract 0 (P - 4).toNat = H at *
        have HCR := Lib.hid (fun w => refcrc_any H (by omega) w)
        have hci := crcI H
        have HP4 := Lib.hid (fun w => put4K ((crcN H : Nat) : Int) hci w)
        rw [Int.toNat_natCast] at HP4
        have hps := put_size (crcN H)
        have hps2 : H.size + (put (crcN H)).size ≤ 9223372036854775807 := by omega
        obtain ⟨fk, fa, fb, ft, cc, hr1, hr2⟩ := both_read (H ++ put (crcN H)) (by rw [ByteArray.size_append]; omega)
        have HR1 := Lib.hid hr1
        have HR2 := Lib.hid hr2
        clear hr1 hr2 hps hci
        generalize put (crcN H) = pc at *
        generalize ((crcN H : Nat) : Int) = cn at *
        have hff : (ft.toList == ft.toList) = true := by simp
        go_wp2_with fail
        refine (HCR.out _).mono ?_
        rintro e w5 ⟨rfl, rfl⟩
        go_wp2_with fail
        refine (HP4.out _).mono ?_
        rintro e w5 ⟨rfl, hk5⟩
        go_wp2_with fail
        refine (HR1.out _).mono ?_
        rintro e w6 ⟨rfl, hk6⟩
        have hB1 := Bk.new w6 26 [.int .i64 fk, .int .u32 fa, .int .u32 fb, .string ft]
        go_wp2_with fail
        refine (HR2.out _).mono ?_
        rintro e w7 ⟨rfl, hk7⟩
        obtain ⟨f0, f1, f2, f3⟩ := ((hB1.keep hk7).alloc (fob fk fa fb ft)).c4g
        have hKF := ((((hKr.trans hk5).trans hk6).alloc (fob fk fa fb ft)).trans hk7).alloc (fob fk fa fb ft)
        go_wp2_with fail
        go_ret
        exact ⟨ret_bool (by simp), hKF⟩
end Go.Proofs.Ytdolclmeflaipaa
