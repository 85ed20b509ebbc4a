/- FlashNew. -/
import Derived.Test.YtbclmnlggngepaaFlLaw
namespace Go.Proofs.Ytbclmnlggngepaa
open Go.RowKit
set_option linter.unusedVariables false
set_option maxRecDepth 20000 in
set_option maxHeartbeats 6400000 in
theorem FlashNew_walk (w : World) (p s r : Int) (wp : (Lit.int .i64 p).wf = true) (ws : (Lit.int .i64 s).wf = true) (wr : (Lit.int .i64 r).wf = true) (image : ByteArray) (his0 : image.size ≤ 140737488351232) (small : Bool) :
    Calls Try.prog 3 #[geo p s r, .string image, .bool small] w fun e w' => e = .returned (.bool true) ∧ Kp w w' := by
  have his : image.size ≤ 9223372036854775807 := by omega
  clear his0
  have bp := bounds_i64 wp
  have bs := bounds_i64 ws
  have br := bounds_i64 wr
  clear wp ws wr
  have hG0 := Gbx.new w p s r
  have hK0 := Kp.one w (gob p s r)
  rcases small with _ | _
  · have hGa := hG0
    have hKa := hK0
    clear hG0 hK0
    by_cases hR : RightG p s r
    · obtain ⟨m1, m2, m3, m4⟩ := mul3 hR
      by_cases hl : (image.size : Int) ≤ p * s * r
      · have hq1 : IntKind.i64.wrap (p * s * r - (image.size : Int)) = p * s * r - (image.size : Int) := IntWalk.i64_in _ (by omega)
        have hd0 : decide (p * s * r < (image.size : Int)) = false := by simp; omega
        have HNW := Lib.hid (fun w => new_S hR image hl w)
        have HFI := Lib.hid (fun w => fill_any 255 (p * s * r - (image.size : Int)) (by omega) (by omega) w)
        have hst : strN (newD p s r image).img = image ++ fillS 255 (p * s * r - image.size).toNat := by
          apply nb_inj
          rw [nb_strN _ (newD_ok hR image hl).byt, nb_append, nb_fillS]
          rfl
        have hsum : image.size + (fillS 255 (p * s * r - (image.size : Int)).toNat).size ≤ 9223372036854775807 := by rw [fillS_size]; omega
        have HIM := Lib.hid (fun (w0 W : World) g ib ic v (h : FlS w0 W g ib ic p s r (newD p s r image) v) => fimage h.at_)
        rw [hst] at HIM
        generalize fillS 255 (p * s * r - (image.size : Int)).toNat = fl at *
        have hbe : ((image ++ fl).toList == (image ++ fl).toList) = true := by simp
        have HRR := Lib.hid (fun w => rright_yes p s r hR w)
        have HSZ := Lib.hid (fun w => rsize_any p s r hR w)
        clear hst
        obtain ⟨g0, g1, g2⟩ := hGa.cells
        go_enter Try.func3, Try.ntmps3
        go_wp2_with fail
        refine (HNW.out _).mono ?_
        rintro e wb ⟨fg, fib, fic, fv, rfl, hfb⟩
        go_wp2_with fail
        refine (falive _).mono ?_
        rintro e wc ⟨rfl, hkc⟩
        have hfc := hfb.keep hkc
        have hGc := hGa.keep hfc.kp
        clear g0 g1 g2
        obtain ⟨g0, g1, g2⟩ := hGc.cells
        go_wp2_with fail
        refine (HRR.out _).mono ?_
        rintro e wd ⟨rfl, hwd⟩
        have hkd : Kp wc wd := hwd ▸ Kp.one _ _
        clear hwd
        have hfd := hfc.keep hkd
        have hGd := hGc.keep hkd
        clear g0 g1 g2
        obtain ⟨g0, g1, g2⟩ := hGd.cells
        go_wp2_with fail
        refine (HSZ.out _).mono ?_
        rintro e we ⟨rfl, hwe⟩
        have hke : Kp wd we := hwe ▸ Kp.one _ _
        clear hwe
        have hfe := hfd.keep hke
        have hGe := Lib.hid (hGd.keep hke)
        have HFE := Lib.hid hfe
        clear g0 g1 g2 hfb hfc hfd hfe hGc hGd hGa hkc hkd hke hl
        go_wp2_with fail
        have hInh := fun (x v : Value) => (⟨fun h => h _ ((Kp.refl we).drew), fun h _ _ => h⟩ : (∀ Wz9, (fun W' => Kp we W') Wz9 → x = v) ↔ x = v)
        dsimp only at hInh
        refine wp_region_quietC (C := fun W' => Kp we W') (by kernel_rfl) (by kernel_rfl) ((Kp.refl we).drew) ?_
        repeat (first | go_big_quiet_step ((intro hW; first | (first | (go_at_call 15; refine (HIM.out _ _ _ _ _ _ (HFE.out.keep hW)).mono ?_; rintro e w' ⟨rfl, hk9⟩; exact ⟨rfl, hW.trans hk9⟩) | (go_at_call 17; refine (fdown (HFE.out.keep hW).at_).mono ?_; rintro e w' ⟨rfl, hk9⟩; exact ⟨rfl, hW.trans hk9⟩) | (go_at_call 18; refine (fpending (HFE.out.keep hW).at_).mono ?_; rintro e w' ⟨rfl, hk9⟩; exact ⟨rfl, hW.trans hk9⟩) | (go_at_call 14; refine (HSZ.out _).mono ?_; rintro e w' ⟨rfl, rfl⟩; exact ⟨rfl, hW.alloc _⟩) | (go_at_call 16; refine (HFI.out _).mono ?_; rintro e w' ⟨rfl, hk9⟩; exact ⟨rfl, hW.trans hk9⟩)) | (with_reducible rfl) | (obtain ⟨g0, g1, g2⟩ := (hGe.out.keep hW).cells; (try go_simp); first | done | with_reducible rfl | exact ⟨rfl, rfl⟩))) | quiet_step ((intro hW; first | (first | (go_at_call 15; refine (HIM.out _ _ _ _ _ _ (HFE.out.keep hW)).mono ?_; rintro e w' ⟨rfl, hk9⟩; exact ⟨rfl, hW.trans hk9⟩) | (go_at_call 17; refine (fdown (HFE.out.keep hW).at_).mono ?_; rintro e w' ⟨rfl, hk9⟩; exact ⟨rfl, hW.trans hk9⟩) | (go_at_call 18; refine (fpending (HFE.out.keep hW).at_).mono ?_; rintro e w' ⟨rfl, hk9⟩; exact ⟨rfl, hW.trans hk9⟩) | (go_at_call 14; refine (HSZ.out _).mono ?_; rintro e w' ⟨rfl, rfl⟩; exact ⟨rfl, hW.alloc _⟩) | (go_at_call 16; refine (HFI.out _).mono ?_; rintro e w' ⟨rfl, hk9⟩; exact ⟨rfl, hW.trans hk9⟩)) | (with_reducible rfl) | (obtain ⟨g0, g1, g2⟩ := (hGe.out.keep hW).cells; (try go_simp); first | done | with_reducible rfl | exact ⟨rfl, rfl⟩))))
        refine wpQuiet_nil ?_
        intro wq hwq
        clear hInh
        go_wp2_with fail
        go_ret
        exact ⟨rfl, (hKa.trans HFE.out.kp).trans hwq⟩
      · have HNN := Lib.hid (fun w => fnew_no p s r image (Or.inr ⟨hR, by omega⟩) his w)
        have HRR := Lib.hid (fun w => rright_yes p s r hR w)
        have HSZ := Lib.hid (fun w => rsize_any p s r hR w)
        have hd0 : decide (p * s * r < (image.size : Int)) = true := by simp; omega
        obtain ⟨g0, g1, g2⟩ := hGa.cells
        go_enter Try.func3, Try.ntmps3
        go_wp2_with fail
        refine (HNN.out _).mono ?_
        rintro e wb ⟨rfl, hkb⟩
        go_wp2_with fail
        refine (falive _).mono ?_
        rintro e wc ⟨rfl, hkc⟩
        have hGc := hGa.keep (hkb.trans hkc)
        clear g0 g1 g2
        obtain ⟨g0, g1, g2⟩ := hGc.cells
        go_wp2_with fail
        refine (HRR.out _).mono ?_
        rintro e wd ⟨rfl, hwd⟩
        have hkd : Kp wc wd := hwd ▸ Kp.one _ _
        clear hwd
        have hGd := hGc.keep hkd
        clear g0 g1 g2
        obtain ⟨g0, g1, g2⟩ := hGd.cells
        go_wp2_with fail
        refine (HSZ.out _).mono ?_
        rintro e we ⟨rfl, hwe⟩
        have hke : Kp wd we := hwe ▸ Kp.one _ _
        clear hwe
        go_wp2_with fail
        go_ret
        exact ⟨rfl, (((hKa.trans hkb).trans hkc).trans hkd).trans hke⟩
    · have HNN := Lib.hid (fun w => fnew_no p s r image (Or.inl hR) his w)
      have HRR := Lib.hid (fun w => rright_no p s r hR w)
      obtain ⟨g0, g1, g2⟩ := hGa.cells
      go_enter Try.func3, Try.ntmps3
      go_wp2_with fail
      refine (HNN.out _).mono ?_
      rintro e wb ⟨rfl, hkb⟩
      go_wp2_with fail
      refine (falive _).mono ?_
      rintro e wc ⟨rfl, hkc⟩
      have hGc := hGa.keep (hkb.trans hkc)
      clear g0 g1 g2
      obtain ⟨g0, g1, g2⟩ := hGc.cells
      go_wp2_with fail
      refine (HRR.out _).mono ?_
      rintro e wd ⟨rfl, hwd⟩
      have hkd : Kp wc wd := hwd ▸ Kp.one _ _
      clear hwd
      go_wp2_with fail
      go_ret
      exact ⟨rfl, ((hKa.trans hkb).trans hkc).trans hkd⟩
  · have HGE := Lib.hid (fun w => bgeom_any p s r bp bs br w)
    generalize 32 + p % 33 = P at *
    generalize 3 + s % 4 = S at *
    generalize 4 + r % 4 = N at *
    by_cases hR : RightG P S N
    · obtain ⟨m1, m2, m3, m4⟩ := mul3 hR
      by_cases hl : (image.size : Int) ≤ P * S * N
      · have hq1 : IntKind.i64.wrap (P * S * N - (image.size : Int)) = P * S * N - (image.size : Int) := IntWalk.i64_in _ (by omega)
        have hd0 : decide (P * S * N < (image.size : Int)) = false := by simp; omega
        have HNW := Lib.hid (fun w => new_S hR image hl w)
        have HFI := Lib.hid (fun w => fill_any 255 (P * S * N - (image.size : Int)) (by omega) (by omega) w)
        have hst : strN (newD P S N image).img = image ++ fillS 255 (P * S * N - image.size).toNat := by
          apply nb_inj
          rw [nb_strN _ (newD_ok hR image hl).byt, nb_append, nb_fillS]
          rfl
        have hsum : image.size + (fillS 255 (P * S * N - (image.size : Int)).toNat).size ≤ 9223372036854775807 := by rw [fillS_size]; omega
        have HIM := Lib.hid (fun (w0 W : World) g ib ic v (h : FlS w0 W g ib ic P S N (newD P S N image) v) => fimage h.at_)
        rw [hst] at HIM
        generalize fillS 255 (P * S * N - (image.size : Int)).toNat = fl at *
        have hbe : ((image ++ fl).toList == (image ++ fl).toList) = true := by simp
        have HRR := Lib.hid (fun w => rright_yes P S N hR w)
        have HSZ := Lib.hid (fun w => rsize_any P S N hR w)
        clear hst
        obtain ⟨g0, g1, g2⟩ := hG0.cells
        go_enter Try.func3, Try.ntmps3
        go_wp2_with fail
        refine (HGE.out _).mono ?_
        rintro e w1 ⟨rfl, hk1⟩
        have hG1 := hG0.keep hk1
        have hK1 := hK0.trans hk1
        clear g0 g1 g2 hG0 hK0 hk1
        obtain ⟨g0, g1, g2⟩ := hG1.cells
        obtain ⟨u0, u1, u2⟩ := hG1.free
        go_wp2_with fail
        have hGa := hG1.put (p' := P) (s' := S) (r' := N)
        have hKa := ((hK1.set (p := ⟨w.heap.size, 0, none⟩) (Nat.le_refl _) (.int .i64 P)).set (p := ⟨w.heap.size, 1, none⟩) (Nat.le_refl _) (.int .i64 S)).set (p := ⟨w.heap.size, 2, none⟩) (Nat.le_refl _) (.int .i64 N)
        generalize ((w1.setCell ⟨w.heap.size, 0, none⟩ (.int .i64 P)).setCell ⟨w.heap.size, 1, none⟩ (.int .i64 S)).setCell ⟨w.heap.size, 2, none⟩ (.int .i64 N) = wa at *
        clear hG1 hK1 g0 g1 g2 u0 u1 u2
        obtain ⟨g0, g1, g2⟩ := hGa.cells
        refine (HNW.out _).mono ?_
        rintro e wb ⟨fg, fib, fic, fv, rfl, hfb⟩
        go_wp2_with fail
        refine (falive _).mono ?_
        rintro e wc ⟨rfl, hkc⟩
        have hfc := hfb.keep hkc
        have hGc := hGa.keep hfc.kp
        clear g0 g1 g2
        obtain ⟨g0, g1, g2⟩ := hGc.cells
        go_wp2_with fail
        refine (HRR.out _).mono ?_
        rintro e wd ⟨rfl, hwd⟩
        have hkd : Kp wc wd := hwd ▸ Kp.one _ _
        clear hwd
        have hfd := hfc.keep hkd
        have hGd := hGc.keep hkd
        clear g0 g1 g2
        obtain ⟨g0, g1, g2⟩ := hGd.cells
        go_wp2_with fail
        refine (HSZ.out _).mono ?_
        rintro e we ⟨rfl, hwe⟩
        have hke : Kp wd we := hwe ▸ Kp.one _ _
        clear hwe
        have hfe := hfd.keep hke
        have hGe := Lib.hid (hGd.keep hke)
        have HFE := Lib.hid hfe
        clear g0 g1 g2 hfb hfc hfd hfe hGc hGd hGa hkc hkd hke hl
        go_wp2_with fail
        have hInh := fun (x v : Value) => (⟨fun h => h _ ((Kp.refl we).drew), fun h _ _ => h⟩ : (∀ Wz9, (fun W' => Kp we W') Wz9 → x = v) ↔ x = v)
        dsimp only at hInh
        refine wp_region_quietC (C := fun W' => Kp we W') (by kernel_rfl) (by kernel_rfl) ((Kp.refl we).drew) ?_
        repeat (first | go_big_quiet_step ((intro hW; first | (first | (go_at_call 15; refine (HIM.out _ _ _ _ _ _ (HFE.out.keep hW)).mono ?_; rintro e w' ⟨rfl, hk9⟩; exact ⟨rfl, hW.trans hk9⟩) | (go_at_call 17; refine (fdown (HFE.out.keep hW).at_).mono ?_; rintro e w' ⟨rfl, hk9⟩; exact ⟨rfl, hW.trans hk9⟩) | (go_at_call 18; refine (fpending (HFE.out.keep hW).at_).mono ?_; rintro e w' ⟨rfl, hk9⟩; exact ⟨rfl, hW.trans hk9⟩) | (go_at_call 14; refine (HSZ.out _).mono ?_; rintro e w' ⟨rfl, rfl⟩; exact ⟨rfl, hW.alloc _⟩) | (go_at_call 16; refine (HFI.out _).mono ?_; rintro e w' ⟨rfl, hk9⟩; exact ⟨rfl, hW.trans hk9⟩)) | (with_reducible rfl) | (obtain ⟨g0, g1, g2⟩ := (hGe.out.keep hW).cells; (try go_simp); first | done | with_reducible rfl | exact ⟨rfl, rfl⟩))) | quiet_step ((intro hW; first | (first | (go_at_call 15; refine (HIM.out _ _ _ _ _ _ (HFE.out.keep hW)).mono ?_; rintro e w' ⟨rfl, hk9⟩; exact ⟨rfl, hW.trans hk9⟩) | (go_at_call 17; refine (fdown (HFE.out.keep hW).at_).mono ?_; rintro e w' ⟨rfl, hk9⟩; exact ⟨rfl, hW.trans hk9⟩) | (go_at_call 18; refine (fpending (HFE.out.keep hW).at_).mono ?_; rintro e w' ⟨rfl, hk9⟩; exact ⟨rfl, hW.trans hk9⟩) | (go_at_call 14; refine (HSZ.out _).mono ?_; rintro e w' ⟨rfl, rfl⟩; exact ⟨rfl, hW.alloc _⟩) | (go_at_call 16; refine (HFI.out _).mono ?_; rintro e w' ⟨rfl, hk9⟩; exact ⟨rfl, hW.trans hk9⟩)) | (with_reducible rfl) | (obtain ⟨g0, g1, g2⟩ := (hGe.out.keep hW).cells; (try go_simp); first | done | with_reducible rfl | exact ⟨rfl, rfl⟩))))
        refine wpQuiet_nil ?_
        intro wq hwq
        clear hInh
        go_wp2_with fail
        go_ret
        exact ⟨rfl, (hKa.trans HFE.out.kp).trans hwq⟩
      · have HNN := Lib.hid (fun w => fnew_no P S N image (Or.inr ⟨hR, by omega⟩) his w)
        have HRR := Lib.hid (fun w => rright_yes P S N hR w)
        have HSZ := Lib.hid (fun w => rsize_any P S N hR w)
        have hd0 : decide (P * S * N < (image.size : Int)) = true := by simp; omega
        obtain ⟨g0, g1, g2⟩ := hG0.cells
        go_enter Try.func3, Try.ntmps3
        go_wp2_with fail
        refine (HGE.out _).mono ?_
        rintro e w1 ⟨rfl, hk1⟩
        have hG1 := hG0.keep hk1
        have hK1 := hK0.trans hk1
        clear g0 g1 g2 hG0 hK0 hk1
        obtain ⟨g0, g1, g2⟩ := hG1.cells
        obtain ⟨u0, u1, u2⟩ := hG1.free
        go_wp2_with fail
        have hGa := hG1.put (p' := P) (s' := S) (r' := N)
        have hKa := ((hK1.set (p := ⟨w.heap.size, 0, none⟩) (Nat.le_refl _) (.int .i64 P)).set (p := ⟨w.heap.size, 1, none⟩) (Nat.le_refl _) (.int .i64 S)).set (p := ⟨w.heap.size, 2, none⟩) (Nat.le_refl _) (.int .i64 N)
        generalize ((w1.setCell ⟨w.heap.size, 0, none⟩ (.int .i64 P)).setCell ⟨w.heap.size, 1, none⟩ (.int .i64 S)).setCell ⟨w.heap.size, 2, none⟩ (.int .i64 N) = wa at *
        clear hG1 hK1 g0 g1 g2 u0 u1 u2
        obtain ⟨g0, g1, g2⟩ := hGa.cells
        refine (HNN.out _).mono ?_
        rintro e wb ⟨rfl, hkb⟩
        go_wp2_with fail
        refine (falive _).mono ?_
        rintro e wc ⟨rfl, hkc⟩
        have hGc := hGa.keep (hkb.trans hkc)
        clear g0 g1 g2
        obtain ⟨g0, g1, g2⟩ := hGc.cells
        go_wp2_with fail
        refine (HRR.out _).mono ?_
        rintro e wd ⟨rfl, hwd⟩
        have hkd : Kp wc wd := hwd ▸ Kp.one _ _
        clear hwd
        have hGd := hGc.keep hkd
        clear g0 g1 g2
        obtain ⟨g0, g1, g2⟩ := hGd.cells
        go_wp2_with fail
        refine (HSZ.out _).mono ?_
        rintro e we ⟨rfl, hwe⟩
        have hke : Kp wd we := hwe ▸ Kp.one _ _
        clear hwe
        go_wp2_with fail
        go_ret
        exact ⟨rfl, (((hKa.trans hkb).trans hkc).trans hkd).trans hke⟩
    · have HNN := Lib.hid (fun w => fnew_no P S N image (Or.inl hR) his w)
      have HRR := Lib.hid (fun w => rright_no P S N hR w)
      obtain ⟨g0, g1, g2⟩ := hG0.cells
      go_enter Try.func3, Try.ntmps3
      go_wp2_with fail
      refine (HGE.out _).mono ?_
      rintro e w1 ⟨rfl, hk1⟩
      have hG1 := hG0.keep hk1
      have hK1 := hK0.trans hk1
      clear g0 g1 g2 hG0 hK0 hk1
      obtain ⟨g0, g1, g2⟩ := hG1.cells
      obtain ⟨u0, u1, u2⟩ := hG1.free
      go_wp2_with fail
      have hGa := hG1.put (p' := P) (s' := S) (r' := N)
      have hKa := ((hK1.set (p := ⟨w.heap.size, 0, none⟩) (Nat.le_refl _) (.int .i64 P)).set (p := ⟨w.heap.size, 1, none⟩) (Nat.le_refl _) (.int .i64 S)).set (p := ⟨w.heap.size, 2, none⟩) (Nat.le_refl _) (.int .i64 N)
      generalize ((w1.setCell ⟨w.heap.size, 0, none⟩ (.int .i64 P)).setCell ⟨w.heap.size, 1, none⟩ (.int .i64 S)).setCell ⟨w.heap.size, 2, none⟩ (.int .i64 N) = wa at *
      clear hG1 hK1 g0 g1 g2 u0 u1 u2
      obtain ⟨g0, g1, g2⟩ := hGa.cells
      refine (HNN.out _).mono ?_
      rintro e wb ⟨rfl, hkb⟩
      go_wp2_with fail
      refine (falive _).mono ?_
      rintro e wc ⟨rfl, hkc⟩
      have hGc := hGa.keep (hkb.trans hkc)
      clear g0 g1 g2
      obtain ⟨g0, g1, g2⟩ := hGc.cells
      go_wp2_with fail
      refine (HRR.out _).mono ?_
      rintro e wd ⟨rfl, hwd⟩
      have hkd : Kp wc wd := hwd ▸ Kp.one _ _
      clear hwd
      go_wp2_with fail
      go_ret
      exact ⟨rfl, ((hKa.trans hkb).trans hkc).trans hkd⟩
end Go.Proofs.Ytbclmnlggngepaa
