/- Merged texts: LawScan2. -/
import Derived.Test.YtecelmhiffcaeaaGT
set_option linter.unusedSimpArgs false
set_option linter.unusedVariables false
/- The walk of ScanImages. -/
namespace Go.Proofs.Ytecelmhiffcaeaa
open Go.RowKit
set_option linter.unusedVariables false
set_option maxRecDepth 20000
set_option maxHeartbeats 6400000 in
theorem ScanImages_walk (w : World) (p s r : Int) (wp : (Lit.int .i64 p).wf = true) (ws : (Lit.int .i64 s).wf = true) (wr : (Lit.int .i64 r).wf = true) (image : ByteArray) (wi : image.size ≤ 140737488351232) :
    Calls Try.prog 3 #[geo p s r, .string image] w fun e w' => e = .returned (.bool true) ∧ Kp w w' := by
  have bp := bounds_i64 wp
  have bs := bounds_i64 ws
  have br := bounds_i64 wr
  clear wp ws wr
  obtain ⟨P, S, n, hP, hS, hn, hR, hn7, hS6, hP64⟩ := small_geom p s r
  have HGE := Lib.hid (fun w => bgeom_any p s r bp bs br w)
  rw [hP, hS, hn] at HGE
  clear hP hS hn
  obtain ⟨m1, m2, m3, m4⟩ := mul3 hR
  have HSZ := Lib.hid (fun W => rsizeK P S n hR W)
  obtain ⟨N, hN⟩ : ∃ N : Nat, P * S * n = (N : Int) := ⟨(P * S * n).toNat, by omega⟩
  have HSH := Lib.hid (fun W => short_any image N (by omega) (by omega) W)
  have hle : ((image.extract 0 N).size : Int) ≤ P * S * n := by rw [ByteArray.size_extract]; omega
  have HTL := Lib.hid (fun W => tells_any P S n hR (image.extract 0 N) hle W)
  rw [hN] at HSZ
  generalize image.extract 0 N = im at *
  clear hle hN m1 m2 m3 m4
  go_enter Try.func3, Try.ntmps3
  go_wp2_with fail
  refine (HGE.out _).mono ?_
  rintro e w1 ⟨rfl, hk1⟩
  have hB := (Bk.new w 23 [.int .i64 p, .int .i64 s, .int .i64 r]).keep hk1
  have hK := (Kp.one w (.cells [.int .i64 p, .int .i64 s, .int .i64 r].toArray 23)).trans hk1
  clear hk1
  obtain ⟨c0, c1, c2⟩ := hB.c3g
  have f0 := hB.free 0
  have f1 := hB.free 1
  have f2 := hB.free 2
  go_wp2_with fail
  obtain ⟨hB2, hK2⟩ := put3 hB hK (Nat.le_refl _) (.int .i64 P) (.int .i64 S) (.int .i64 n)
  clear c0 c1 c2 f0 f1 f2 hB hK
  generalize ((w1.setCell ⟨w.heap.size, 0, none⟩ (.int .i64 P)).setCell ⟨w.heap.size, 1, none⟩ (.int .i64 S)).setCell ⟨w.heap.size, 2, none⟩ (.int .i64 n) = w2 at *
  have HC := Lib.hid (fun W' (k : Kp w2 W') => (hB2.keep k).c3g)
  have hInh := fun (x v : Value) => (⟨fun h => h _ ((Kp.refl _).drew), fun h _ _ => h⟩ : (∀ Wz9, (fun W' => Kp w2 W') Wz9 → x = v) ↔ x = v)
  dsimp only at hInh
  refine wp_region_quietC (C := fun W' => Kp w2 W') (by kernel_rfl) (by kernel_rfl) ((Kp.refl _).drew) ?_
  repeat (first | go_big_quiet_step ((intro hW; first | (first | (go_at_call 9; refine (salive _).mono ?_; rintro e w' ⟨rfl, hk9⟩; exact ⟨rfl, hW.trans hk9⟩) | (go_at_call 12; refine (HSZ.out _).mono ?_; rintro e w' ⟨rfl, hk9⟩; exact ⟨rfl, hW.trans hk9⟩) | (go_at_call 11; refine (HSH.out _).mono ?_; rintro e w' ⟨rfl, rfl⟩; exact ⟨rfl, hW⟩) | (go_at_call 10; refine (HTL.out _).mono ?_; rintro e w' ⟨rfl, hk9⟩; exact ⟨rfl, hW.trans hk9⟩)) | (with_reducible rfl) | (obtain ⟨c0, c1, c2⟩ := HC.out _ hW; (try go_simp); first | done | with_reducible rfl | exact ⟨rfl, rfl⟩))) | quiet_step ((intro hW; first | (first | (go_at_call 9; refine (salive _).mono ?_; rintro e w' ⟨rfl, hk9⟩; exact ⟨rfl, hW.trans hk9⟩) | (go_at_call 12; refine (HSZ.out _).mono ?_; rintro e w' ⟨rfl, hk9⟩; exact ⟨rfl, hW.trans hk9⟩) | (go_at_call 11; refine (HSH.out _).mono ?_; rintro e w' ⟨rfl, rfl⟩; exact ⟨rfl, hW⟩) | (go_at_call 10; refine (HTL.out _).mono ?_; rintro e w' ⟨rfl, hk9⟩; exact ⟨rfl, hW.trans hk9⟩)) | (with_reducible rfl) | (obtain ⟨c0, c1, c2⟩ := HC.out _ hW; (try go_simp); first | done | with_reducible rfl | exact ⟨rfl, rfl⟩))))
  refine wpQuiet_nil ?_
  intro wq hwq
  clear hInh
  go_wp2_with fail
  go_ret
  exact ⟨rfl, hK2.trans hwq⟩
end Go.Proofs.Ytecelmhiffcaeaa
