/- The contract of the reference's FrameRead. -/
import Derived.Test.YtdolclmeflaipaaFrRead
namespace Go.Proofs.Ytdolclmeflaipaa
open Go.RowKit
set_option linter.unusedVariables false

theorem rgetK (s : ByteArray) (k : Nat) (hs : s.size ≤ 9223372036854775807) (h : k + 4 ≤ s.size) (w : World) :
    Calls Try.prog 33 #[.string s, .int .i64 k] w fun e w' => e = .returned (.int .u32 (get4 s k : Nat)) ∧ Kp w w' :=
  (refget_any s k hs h w).mono fun e w' ⟨h1, n, h2⟩ => ⟨h1, h2 ▸ (Kp.refl w).drewN n⟩
set_option maxHeartbeats 800000 in
theorem rread_len (s : ByteArray) (hs : s.size ≤ 9223372036854775807) (h : s.size < 32 ∨ (32 ≤ s.size ∧ 128 < s.size)) (w : World) :
    Calls Try.prog 17 #[.string s] w (ReadPost w noFr 1) := by
  rcases h with h | ⟨h1, h2⟩
  all_goals
    go_enter Try.func17, Try.ntmps17
    go_wp2_with fail
    refine bodyPost_ret (v := .tuple #[frv 0 0 0 ⟨#[]⟩, .int .i64 1]) (by simp [results, Try.results17, go_sem]) rfl ⟨rfl, ?_⟩
    (repeat (first | with_reducible exact Kp.refl _ | with_reducible assumption | with_reducible refine Kp.alloc ?_ _ | with_reducible refine Kp.drew ?_ | with_reducible refine Kp.drewN ?_ _ | exact Kp.refl _ | assumption | refine Kp.alloc ?_ _ | refine Kp.drew ?_ | refine Kp.drewN ?_ _ | refine Kp.trans ?_ (by assumption)))
set_option maxHeartbeats 800000 in
theorem rread_blank (s : ByteArray) (h1 : 32 ≤ s.size) (h2 : s.size ≤ 128) (hb : blankB s = true) (w : World) :
    Calls Try.prog 17 #[.string s] w (ReadPost w noFr 9) := by
  have HBL := Lib.hid (fun W => rblank_any s (by omega) W)
  rw [hb] at HBL
  clear hb
  go_enter Try.func17, Try.ntmps17
  go_wp2_with fail
  refine (HBL.out _).mono ?_
  rintro e w1 ⟨rfl, rfl⟩
  go_wp2_with fail
  refine bodyPost_ret (v := .tuple #[frv 0 0 0 ⟨#[]⟩, .int .i64 9]) (by simp [results, Try.results17, go_sem]) rfl ⟨rfl, ?_⟩
  (repeat (first | with_reducible exact Kp.refl _ | with_reducible assumption | with_reducible refine Kp.alloc ?_ _ | with_reducible refine Kp.drew ?_ | with_reducible refine Kp.drewN ?_ _ | exact Kp.refl _ | assumption | refine Kp.alloc ?_ _ | refine Kp.drew ?_ | refine Kp.drewN ?_ _ | refine Kp.trans ?_ (by assumption)))
set_option maxRecDepth 20000 in
set_option maxHeartbeats 1600000 in
theorem rread_sum (s : ByteArray) (h1 : 32 ≤ s.size) (h2 : s.size ≤ 128) (hb : blankB s = false) (hS : ¬ SumOk s) (w : World) :
    Calls Try.prog 17 #[.string s] w (ReadPost w noFr 5) := by
  have HBL := Lib.hid (fun W => rblank_any s (by omega) W)
  rw [hb] at HBL
  have hb2 := hb
  have hby : ∀ i (h : i < s.size), (s[i]'h).toNat = byteAt s i := fun i h => (byteAt_get s i h).symm
  have z0 : (byteAt s 0 : Int) < 256 := by have := byteAt_lt s 0; omega
  have z9 : (byteAt s 9 : Int) < 256 := by have := byteAt_lt s 9; omega
  have z10 : (byteAt s 10 : Int) < 256 := by have := byteAt_lt s 10; omega
  have p9 : 9 < s.size := by omega
  have p10 : 10 < s.size := by omega
  have p0 : 0 < s.size := by omega
  have hsum : ((get4 s (s.size - 4) : Int) != (crcN (s.extract 0 (s.size - 4)) : Int)) = true := by have : ¬ (get4 s (s.size - 4) = crcN (s.extract 0 (s.size - 4))) := hS; simp; omega
  clear hS
  have q0 : 4 ≤ (s.size : Int) := by omega
  have hes : (s.extract 0 (s.size - 4)).size ≤ 9223372036854775807 := by rw [ext_size _ _ _ (by omega)]; omega
  have q2 : 0 ≤ (s.size : Int) - 4 := by omega
  have q3 : (s.size : Int) - 4 ≤ (s.size : Int) := by omega
  have q4 : ((s.size : Int) - 4).toNat = s.size - 4 := by omega
  have HGT := Lib.hid (fun W => rgetK s (s.size - 4) (by omega) (by omega) W)
  have hcast : ((s.size - 4 : Nat) : Int) = (s.size : Int) - 4 := by omega
  rw [hcast] at HGT
  clear hb hcast
  go_enter Try.func17, Try.ntmps17
  go_wp2_with fail
  refine (HBL.out _).mono ?_
  rintro e w1 ⟨rfl, rfl⟩
  have hR0 := Bk.new w 26 [.int .i64 0, .int .u32 0, .int .u32 0, .string ⟨#[]⟩]
  have hK1 := Kp.one w (fob 0 0 0 ⟨#[]⟩)
  go_wp2_with fail
  generalize hw1 : w.alloc (fob 0 0 0 ⟨#[]⟩) = w1 at *
  have hInh := fun (x v : Value) => (⟨fun h => h _ ((Kp.refl w1).drew), fun h _ _ => h⟩ : (∀ W, (fun W => Kp w1 W) W → x = v) ↔ x = v)
  dsimp only at hInh
  refine wp_region_quietC (C := fun W => Kp w1 W) (by kernel_rfl) (by kernel_rfl) ((Kp.refl w1).drew) ?_
  repeat (first | go_big_quiet_step ((intro hW; first | (first | (go_at_call 33; refine (HGT.out _).mono ?_; rintro e w' ⟨rfl, hk9⟩; exact ⟨rfl, hW.trans hk9⟩) | (go_at_call 22; refine (refcrc_any _ hes _).mono ?_; rintro e w' ⟨rfl, rfl⟩; exact ⟨rfl, hW⟩)) | (with_reducible rfl) | (skip; (try go_simp); first | done | with_reducible rfl | exact ⟨rfl, rfl⟩))) | quiet_step ((intro hW; first | (first | (go_at_call 33; refine (HGT.out _).mono ?_; rintro e w' ⟨rfl, hk9⟩; exact ⟨rfl, hW.trans hk9⟩) | (go_at_call 22; refine (refcrc_any _ hes _).mono ?_; rintro e w' ⟨rfl, rfl⟩; exact ⟨rfl, hW⟩)) | (with_reducible rfl) | (skip; (try go_simp); first | done | with_reducible rfl | exact ⟨rfl, rfl⟩))))
  refine wpQuiet_nil ?_
  intro wq hwq
  clear hInh
  have hR7 := hR0.keep hwq
  have hK7 := hK1.trans hwq
  have hfr := fun i => hR7.free i
  obtain ⟨r0, r1, r2, r3⟩ : wq.cell? ⟨w.heap.size, 0, none⟩ = some (.int .i64 0) ∧ wq.cell? ⟨w.heap.size, 1, none⟩ = some (.int .u32 0) ∧ wq.cell? ⟨w.heap.size, 2, none⟩ = some (.int .u32 0) ∧ wq.cell? ⟨w.heap.size, 3, none⟩ = some (.string ⟨#[]⟩) := ⟨hR7.cell 0, hR7.cell 1, hR7.cell 2, hR7.cell 3⟩
  clear hR0 hK1 hwq hw1 HGT HBL
  go_wp2_with fail
  have hR9 := (((hR7.put 0 (.int .i64 0)).put 1 (.int .u32 0)).put 2 (.int .u32 0)).put 3 (.string ⟨#[]⟩)
  have hK9 := (((hK7.set (p := ⟨w.heap.size, 0, none⟩) (Nat.le_refl _) (.int .i64 0)).set (p := ⟨w.heap.size, 1, none⟩) (Nat.le_refl _) (.int .u32 0)).set (p := ⟨w.heap.size, 2, none⟩) (Nat.le_refl _) (.int .u32 0)).set (p := ⟨w.heap.size, 3, none⟩) (Nat.le_refl _) (.string ⟨#[]⟩)
  generalize (((wq.setCell ⟨w.heap.size, 0, none⟩ (.int .i64 0)).setCell ⟨w.heap.size, 1, none⟩ (.int .u32 0)).setCell ⟨w.heap.size, 2, none⟩ (.int .u32 0)).setCell ⟨w.heap.size, 3, none⟩ (.string ⟨#[]⟩) = w9 at *
  have x0 : w9.cell? ⟨w.heap.size, 0, none⟩ = some (.int .i64 0) := hR9.cell 0
  have x1 : w9.cell? ⟨w.heap.size, 1, none⟩ = some (.int .u32 0) := hR9.cell 1
  have x2 : w9.cell? ⟨w.heap.size, 2, none⟩ = some (.int .u32 0) := hR9.cell 2
  have x3 : w9.cell? ⟨w.heap.size, 3, none⟩ = some (.string ⟨#[]⟩) := hR9.cell 3
  refine bodyPost_ret (v := .tuple #[frv 0 0 0 ⟨#[]⟩, .int .i64 5]) (by simp [results, Try.results17, go_sem, x0, x1, x2, x3]) rfl ⟨rfl, hK9⟩

set_option maxRecDepth 20000 in
set_option maxHeartbeats 6400000 in
theorem rread_rest (s : ByteArray) (h1 : 32 ≤ s.size) (h2 : s.size ≤ 128) (hb : blankB s = false) (hS : SumOk s) (w : World) :
    Calls Try.prog 17 #[.string s] w (ReadPost w (readF s).1 (readF s).2) := by
  have HBL := Lib.hid (fun W => rblank_any s (by omega) W)
  rw [hb] at HBL
  have hb2 := hb
  have hby : ∀ i (h : i < s.size), (s[i]'h).toNat = byteAt s i := fun i h => (byteAt_get s i h).symm
  have z0 : (byteAt s 0 : Int) < 256 := by have := byteAt_lt s 0; omega
  have z9 : (byteAt s 9 : Int) < 256 := by have := byteAt_lt s 9; omega
  have z10 : (byteAt s 10 : Int) < 256 := by have := byteAt_lt s 10; omega
  have p9 : 9 < s.size := by omega
  have p10 : 10 < s.size := by omega
  have p0 : 0 < s.size := by omega
  have hsum : ((get4 s (s.size - 4) : Int) != (crcN (s.extract 0 (s.size - 4)) : Int)) = false := by have : get4 s (s.size - 4) = crcN (s.extract 0 (s.size - 4)) := hS; simp; omega
  have q0 : 4 ≤ (s.size : Int) := by omega
  have hes : (s.extract 0 (s.size - 4)).size ≤ 9223372036854775807 := by rw [ext_size _ _ _ (by omega)]; omega
  have q2 : 0 ≤ (s.size : Int) - 4 := by omega
  have q3 : (s.size : Int) - 4 ≤ (s.size : Int) := by omega
  have q4 : ((s.size : Int) - 4).toNat = s.size - 4 := by omega
  have HGT := Lib.hid (fun W => rgetK s (s.size - 4) (by omega) (by omega) W)
  have hcast : ((s.size - 4 : Nat) : Int) = (s.size : Int) - 4 := by omega
  rw [hcast] at HGT
  clear hb hcast
  go_enter Try.func17, Try.ntmps17
  go_wp2_with fail
  refine (HBL.out _).mono ?_
  rintro e w1 ⟨rfl, rfl⟩
  have hR0 := Bk.new w 26 [.int .i64 0, .int .u32 0, .int .u32 0, .string ⟨#[]⟩]
  have hK1 := Kp.one w (fob 0 0 0 ⟨#[]⟩)
  go_wp2_with fail
  generalize hw1 : w.alloc (fob 0 0 0 ⟨#[]⟩) = w1 at *
  have hInh := fun (x v : Value) => (⟨fun h => h _ ((Kp.refl w1).drew), fun h _ _ => h⟩ : (∀ W, (fun W => Kp w1 W) W → x = v) ↔ x = v)
  dsimp only at hInh
  refine wp_region_quietC (C := fun W => Kp w1 W) (by kernel_rfl) (by kernel_rfl) ((Kp.refl w1).drew) ?_
  repeat (first | go_big_quiet_step ((intro hW; first | (first | (go_at_call 33; refine (HGT.out _).mono ?_; rintro e w' ⟨rfl, hk9⟩; exact ⟨rfl, hW.trans hk9⟩) | (go_at_call 22; refine (refcrc_any _ hes _).mono ?_; rintro e w' ⟨rfl, rfl⟩; exact ⟨rfl, hW⟩)) | (with_reducible rfl) | (skip; (try go_simp); first | done | with_reducible rfl | exact ⟨rfl, rfl⟩))) | quiet_step ((intro hW; first | (first | (go_at_call 33; refine (HGT.out _).mono ?_; rintro e w' ⟨rfl, hk9⟩; exact ⟨rfl, hW.trans hk9⟩) | (go_at_call 22; refine (refcrc_any _ hes _).mono ?_; rintro e w' ⟨rfl, rfl⟩; exact ⟨rfl, hW⟩)) | (with_reducible rfl) | (skip; (try go_simp); first | done | with_reducible rfl | exact ⟨rfl, rfl⟩))))
  refine wpQuiet_nil ?_
  intro wq hwq
  clear hInh
  have hR7 := hR0.keep hwq
  have hK7 := hK1.trans hwq
  have hfr := fun i => hR7.free i
  obtain ⟨r0, r1, r2, r3⟩ : wq.cell? ⟨w.heap.size, 0, none⟩ = some (.int .i64 0) ∧ wq.cell? ⟨w.heap.size, 1, none⟩ = some (.int .u32 0) ∧ wq.cell? ⟨w.heap.size, 2, none⟩ = some (.int .u32 0) ∧ wq.cell? ⟨w.heap.size, 3, none⟩ = some (.string ⟨#[]⟩) := ⟨hR7.cell 0, hR7.cell 1, hR7.cell 2, hR7.cell 3⟩
  clear hR0 hK1 hwq hw1 HGT HBL
  go_wp2_with fail
  have hInh := fun (x v : Value) => (⟨fun h => h _ ((Kp.refl wq).drew), fun h _ _ => h⟩ : (∀ W, (fun W => Kp wq W) W → x = v) ↔ x = v)
  dsimp only at hInh
  refine wp_region_quietC (C := fun W => Kp wq W) (by kernel_rfl) (by kernel_rfl) ((Kp.refl wq).drew) ?_
  repeat (first | go_big_quiet_step ((intro hW; first | fail | (with_reducible rfl) | (skip; (try go_simp); first | done | with_reducible rfl | exact ⟨rfl, rfl⟩))) | quiet_step ((intro hW; first | fail | (with_reducible rfl) | (skip; (try go_simp); first | done | with_reducible rfl | exact ⟨rfl, rfl⟩))))
  refine wpQuiet_nil ?_
  intro wq hwq
  clear hInh
  have hbl : (byteAt s 9 : Int) + (byteAt s 10 : Int) * 256 = ((bodyLen s : Nat) : Int) := by unfold bodyLen; omega
  rw [hbl]
  have hR8 := hR7.keep hwq
  have hK8 := hK7.trans hwq
  clear hbl hfr r0 r1 r2 r3 hR7 hK7 hwq hsum q0 q2 q3 q4 hes
  obtain ⟨wp, rfl⟩ : ∃ wp : World, wp = wq := ⟨_, rfl⟩
  have hfr := fun i => hR8.free i
  obtain ⟨r0, r1, r2, r3⟩ : wp.cell? ⟨w.heap.size, 0, none⟩ = some (.int .i64 0) ∧ wp.cell? ⟨w.heap.size, 1, none⟩ = some (.int .u32 0) ∧ wp.cell? ⟨w.heap.size, 2, none⟩ = some (.int .u32 0) ∧ wp.cell? ⟨w.heap.size, 3, none⟩ = some (.string ⟨#[]⟩) := ⟨hR8.cell 0, hR8.cell 1, hR8.cell 2, hR8.cell 3⟩
  have hw15 : IntKind.i64.wrap ((s.size : Int) - 15) = (s.size : Int) - 15 := IntWalk.i64_in _ (by omega)
  have hcases : (byteAt s 0 : Int) < 1 ∨ (1 ≤ (byteAt s 0 : Int) ∧ 4 < (byteAt s 0 : Int)) ∨ (1 ≤ (byteAt s 0 : Int) ∧ (byteAt s 0 : Int) ≤ 4 ∧ (s.size : Int) - 15 < (bodyLen s : Int)) ∨ (1 ≤ (byteAt s 0 : Int) ∧ (byteAt s 0 : Int) ≤ 4 ∧ (bodyLen s : Int) ≤ (s.size : Int) - 15) := by omega
  have HCL := Lib.hid (readF_ok s h1 h2 hb2 hS)
  have HCB := Lib.hid (readF_bad s h1 h2 hb2 hS)
  rcases hcases with hc | ⟨hc1, hc⟩ | ⟨hc1, hc2, hc⟩ | ⟨hc1, hc2, hc⟩
  · have HRF := Lib.hid (HCB.out (Or.inl hc))
    have e0 : byteAt s 0 = 0 := by omega
    clear HCL HCB
    go_wp2_with fail
    have hR9 := (((hR8.put 0 (.int .i64 0)).put 1 (.int .u32 0)).put 2 (.int .u32 0)).put 3 (.string ⟨#[]⟩)
    have hK9 := (((hK8.set (p := ⟨w.heap.size, 0, none⟩) (Nat.le_refl _) (.int .i64 0)).set (p := ⟨w.heap.size, 1, none⟩) (Nat.le_refl _) (.int .u32 0)).set (p := ⟨w.heap.size, 2, none⟩) (Nat.le_refl _) (.int .u32 0)).set (p := ⟨w.heap.size, 3, none⟩) (Nat.le_refl _) (.string ⟨#[]⟩)
    generalize (((wp.setCell ⟨w.heap.size, 0, none⟩ (.int .i64 0)).setCell ⟨w.heap.size, 1, none⟩ (.int .u32 0)).setCell ⟨w.heap.size, 2, none⟩ (.int .u32 0)).setCell ⟨w.heap.size, 3, none⟩ (.string ⟨#[]⟩) = w9 at *
    have x0 : w9.cell? ⟨w.heap.size, 0, none⟩ = some (.int .i64 0) := hR9.cell 0
    have x1 : w9.cell? ⟨w.heap.size, 1, none⟩ = some (.int .u32 0) := hR9.cell 1
    have x2 : w9.cell? ⟨w.heap.size, 2, none⟩ = some (.int .u32 0) := hR9.cell 2
    have x3 : w9.cell? ⟨w.heap.size, 3, none⟩ = some (.string ⟨#[]⟩) := hR9.cell 3
    refine bodyPost_ret (v := .tuple #[frv 0 0 0 ⟨#[]⟩, .int .i64 2]) (by simp [results, Try.results17, go_sem, x0, x1, x2, x3]) rfl ⟨by rw [HRF.out]; rfl, hK9⟩

  · have HRF := Lib.hid (HCB.out (Or.inr (Or.inl hc)))
    clear HCL HCB
    go_wp2_with fail
    have hR9 := (((hR8.put 0 (.int .i64 0)).put 1 (.int .u32 0)).put 2 (.int .u32 0)).put 3 (.string ⟨#[]⟩)
    have hK9 := (((hK8.set (p := ⟨w.heap.size, 0, none⟩) (Nat.le_refl _) (.int .i64 0)).set (p := ⟨w.heap.size, 1, none⟩) (Nat.le_refl _) (.int .u32 0)).set (p := ⟨w.heap.size, 2, none⟩) (Nat.le_refl _) (.int .u32 0)).set (p := ⟨w.heap.size, 3, none⟩) (Nat.le_refl _) (.string ⟨#[]⟩)
    generalize (((wp.setCell ⟨w.heap.size, 0, none⟩ (.int .i64 0)).setCell ⟨w.heap.size, 1, none⟩ (.int .u32 0)).setCell ⟨w.heap.size, 2, none⟩ (.int .u32 0)).setCell ⟨w.heap.size, 3, none⟩ (.string ⟨#[]⟩) = w9 at *
    have x0 : w9.cell? ⟨w.heap.size, 0, none⟩ = some (.int .i64 0) := hR9.cell 0
    have x1 : w9.cell? ⟨w.heap.size, 1, none⟩ = some (.int .u32 0) := hR9.cell 1
    have x2 : w9.cell? ⟨w.heap.size, 2, none⟩ = some (.int .u32 0) := hR9.cell 2
    have x3 : w9.cell? ⟨w.heap.size, 3, none⟩ = some (.string ⟨#[]⟩) := hR9.cell 3
    refine bodyPost_ret (v := .tuple #[frv 0 0 0 ⟨#[]⟩, .int .i64 2]) (by simp [results, Try.results17, go_sem, x0, x1, x2, x3]) rfl ⟨by rw [HRF.out]; rfl, hK9⟩

  · have HRF := Lib.hid (HCB.out (Or.inr (Or.inr (Or.inl (by omega)))))
    clear HCL HCB
    have hd : decide ((s.size : Int) - 15 < (bodyLen s : Int)) = true := by simpa using hc
    go_wp2_with fail
    have hR9 := (((hR8.put 0 (.int .i64 0)).put 1 (.int .u32 0)).put 2 (.int .u32 0)).put 3 (.string ⟨#[]⟩)
    have hK9 := (((hK8.set (p := ⟨w.heap.size, 0, none⟩) (Nat.le_refl _) (.int .i64 0)).set (p := ⟨w.heap.size, 1, none⟩) (Nat.le_refl _) (.int .u32 0)).set (p := ⟨w.heap.size, 2, none⟩) (Nat.le_refl _) (.int .u32 0)).set (p := ⟨w.heap.size, 3, none⟩) (Nat.le_refl _) (.string ⟨#[]⟩)
    generalize (((wp.setCell ⟨w.heap.size, 0, none⟩ (.int .i64 0)).setCell ⟨w.heap.size, 1, none⟩ (.int .u32 0)).setCell ⟨w.heap.size, 2, none⟩ (.int .u32 0)).setCell ⟨w.heap.size, 3, none⟩ (.string ⟨#[]⟩) = w9 at *
    have x0 : w9.cell? ⟨w.heap.size, 0, none⟩ = some (.int .i64 0) := hR9.cell 0
    have x1 : w9.cell? ⟨w.heap.size, 1, none⟩ = some (.int .u32 0) := hR9.cell 1
    have x2 : w9.cell? ⟨w.heap.size, 2, none⟩ = some (.int .u32 0) := hR9.cell 2
    have x3 : w9.cell? ⟨w.heap.size, 3, none⟩ = some (.string ⟨#[]⟩) := hR9.cell 3
    refine bodyPost_ret (v := .tuple #[frv 0 0 0 ⟨#[]⟩, .int .i64 2]) (by simp [results, Try.results17, go_sem, x0, x1, x2, x3]) rfl ⟨by rw [HRF.out]; rfl, hK9⟩

  · have hd : decide ((s.size : Int) - 15 < (bodyLen s : Int)) = false := by simp; omega
    have hl : bodyLen s + 15 ≤ s.size := by omega
    have g1 : IntKind.i64.wrap (11 + (bodyLen s : Int)) = 11 + (bodyLen s : Int) := IntWalk.i64_in _ (by omega)
    have g2 : 0 ≤ 11 + (bodyLen s : Int) := by omega
    have g3 : 11 ≤ 11 + (bodyLen s : Int) := by omega
    have g4 : 11 + (bodyLen s : Int) ≤ (s.size : Int) := by omega
    have g5 : (11 + (bodyLen s : Int)).toNat = 11 + bodyLen s := by omega
    have hg1 : ∀ W, Calls Try.prog 33 #[.string s, .int .i64 1] W fun e w' => e = .returned (.int .u32 (get4 s 1 : Nat)) ∧ Kp W w' := fun W => rgetK s 1 (by omega) (by omega) W
    have hg5 : ∀ W, Calls Try.prog 33 #[.string s, .int .i64 5] W fun e w' => e = .returned (.int .u32 (get4 s 5 : Nat)) ∧ Kp W w' := fun W => rgetK s 5 (by omega) (by omega) W
    have HG1 := Lib.hid hg1
    have HG5 := Lib.hid hg5
    clear hg1 hg5
    by_cases hp : Padded s
    · have HRF := Lib.hid (HCL.out ⟨hc1, hc2, hl⟩ hp)
      have HP := Lib.hid hp
      clear HCL HCB hp
      go_wp2_with fail
      go_loop [6] (fun i => ∃ k : Nat, 11 + bodyLen s ≤ k ∧ k ≤ s.size - 4 ∧ i = .int .i64 k) (fun i => s.size - (intOf i).toNat)
      case atStart => exact ⟨11 + bodyLen s, by omega, by omega, by first | rfl | go_num | (congr 1; omega)⟩
      case round =>
        obtain ⟨k, hk1, hk2, rfl⟩ := hrel
        by_cases hlt : k < s.size - 4
        · have hks : k < s.size := by omega
          have hz := HP.out k hk1 hlt
          have hd2 : ((byteAt s k : Int) != 0) = false := by rw [hz]; rfl
          have hlt2 : (k : Int) < (s.size : Int) - 4 := by omega
          clear hz
          go_wp2_with fail
          go_round
          case rel => exact ⟨k + 1, by omega, by omega, by go_num⟩
          case measure => simp [intOf]; omega
        · have hlt2 : ¬ ((k : Int) < (s.size : Int) - 4) := by omega
          go_wp2_with fail
          have hInh := fun (x v : Value) => (⟨fun h => h _ ((Kp.refl wp).drew), fun h _ _ => h⟩ : (∀ W, (fun W => Kp wp W) W → x = v) ↔ x = v)
          dsimp only at hInh
          refine wp_region_head 12 (C := fun W => Kp wp W) (by kernel_rfl) (by kernel_rfl) ((Kp.refl wp).drew) ?_
          simp only [List.take_succ_cons, List.take_zero, List.drop_succ_cons, List.drop_zero]
          repeat (first | go_big_quiet_step ((intro hW; first | (first | (go_at_call 33; (with_reducible refine (HG1.out _).mono ?_); rintro e w' ⟨rfl, hk9⟩; exact ⟨rfl, hW.trans hk9⟩) | (go_at_call 33; (with_reducible refine (HG5.out _).mono ?_); rintro e w' ⟨rfl, hk9⟩; exact ⟨rfl, hW.trans hk9⟩)) | (with_reducible rfl) | (skip; (try go_simp); first | done | with_reducible rfl | exact ⟨rfl, rfl⟩))) | quiet_step ((intro hW; first | (first | (go_at_call 33; (with_reducible refine (HG1.out _).mono ?_); rintro e w' ⟨rfl, hk9⟩; exact ⟨rfl, hW.trans hk9⟩) | (go_at_call 33; (with_reducible refine (HG5.out _).mono ?_); rintro e w' ⟨rfl, hk9⟩; exact ⟨rfl, hW.trans hk9⟩)) | (with_reducible rfl) | (skip; (try go_simp); first | done | with_reducible rfl | exact ⟨rfl, rfl⟩))))
          refine wpQuiet_nil ?_
          intro wq hwq
          clear hInh
          have hR9x := hR8.keep hwq
          have hK9x := hK8.trans hwq
          clear hfr r0 r1 r2 r3
          have hfr := fun i => hR9x.free i
          obtain ⟨r0, r1, r2, r3⟩ : wq.cell? ⟨w.heap.size, 0, none⟩ = some (.int .i64 0) ∧ wq.cell? ⟨w.heap.size, 1, none⟩ = some (.int .u32 0) ∧ wq.cell? ⟨w.heap.size, 2, none⟩ = some (.int .u32 0) ∧ wq.cell? ⟨w.heap.size, 3, none⟩ = some (.string ⟨#[]⟩) := ⟨hR9x.cell 0, hR9x.cell 1, hR9x.cell 2, hR9x.cell 3⟩
          go_wp2_with fail
          have hR9 := (((hR9x.put 0 (.int .i64 (byteAt s 0 : Int))).put 1 (.int .u32 (get4 s 1 : Nat))).put 2 (.int .u32 (get4 s 5 : Nat))).put 3 (.string (fBody s))
          have hK9 := (((hK9x.set (p := ⟨w.heap.size, 0, none⟩) (Nat.le_refl _) (.int .i64 (byteAt s 0 : Int))).set (p := ⟨w.heap.size, 1, none⟩) (Nat.le_refl _) (.int .u32 (get4 s 1 : Nat))).set (p := ⟨w.heap.size, 2, none⟩) (Nat.le_refl _) (.int .u32 (get4 s 5 : Nat))).set (p := ⟨w.heap.size, 3, none⟩) (Nat.le_refl _) (.string (fBody s))
          generalize (((wq.setCell ⟨w.heap.size, 0, none⟩ (.int .i64 (byteAt s 0 : Int))).setCell ⟨w.heap.size, 1, none⟩ (.int .u32 (get4 s 1 : Nat))).setCell ⟨w.heap.size, 2, none⟩ (.int .u32 (get4 s 5 : Nat))).setCell ⟨w.heap.size, 3, none⟩ (.string (fBody s)) = w9 at *
          have x0 : w9.cell? ⟨w.heap.size, 0, none⟩ = some (.int .i64 (byteAt s 0 : Int)) := hR9.cell 0
          have x1 : w9.cell? ⟨w.heap.size, 1, none⟩ = some (.int .u32 (get4 s 1 : Nat)) := hR9.cell 1
          have x2 : w9.cell? ⟨w.heap.size, 2, none⟩ = some (.int .u32 (get4 s 5 : Nat)) := hR9.cell 2
          have x3 : w9.cell? ⟨w.heap.size, 3, none⟩ = some (.string (fBody s)) := hR9.cell 3
          refine bodyPost_ret (v := .tuple #[frv (fKind s) (fA s) (fB s) (fBody s), .int .i64 0]) (by simp [results, Try.results17, go_sem, x0, x1, x2, x3]) rfl ⟨by rw [HRF.out], hK9⟩

    · have HRF := Lib.hid (HCB.out (Or.inr (Or.inr (Or.inr hp))))
      obtain ⟨x, hx1, hx2, hx3⟩ : ∃ x, 11 + bodyLen s ≤ x ∧ x < s.size - 4 ∧ byteAt s x ≠ 0 := by
        simp only [Padded, Classical.not_forall] at hp
        obtain ⟨x, a1, a2, a3⟩ := hp
        exact ⟨x, a1, a2, a3⟩
      clear HCL HCB hp
      go_wp2_with fail
      go_loop [6] (fun i => ∃ k : Nat, 11 + bodyLen s ≤ k ∧ k ≤ x ∧ i = .int .i64 k) (fun i => s.size - (intOf i).toNat)
      case atStart => exact ⟨11 + bodyLen s, by omega, by omega, by first | rfl | go_num | (congr 1; omega)⟩
      case round =>
        obtain ⟨k, hk1, hk2, rfl⟩ := hrel
        have hks : k < s.size := by omega
        have hlt2 : (k : Int) < (s.size : Int) - 4 := by omega
        by_cases hz : byteAt s k = 0
        · have hd2 : ((byteAt s k : Int) != 0) = false := by rw [hz]; rfl
          have hkx : k ≠ x := fun e => hx3 (e ▸ hz)
          clear hz
          go_wp2_with fail
          go_round
          case rel => exact ⟨k + 1, by omega, by omega, by go_num⟩
          case measure => simp [intOf]; omega
        · have hd2 : ((byteAt s k : Int) != 0) = true := by simp; omega
          clear hz
          go_wp2_with fail
          have hR9 := (((hR8.put 0 (.int .i64 0)).put 1 (.int .u32 0)).put 2 (.int .u32 0)).put 3 (.string ⟨#[]⟩)
          have hK9 := (((hK8.set (p := ⟨w.heap.size, 0, none⟩) (Nat.le_refl _) (.int .i64 0)).set (p := ⟨w.heap.size, 1, none⟩) (Nat.le_refl _) (.int .u32 0)).set (p := ⟨w.heap.size, 2, none⟩) (Nat.le_refl _) (.int .u32 0)).set (p := ⟨w.heap.size, 3, none⟩) (Nat.le_refl _) (.string ⟨#[]⟩)
          generalize (((wp.setCell ⟨w.heap.size, 0, none⟩ (.int .i64 0)).setCell ⟨w.heap.size, 1, none⟩ (.int .u32 0)).setCell ⟨w.heap.size, 2, none⟩ (.int .u32 0)).setCell ⟨w.heap.size, 3, none⟩ (.string ⟨#[]⟩) = w9 at *
          have x0 : w9.cell? ⟨w.heap.size, 0, none⟩ = some (.int .i64 0) := hR9.cell 0
          have x1 : w9.cell? ⟨w.heap.size, 1, none⟩ = some (.int .u32 0) := hR9.cell 1
          have x2 : w9.cell? ⟨w.heap.size, 2, none⟩ = some (.int .u32 0) := hR9.cell 2
          have x3 : w9.cell? ⟨w.heap.size, 3, none⟩ = some (.string ⟨#[]⟩) := hR9.cell 3
          refine bodyPost_ret (v := .tuple #[frv 0 0 0 ⟨#[]⟩, .int .i64 2]) (by simp [results, Try.results17, go_sem, x0, x1, x2, x3]) rfl ⟨by rw [HRF.out]; rfl, hK9⟩

/-- FrameRead, of any text. -/
theorem rread_any (s : ByteArray) (hs : s.size ≤ 9223372036854775807) (w : World) :
    Calls Try.prog 17 #[.string s] w fun e w' => e = .returned (.tuple #[(readF s).1.v, .int .i64 (readF s).2]) ∧ Kp w w' := by
  show Calls Try.prog 17 #[.string s] w (ReadPost w (readF s).1 (readF s).2)
  by_cases hl : s.size < 32 ∨ 128 < s.size
  · have : readF s = (noFr, 1) := if_pos hl
    rw [this]
    exact rread_len s hs (by omega) w
  · rcases hb : blankB s with _ | _
    · by_cases hS : SumOk s
      · exact rread_rest s (by omega) (by omega) hb hS w
      · have : readF s = (noFr, 5) := by unfold readF; rw [if_neg hl, if_neg (by rw [hb]; simp), if_pos hS]
        rw [this]
        exact rread_sum s (by omega) (by omega) hb hS w
    · have : readF s = (noFr, 9) := by unfold readF; rw [if_neg hl, if_pos hb]
      rw [this]
      exact rread_blank s (by omega) (by omega) hb w
end Go.Proofs.Ytdolclmeflaipaa
