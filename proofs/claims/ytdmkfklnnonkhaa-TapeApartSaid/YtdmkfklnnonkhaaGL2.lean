/- Merged texts: LawTape2. -/
import Derived.Test.YtdmkfklnnonkhaaGH
import Derived.Test.YtdmkfklnnonkhaaGA
/- The walk of TapeApart. -/
namespace Go.Proofs.Ytdmkfklnnonkhaa
open Go.RowKit
set_option linter.unusedVariables false
set_option maxRecDepth 20000

set_option maxHeartbeats 800000 in
theorem tapp_nil (W : World) : Calls Try.prog 12 #[.pointer none, frv 0 0 0 ⟨#[]⟩] W fun e w' => e = .returned (.tuple #[.int .i64 0, .int .i64 1]) ∧ Kp W w' := by
  go_enter Try.func12, Try.ntmps12
  go_wp2_with fail
  refine (tready_nil _).mono ?_
  rintro e w1 ⟨rfl, hk1⟩
  go_wp2_with fail
  go_ret2
  exact ⟨rfl, (Kp.one W (fob 0 0 0 ⟨#[]⟩)).trans hk1⟩
set_option maxHeartbeats 800000 in
theorem tflush_nil (W : World) : Calls Try.prog 22 #[.pointer none] W fun e w' => e = .returned (.int .i64 1) ∧ Kp W w' := by
  go_enter Try.func22, Try.ntmps22
  go_wp2_with fail
  refine (tready_nil _).mono ?_
  rintro e w1 ⟨rfl, hk1⟩
  go_wp2_with fail
  go_ret
  exact ⟨rfl, hk1⟩
set_option maxHeartbeats 800000 in
theorem terase_nil (k : Int) (W : World) : Calls Try.prog 25 #[.pointer none, .int .i64 k] W fun e w' => e = .returned (.int .i64 1) ∧ Kp W w' := by
  go_enter Try.func25, Try.ntmps25
  go_wp2_with fail
  refine (tready_nil _).mono ?_
  rintro e w1 ⟨rfl, hk1⟩
  go_wp2_with fail
  go_ret
  exact ⟨rfl, hk1⟩
set_option maxHeartbeats 12800000 in
theorem TapeApart_walk (w : World) (p s r : Int) (wp : (Lit.int .i64 p).wf = true) (ws : (Lit.int .i64 s).wf = true) (wr : (Lit.int .i64 r).wf = true) (p2 s2 r2 : Int) (wp2 : (Lit.int .i64 p2).wf = true) (ws2 : (Lit.int .i64 s2).wf = true) (wr2 : (Lit.int .i64 r2).wf = true) :
    Calls Try.prog 7 #[geo p s r, geo p2 s2 r2] w fun e w' => e = .returned (.bool true) ∧ Kp w w' := by
  have bp := bounds_i64 wp
  have bs := bounds_i64 ws
  have br := bounds_i64 wr
  have bp2 := bounds_i64 wp2
  have bs2 := bounds_i64 ws2
  have br2 := bounds_i64 wr2
  clear wp ws wr wp2 ws2 wr2
  obtain ⟨P, S, n, hP, hS, hn, hR, hn7, hS6, hP64⟩ := small_geom p s r
  obtain ⟨P2, S2, n2, hP2, hS2, hn2, hR2, hn72, hS62, hP642⟩ := small_geom p2 s2 r2
  have HGE := Lib.hid (fun w => bgeom_any p s r bp bs br w)
  rw [hP, hS, hn] at HGE
  have HGE2 := Lib.hid (fun w => bgeom_any p2 s2 r2 bp2 bs2 br2 w)
  rw [hP2, hS2, hn2] at HGE2
  clear hP hS hn hP2 hS2 hn2
  have hle : (((⟨#[]⟩ : ByteArray).size : Nat) : Int) ≤ P * S * n := by have := (mul3 hR).2.2.1; show ((0 : Nat) : Int) ≤ _; omega
  have HNF := Lib.hid (fun W => new_S hR ⟨#[]⟩ hle W)
  have HNC := Lib.hid (fun W => cnew_yes P2 S2 n2 hR2 W)
  have HAL := Lib.hid talive
  have HAN := Lib.hid tapp_nil
  have hrl : (List.replicate n2 ((0 : Int), (0 : Int))).length = n2 := List.length_replicate
  have HRL := Lib.hid hrl
  clear hle hrl
  have hz1 : (w.alloc (gob p s r)).heap.size = w.heap.size + 1 := by simp
  have hB0 := ((Bk.new w 23 [.int .i64 p, .int .i64 s, .int .i64 r]).alloc (gob p2 s2 r2))
  have hX0 := (Bk.new (w.alloc (gob p s r)) 23 [.int .i64 p2, .int .i64 s2, .int .i64 r2])
  rw [hz1] at hX0
  have hK0 := ((Kp.one w (gob p s r)).alloc (gob p2 s2 r2))
  clear hz1
  go_enter Try.func7, Try.ntmps7
  go_wp2_with fail
  change Bk ((w.alloc (gob p s r)).alloc (gob p2 s2 r2)) _ _ _ at hB0
  change Bk ((w.alloc (gob p s r)).alloc (gob p2 s2 r2)) _ _ _ at hX0
  generalize (w.alloc (gob p s r)).alloc (gob p2 s2 r2) = w0 at *
  have HC0 := Lib.hid (fun W (kk : Kp w0 W) => And.intro ((hB0.keep kk).c3g) ((hX0.keep kk).c3g))
  have hInh := fun (x v : Value) => (⟨fun h => h _ ((Kp.refl _).drew), fun h _ _ => h⟩ : (∀ Wz9, (fun W => Kp w0 W) Wz9 → x = v) ↔ x = v)
  dsimp only at hInh
  refine wp_region_head 4 (C := fun W => Kp w0 W) (by kernel_rfl) (by kernel_rfl) ((Kp.refl _).drew) ?_
  simp only [List.take_succ_cons, List.take_zero, List.drop_succ_cons, List.drop_zero]
  repeat (first | go_big_quiet_step ((intro hW; first | (first | (go_at_call 8; with_reducible refine (HGE.out _).mono ?_; rintro e w' ⟨rfl, hk9⟩; exact ⟨rfl, hW.trans hk9⟩) | (go_at_call 8; with_reducible refine (HGE2.out _).mono ?_; rintro e w' ⟨rfl, hk9⟩; exact ⟨rfl, hW.trans hk9⟩)) | (with_reducible rfl) | (obtain ⟨⟨c0, c1, c2⟩, x0, x1, x2⟩ := HC0.out _ hW; (try go_simp); first | done | with_reducible rfl | exact ⟨rfl, rfl⟩))) | quiet_step ((intro hW; first | (first | (go_at_call 8; with_reducible refine (HGE.out _).mono ?_; rintro e w' ⟨rfl, hk9⟩; exact ⟨rfl, hW.trans hk9⟩) | (go_at_call 8; with_reducible refine (HGE2.out _).mono ?_; rintro e w' ⟨rfl, hk9⟩; exact ⟨rfl, hW.trans hk9⟩)) | (with_reducible rfl) | (obtain ⟨⟨c0, c1, c2⟩, x0, x1, x2⟩ := HC0.out _ hW; (try go_simp); first | done | with_reducible rfl | exact ⟨rfl, rfl⟩))))
  refine wpQuiet_nil ?_
  intro wq hwq
  clear hInh
  have hB1 := hB0.keep hwq
  have hX1 := hX0.keep hwq
  have hK1 := hK0.trans hwq
  clear HC0 hB0 hX0 hK0 hwq HGE HGE2
  obtain ⟨c0, c1, c2⟩ := hB1.c3g
  obtain ⟨x0, x1, x2⟩ := hX1.c3g
  have f0 := hB1.free 0
  have f1 := hB1.free 1
  have f2 := hB1.free 2
  obtain ⟨hB2, hK2⟩ := put3 hB1 hK1 (Nat.le_refl _) (.int .i64 P) (.int .i64 S) (.int .i64 n)
  have hX2 := far3 (g := w.heap.size) hX1 (by omega) (.int .i64 P) (.int .i64 S) (.int .i64 (n : Int))
  obtain ⟨y0, y1, y2⟩ := hX2.c3g
  have z0 := hX2.free 0
  have z1 := hX2.free 1
  have z2 := hX2.free 2
  obtain ⟨hX3, hK3⟩ := put3 hX2 hK2 (by omega) (.int .i64 P2) (.int .i64 S2) (.int .i64 n2)
  have hB3 := far3 (g := w.heap.size + 1) hB2 (by omega) (.int .i64 P2) (.int .i64 S2) (.int .i64 (n2 : Int))
  have HB3 := Lib.hid hB3
  have HX3 := Lib.hid hX3
  have HK3 := Lib.hid hK3
  clear hB2 hX2 hB3 hX3 hK2 hK3 hB1 hX1 hK1
  go_wp2_with fail
  have HC1 := Lib.hid (fun W (kk : Kp _ W) => And.intro ((HB3.out.keep kk).c3g) ((HX3.out.keep kk).c3g))
  generalize ((((((wq.setCell ⟨w.heap.size, 0, none⟩ (.int .i64 P)).setCell ⟨w.heap.size, 1, none⟩ (.int .i64 S)).setCell ⟨w.heap.size, 2, none⟩ (.int .i64 (n : Int))).setCell ⟨w.heap.size + 1, 0, none⟩ (.int .i64 P2)).setCell ⟨w.heap.size + 1, 1, none⟩ (.int .i64 S2)).setCell ⟨w.heap.size + 1, 2, none⟩ (.int .i64 (n2 : Int))) = w2 at *
  have HK := Lib.hid HK3.out
  have HC := HC1
  clear HC1 HB3 HX3 HK3 c0 c1 c2 x0 x1 x2 y0 y1 y2 f0 f1 f2 z0 z1 z2
  refine (HNF.out _).mono ?_
  rintro e w3 ⟨g, ib, ic, v, rfl, hf⟩
  have hk3 := hf.kp
  obtain ⟨⟨c0, c1, c2⟩, x0, x1, x2⟩ := HC.out _ hk3
  go_wp2_with fail
  refine (HNC.out _).mono ?_
  rintro e w4 ⟨h, q, rfl, -, -, hc, hk4⟩
  clear c0 c1 c2 x0 x1 x2
  go_wp2_with fail
  refine (HAL.out _).mono ?_
  rintro e w5 ⟨rfl, hk5⟩
  go_wp2_with fail
  refine (HAN.out _).mono ?_
  rintro e w6 ⟨rfl, hk6⟩
  have hK6 := ((hk3.trans hk4).trans hk5).trans hk6
  have hf6 := (hf.keep ((hk4.trans hk5).trans hk6)).at_
  have hc6 := hc.keep (hk5.trans hk6)
  have HN1 := Lib.hid (fun W => tapenew_nil1 (.pointer (some ⟨h, 0, none⟩)) ⟨_, rfl⟩ W)
  have HN2 := Lib.hid (fun W => tapenew_nil2 g W)
  have HFL := Lib.hid tflush_nil
  have HER := Lib.hid (fun W => terase_nil 0 W)
  by_cases heq : P = P2 ∧ S = S2 ∧ (n : Int) = (n2 : Int)
  · obtain ⟨rfl, rfl, hnn⟩ := heq
    obtain rfl : n = n2 := by omega
    have HTN := Lib.hid (fun W (kk : Kp w6 W) => tapenew_yes (l := List.replicate n (0, 0)) (by rw [HRL.out]; exact hf6.keep kk) (hc6.keep kk))
    clear hf hc hf6 hc6 hk3 hk4 hk5 hk6 hnn HNF HNC HAL HAN
    go_wp2_with fail
    refine wp_region_rel (R := Kp) (C := fun W' => Kp w6 W') (by kernel_rfl) (by kernel_rfl) (Kp.refl w6).drew (fun _ _ h k => h.trans k) Kp.refl (fun _ _ _ h k => h.trans k) ?_
    repeat (refine wpRel_step (fun K hK => ?_); apply rel_eq; (case ob => (intro f W hW hd; (obtain ⟨⟨c0, c1, c2⟩, x0, x1, x2⟩ := HC.out _ (hK6.trans hW)); (try simp [deps, factOf, Region.binds] at hd); unfold relOp; go_simp; (first | exact ⟨Kp.refl _, rfl⟩ | exact Kp.refl _ | (refine ⟨Kp.refl _, ?_⟩; fail)))); go_simp; refine hK _ _ ?_; clear hK K)
    refine wpRel_step (fun K hK => ?_)
    apply rel_fact (fun v _ => ∃ tb, v = .pointer (some ⟨tb, 0, none⟩)) (fun _ _ _ _ h => h)
    case ob =>
      intro f W hW hd
      skip
      (try simp [deps, factOf, Region.binds] at hd)
      unfold relOp
      go_simp
      (refine ⟨Kp.refl _, ?_⟩; go_at_call 28; refine (HTN.out _ hW).mono ?_; rintro e w' ⟨tb, rfl, -, -, hk9⟩; exact ⟨_, rfl, hk9, tb, rfl⟩)
    go_simp
    refine hK _ _ ?_
    clear hK K
    refine wpRel_step (fun K hK => ?_)
    apply rel_fact (fun v _ => v = .bool true) (fun _ _ _ _ h => h)
    case ob =>
      intro f W hW hd
      (simp [deps, factOf, Region.binds] at hd; obtain ⟨tb, e2⟩ := hd)
      (try simp [deps, factOf, Region.binds] at hd)
      unfold relOp
      go_simp
      first | exact ⟨Kp.refl _, rfl⟩ | exact Kp.refl _
    go_simp
    refine hK _ _ ?_
    clear hK K
    repeat (refine wpRel_step (fun K hK => ?_); apply rel_eq; (case ob => (intro f W hW hd; (obtain ⟨⟨c0, c1, c2⟩, x0, x1, x2⟩ := HC.out _ (hK6.trans hW)); (try simp [deps, factOf, Region.binds] at hd); unfold relOp; go_simp; (first | exact ⟨Kp.refl _, rfl⟩ | exact Kp.refl _ | (refine ⟨Kp.refl _, ?_⟩; (first | (go_at_call 28; with_reducible refine (HN1.out _).mono ?_; rintro e w' ⟨rfl, hk9⟩; exact ⟨rfl, hk9⟩) | (go_at_call 28; with_reducible refine (HN2.out _).mono ?_; rintro e w' ⟨rfl, hk9⟩; exact ⟨rfl, hk9⟩) | (go_at_call 22; refine (HFL.out _).mono ?_; rintro e w' ⟨rfl, hk9⟩; exact ⟨rfl, hk9⟩) | (go_at_call 25; refine (HER.out _).mono ?_; rintro e w' ⟨rfl, hk9⟩; exact ⟨rfl, hk9⟩)))))); go_simp; refine hK _ _ ?_; clear hK K)
    refine wpRel_nil ?_
    intro f W' hW hall
    have h32 : f 32 = .bool true := allF_get hall 32 _ rfl
    clear hall HC HN1 HN2 HFL HER
    dsimp only
    rw [h32]
    go_wp2_with fail
    go_ret
    exact ⟨rfl, (HK.out.trans hK6).trans hW⟩
  · have HTN := Lib.hid (fun W (kk : Kp w6 W) => tapenew_no (hf6.keep kk) (hc6.keep kk) (by rw [HRL.out]; exact heq))
    have hcases : (P == P2) = false ∨ ((P == P2) = true ∧ (S == S2) = false) ∨ ((P == P2) = true ∧ (S == S2) = true ∧ ((n : Int) == (n2 : Int)) = false) := by
      rcases hx : (P == P2) with _ | _
      · exact Or.inl rfl
      · rcases hy : (S == S2) with _ | _
        · exact Or.inr (Or.inl ⟨rfl, rfl⟩)
        · rcases hz : ((n : Int) == (n2 : Int)) with _ | _
          · exact Or.inr (Or.inr ⟨rfl, rfl, rfl⟩)
          · exact absurd ⟨by simpa using hx, by simpa using hy, by simpa using hz⟩ heq
    clear hf hc hf6 hc6 hk3 hk4 hk5 hk6 HNF HNC HAL HAN heq
    rcases hcases with h1 | ⟨h1, h2⟩ | ⟨h1, h2, h3⟩
    all_goals
      go_wp2_with fail
      refine wp_region_rel (R := Kp) (C := fun W' => Kp w6 W') (by kernel_rfl) (by kernel_rfl) (Kp.refl w6).drew (fun _ _ h k => h.trans k) Kp.refl (fun _ _ _ h k => h.trans k) ?_
      repeat (refine wpRel_step (fun K hK => ?_); apply rel_eq; (case ob => (intro f W hW hd; (obtain ⟨⟨c0, c1, c2⟩, x0, x1, x2⟩ := HC.out _ (hK6.trans hW)); (try simp [deps, factOf, Region.binds] at hd); unfold relOp; go_simp; (first | exact ⟨Kp.refl _, rfl⟩ | exact Kp.refl _ | (refine ⟨Kp.refl _, ?_⟩; (first | (go_at_call 28; with_reducible refine (HTN.out _ hW).mono ?_; rintro e w' ⟨rfl, hk9⟩; exact ⟨rfl, hk9⟩) | (go_at_call 28; with_reducible refine (HN1.out _).mono ?_; rintro e w' ⟨rfl, hk9⟩; exact ⟨rfl, hk9⟩) | (go_at_call 28; with_reducible refine (HN2.out _).mono ?_; rintro e w' ⟨rfl, hk9⟩; exact ⟨rfl, hk9⟩) | (go_at_call 22; refine (HFL.out _).mono ?_; rintro e w' ⟨rfl, hk9⟩; exact ⟨rfl, hk9⟩) | (go_at_call 25; refine (HER.out _).mono ?_; rintro e w' ⟨rfl, hk9⟩; exact ⟨rfl, hk9⟩)))))); go_simp; refine hK _ _ ?_; clear hK K)
      refine wpRel_nil ?_
      intro f W' hW hall
      have h32 : f 32 = .bool true := allF_get hall 32 _ rfl
      clear hall HC HN1 HN2 HFL HER
      dsimp only
      rw [h32]
      go_wp2_with fail
      go_ret
      exact ⟨rfl, (HK.out.trans hK6).trans hW⟩
end Go.Proofs.Ytdmkfklnnonkhaa
