/- The walk of ChartEnd. -/
import Derived.Test.YtbcoghfpomnkkaaChart8
import Derived.OpenShut
namespace Go.Proofs.Ytbcoghfpomnkkaa
open Go.RowKit
set_option linter.unusedVariables false

theorem Bk.c3g {w : World} {g : Nat} {t : TypeId} {a b c : Value} (h : Bk w g t [a, b, c]) : w.cell? ⟨g, 0, none⟩ = some a ∧ w.cell? ⟨g, 1, none⟩ = some b ∧ w.cell? ⟨g, 2, none⟩ = some c := ⟨h.cell 0, h.cell 1, h.cell 2⟩
theorem small_geom (p s r : Int) : ∃ (P S : Int) (n : Nat), 32 + p % 33 = P ∧ 3 + s % 4 = S ∧ 4 + r % 4 = (n : Int) ∧ RightG P S n ∧ n ≤ 7 ∧ S ≤ 6 ∧ P ≤ 64 := by
  refine ⟨_, _, (4 + r % 4).toNat, rfl, rfl, by omega, ?_, by omega, by omega, by omega⟩
  unfold RightG; omega
/-- A geom's box behind the store of another. -/
theorem put3 {w w1 : World} {g : Nat} {t : TypeId} {a b c : Value} (h : Bk w1 g t [a, b, c]) (hK : Kp w w1) (hg : w.heap.size ≤ g) (x y z : Value) :
    Bk (((w1.setCell ⟨g, 0, none⟩ x).setCell ⟨g, 1, none⟩ y).setCell ⟨g, 2, none⟩ z) g t [x, y, z] ∧ Kp w (((w1.setCell ⟨g, 0, none⟩ x).setCell ⟨g, 1, none⟩ y).setCell ⟨g, 2, none⟩ z) :=
  ⟨((h.put 0 x).put 1 y).put 2 z, ((hK.set hg _).set hg _).set hg _⟩
theorem pickN (n : Int) (m : Nat) (hm : 0 < m) (hm2 : m ≤ 1000) (h1 : -9223372036854775808 ≤ n) (h2 : n ≤ 9223372036854775807) (k : Nat) (hk : n % (m : Int) = k) (w : World) :
    Calls Try.prog 13 #[.int .i64 n, .int .i64 (m : Int)] w fun e w' => e = .returned (.int .i64 (k : Int)) ∧ w = w' := by
  rw [← hk]; exact pick_any n m (by omega) (by omega) h1 h2 w

set_option maxRecDepth 20000 in
set_option maxHeartbeats 3200000 in
theorem ChartEnd_walk (w : World) (p s r : Int) (wp : (Lit.int .i64 p).wf = true) (ws : (Lit.int .i64 s).wf = true) (wr : (Lit.int .i64 r).wf = true) (region : Int) (wg : (Lit.int .i64 region).wf = true) (more : Int) (wm : (Lit.int .u32 more).wf = true) :
    Calls Try.prog 4 #[geo p s r, .int .i64 region, .int .u32 more] w fun e w' => e = .returned (.bool true) ∧ Kp w w' := by
  have bp := bounds_i64 wp
  have bs := bounds_i64 ws
  have br := bounds_i64 wr
  have bg := bounds_i64 wg
  have bm := bounds_u32 wm
  clear wp ws wr wg wm
  obtain ⟨P, S, n, hP, hS, hn, hR, hn7, hS6, hP64⟩ := small_geom p s r
  have HGE := Lib.hid (fun w => bgeom_any p s r bp bs br w)
  rw [hP, hS, hn] at HGE
  obtain ⟨k, hk⟩ : ∃ k : Nat, region % (n : Int) = k := ⟨(region % (n : Int)).toNat, by have := Int.emod_nonneg region (show (n : Int) ≠ 0 by unfold RightG at hR; omega); omega⟩
  have hkn : k < n := by have := Int.emod_lt_of_pos region (show 0 < (n : Int) by unfold RightG at hR; omega); omega
  have HPI := Lib.hid (pickN region n (by omega) (by omega) bg.1 bg.2 k hk)
  clear hP hS hn hk
  obtain ⟨r1, r2, r3, r4, r5, r6⟩ := id hR
  go_enter Try.func4, Try.ntmps4
  go_wp2_with fail
  refine (HGE.out _).mono ?_
  rintro e w1 ⟨rfl, hk1⟩
  have hB := (Bk.new w 23 [.int .i64 p, .int .i64 s, .int .i64 r]).keep hk1
  have hK := (Kp.one w (.cells [.int .i64 p, .int .i64 s, .int .i64 r].toArray 23)).trans hk1
  clear hk1
  obtain ⟨c0, c1, c2⟩ := hB.c3g
  have f0 := hB.free 0
  have f1 := hB.free 1
  have f2 := hB.free 2
  go_wp2_with fail
  obtain ⟨hB2, hK2⟩ := put3 hB hK (Nat.le_refl _) (.int .i64 P) (.int .i64 S) (.int .i64 n)
  refine (cnew_yes P S n hR _).mono ?_
  rintro e w2 ⟨g, q, rfl, hg, hq, h0, hk2⟩
  have hB3 := hB2.keep hk2
  have hK3 := hK2.trans hk2
  have hgw : w.heap.size < g ∧ w.heap.size < q := by have := hB2.lt; omega
  obtain ⟨hg1, hq1⟩ := hgw
  clear hB hK c0 c1 c2 f0 f1 f2 hB2 hK2 hk2 hg hq
  go_wp2_with fail
  refine (alive_any _).mono ?_
  rintro e w3 ⟨rfl, hk3⟩
  have hB4 := hB3.keep hk3
  have hK4 := hK3.trans hk3
  have h4 := h0.keep hk3
  clear hB3 hK3 hk3 h0
  obtain ⟨c0, c1, c2⟩ := hB4.c3g
  go_wp2_with fail
  refine (HPI.out _).mono ?_
  rintro e w4 ⟨rfl, rfl⟩
  have hrl : (List.replicate n ((0 : Int), (0 : Int))).length = n := List.length_replicate
  have hwrap : 0 ≤ more % 2147483647 ∧ more % 2147483647 ≤ 2147483646 := by omega
  go_wp2_with fail
  refine (cset_arg _ g q P S _ _ h4 (by rw [hrl]; exact hR) _ _ _ (Or.inr (Or.inr (Or.inl ⟨by omega, by rw [hrl]; omega, by omega, by omega⟩)))).mono ?_
  rintro e w5 ⟨rfl, hk5⟩
  have h5 := h4.keep hk5
  have hB5 := hB4.keep hk5
  have hK5 := hK4.trans hk5
  clear h4 hB4 hK4 hk5 c0 c1 c2
  go_wp2_with fail
  refine (cset_ok _ g q P S _ _ h5 (by rw [hrl]; exact hR) k (by rw [hrl]; exact hkn) 2147483647 0 (by omega) (by omega) (by omega) (by omega) (rep0 n k).1).mono ?_
  rintro e w6 ⟨rfl, h6, m6⟩
  have hS9 : ∀ b ∈ [g, q], w.heap.size ≤ b := by intro b hb; simp at hb; rcases hb with rfl | rfl <;> omega
  have hB6 := hB5.mv m6 (by simp; omega)
  have hK6 := Mv.kp hK5 hS9 m6
  clear h5 hB5 hK5 m6 hS9
  have hkl : k < (List.replicate n ((0 : Int), (0 : Int))).length := by rw [hrl]; exact hkn
  have hl1 : ((List.replicate n ((0 : Int), (0 : Int))).set k (2147483647, 0)).length = n := by rw [List.length_set, hrl]
  have hfr : frees ((List.replicate n ((0 : Int), (0 : Int))).set k (2147483647, 0)) n + 1 = n := by
    have := frees_set (List.replicate n ((0 : Int), (0 : Int))) k (2147483647, 0) hkl n hkn
    rw [if_pos (rep0 n k).1, if_neg (by simp), frees_rep] at this
    omega
  have htop : 2147483647 ≤ (nwst ((List.replicate n ((0 : Int), (0 : Int))).set k (2147483647, 0)) n).2 := by
    have := nwst_ge ((List.replicate n ((0 : Int), (0 : Int))).set k (2147483647, 0)) n k hkn
    rw [epo_set _ _ _ _ hkl, if_pos rfl] at this
    exact this
  have hep : ∀ j, 0 ≤ epo ((List.replicate n ((0 : Int), (0 : Int))).set k (2147483647, 0)) j := by
    intro j; rw [epo_set _ _ _ _ hkl]; split
    · simp
    · rw [(rep0 n j).1]; omega
  generalize (List.replicate n ((0 : Int), (0 : Int))).set k (2147483647, 0) = l1 at *
  have HL := Lib.hid hl1
  have HFR := Lib.hid hfr
  go_wp2_with fail
  refine (copen_no _ g q P S l1 _ h6 (by omega) hep (Or.inr (by rw [HL.out]; exact ⟨by omega, htop⟩))).mono ?_
  rintro e w7 ⟨rfl, hk7⟩
  have h7 := h6.keep hk7
  have hB7 := hB6.keep hk7
  have hK7 := hK6.trans hk7
  have HC := Lib.hid (fun W (kk : Kp w7 W) => (hB7.keep kk).c3g)
  have HF := Lib.hid (fun W (kk : Kp w7 W) => (cfree_any W g q P S l1 _ (h7.keep kk) (by omega) hep))
  rw [HL.out, show frees l1 n = n - 1 by omega] at HF
  have hwn : IntKind.i64.wrap ((n : Int) - 1) = (n : Int) - 1 := IntWalk.i64_in _ (by omega)
  have hcast : ((n - 1 : Nat) : Int) = (n : Int) - 1 := by omega
  rw [hcast] at HF
  clear hl1 hfr htop h6 hB6 hK6 hcast hrl
  go_wp2_with fail
  have hInh := fun (x v : Value) => (⟨fun h => h _ ((Kp.refl w7).drew), fun h _ _ => h⟩ : (∀ W, (fun W => Kp w7 W) W → x = v) ↔ x = v)
  dsimp only at hInh
  refine wp_region_quietC (C := fun W => Kp w7 W) (by kernel_rfl) (by kernel_rfl) ((Kp.refl w7).drew) ?_
  repeat (first | go_big_quiet_step ((intro hW; first | (go_at_call 16; refine (HF.out _ hW).mono ?_; rintro e w' ⟨rfl, hk9⟩; exact ⟨rfl, hW.trans hk9⟩) | (with_reducible rfl) | (obtain ⟨c0, c1, c2⟩ := HC.out _ hW; (try go_simp); first | done | with_reducible rfl | exact ⟨rfl, rfl⟩))) | quiet_step ((intro hW; first | (go_at_call 16; refine (HF.out _ hW).mono ?_; rintro e w' ⟨rfl, hk9⟩; exact ⟨rfl, hW.trans hk9⟩) | (with_reducible rfl) | (obtain ⟨c0, c1, c2⟩ := HC.out _ hW; (try go_simp); first | done | with_reducible rfl | exact ⟨rfl, rfl⟩))))
  refine wpQuiet_nil ?_
  intro wq hwq
  clear hInh
  go_wp2_with fail
  go_ret
  exact ⟨rfl, hK7.trans hwq⟩
end Go.Proofs.Ytbcoghfpomnkkaa
