/- Merged texts: LawTape5. -/
import Derived.Test.YtdmkfklnnonkhaaGL4
import Derived.Test.YtdmkfklnnonkhaaGJ
/- The walk of TapeFull. -/
namespace Go.Proofs.Ytdmkfklnnonkhaa
open Go.RowKit
set_option linter.unusedVariables false
set_option maxRecDepth 20000
theorem FullT.keep {X : List (Nat × Obj)} {w0 W W' : World} {tb g ib ic h q : Nat} {p s : Int} {n m : Nat} (t : FullT X w0 tb g ib ic h q p s n m W) (k : Kp W W') : FullT X w0 tb g ib ic h q p s n m W' := by
  obtain ⟨i, v, t⟩ := t
  exact ⟨i, v, t.keep k⟩
theorem FullU.keep {X : List (Nat × Obj)} {w0 W W' : World} {tb g ib ic h q : Nat} {p s : Int} {n m : Nat} (t : FullU X w0 tb g ib ic h q p s n m W) (k : Kp W W') : FullU X w0 tb g ib ic h q p s n m W' := by
  obtain ⟨i, v, t, e⟩ := t
  exact ⟨i, v, t.keep k, e⟩
theorem FullV.keep {X : List (Nat × Obj)} {w0 W W' : World} {tb g ib ic h q : Nat} {p s : Int} (t : FullV X w0 tb g ib ic h q p s W) (k : Kp W W') : FullV X w0 tb g ib ic h q p s W' := by
  obtain ⟨d, v, l, o, t⟩ := t
  exact ⟨d, v, l, o, t.keep k⟩
def W3c (pb g h tb : Nat) (W : World) : Prop := W.cell? ⟨pb, 0, none⟩ = some (.pointer (some ⟨g, 0, none⟩)) ∧ W.cell? ⟨pb, 1, none⟩ = some (.pointer (some ⟨h, 0, none⟩)) ∧ W.cell? ⟨pb, 2, none⟩ = some (.pointer (some ⟨tb, 0, none⟩))
set_option maxHeartbeats 12800000 in
theorem TapeFull_walk (w : World) (p s r : Int) (wp : (Lit.int .i64 p).wf = true) (ws : (Lit.int .i64 s).wf = true) (wr : (Lit.int .i64 r).wf = true) (tx : ByteArray) (wt : tx.size ≤ 140737488351232) :
    Calls Try.prog 6 #[geo p s r, .string tx] w fun e w' => e = .returned (.bool true) ∧ Kp w w' := by
  have bp := bounds_i64 wp
  have bs := bounds_i64 ws
  have br := bounds_i64 wr
  clear wp ws wr
  obtain ⟨P, S, n, hP, hS, hn, hR, hn7, hS6, hP64⟩ := small_geom p s r
  have HGE := Lib.hid (fun w => bgeom_any p s r bp bs br w)
  rw [hP, hS, hn] at HGE
  clear hP hS hn
  obtain ⟨r1, r2, r3, r4, r5, r6⟩ := id hR
  obtain ⟨m, hm⟩ : ∃ m : Nat, S = (m : Int) + 1 := ⟨(S - 1).toNat, by omega⟩
  have hm2 : 2 ≤ m := by omega
  have hm5 : m ≤ 5 := by omega
  have HM := Lib.hid (fun W => made_any P S n hR W)
  have HAL := Lib.hid talive
  have HSL := Lib.hid (fun W => slotsKr P S n hR W)
  have hnm : n * m ≤ 60 := Nat.le_trans (Nat.mul_le_mul (by omega : n ≤ 12) hm5) (by omega)
  have hmost : ((n * m : Nat) : Int) = (n : Int) * (m : Int) := Int.natCast_mul n m
  have hS1 : S - 1 = (m : Int) := by omega
  rw [hS1] at HSL
  have q1 : IntKind.i64.wrap ((n : Int) * (m : Int)) = (n : Int) * (m : Int) := IntWalk.i64_in _ (by rw [← hmost]; omega)
  have HMS := Lib.hid hm
  clear hm hS1 hmost
  go_enter Try.func6, Try.ntmps6
  go_wp2_with fail
  refine (HGE.out _).mono ?_
  rintro e w1 ⟨rfl, hk1⟩
  have hB := (Bk.new w 23 [.int .i64 p, .int .i64 s, .int .i64 r]).keep hk1
  have hK := (Kp.one w (gob p s r)).trans hk1
  clear hk1
  obtain ⟨c0, c1, c2⟩ := hB.c3g
  have f0 := hB.free 0
  have f1 := hB.free 1
  have f2 := hB.free 2
  go_wp2_with fail
  obtain ⟨hB2, hK2⟩ := put3 hB hK (Nat.le_refl _) (.int .i64 P) (.int .i64 S) (.int .i64 n)
  generalize ((w1.setCell ⟨w.heap.size, 0, none⟩ (.int .i64 P)).setCell ⟨w.heap.size, 1, none⟩ (.int .i64 S)).setCell ⟨w.heap.size, 2, none⟩ (.int .i64 (n : Int)) = w2 at *
  clear c0 c1 c2 f0 f1 f2 hB hK
  have HC := Lib.hid (fun W (kk : Kp w2 W) => (hB2.keep kk).c3g)
  refine (HM.out _).mono ?_
  rintro e w3 ⟨pb, tb, g, ib, ic, h, q, v, rb, a1, ab, ac, b1, be, bu, rfl, -, t, -⟩
  have HT := Lib.hid t
  have hk3 := t.fl.kp
  clear hB2 t
  go_wp2_with fail
  refine (HAL.out _).mono ?_
  rintro e w4 ⟨rfl, hk4⟩
  have hK4 := hk3.trans hk4
  have t4 := HT.out.keep hk4
  have T4 := Lib.hid t4
  obtain ⟨b0, hb0⟩ : ∃ b0 : Nat, P - 15 = (b0 : Int) := ⟨(P - 15).toNat, by omega⟩
  have HRO := Lib.hid (fun W => rroomK P S n hR W)
  rw [hb0] at HRO
  have HSH := Lib.hid (fun W => short_any tx b0 (by omega) (by omega) W)
  have hbx : (tx.extract 0 b0).size ≤ b0 := by rw [ByteArray.size_extract]; omega
  generalize tx.extract 0 b0 = bx at *
  have hfm : FmOk P ⟨2, 1, 0, bx⟩ := ⟨by show (1 : Int) ≤ 2; omega, by show (2 : Int) ≤ 4; omega, by show (0 : Int) ≤ 1 ∧ (1 : Int) ≤ 4294967295; omega, by show (0 : Int) ≤ 0 ∧ (0 : Int) ≤ 4294967295; omega, by show (bx.size : Int) + 15 ≤ P; omega⟩
  have HB0 := Lib.hid hb0
  clear t4 hb0 hbx
  obtain ⟨c0, c1, c2⟩ := HC.out _ hK4
  go_wp2_with fail
  refine (HRO.out _).mono ?_
  rintro e w5 ⟨rfl, hk5⟩
  go_wp2_with fail
  refine (HSH.out _).mono ?_
  rintro e w6 ⟨rfl, rfl⟩
  go_wp2_with fail
  have t6 := (T4.out.keep hk5).addW (Kp.one w5 (fob 2 1 0 bx)) w5.heap.size (fob 2 1 0 bx) (Nat.le_refl _) (Bk.new w5 26 [.int .i64 2, .int .u32 1, .int .u32 0, .string bx])
  have hXp : (pb, pairOb g h tb rb) ∈ [(w5.heap.size, fob 2 1 0 bx), (pb, pairOb g h tb rb)] := by simp
  have hXx : (w5.heap.size, fob 2 1 0 bx) ∈ [(w5.heap.size, fob 2 1 0 bx), (pb, pairOb g h tb rb)] := by simp
  rw [← RL_zero n m m, run_new P S (n : Nat) (runB P m (fun _ => ⟨2, 1, 0, bx⟩))] at t6
  generalize [(w5.heap.size, fob 2 1 0 bx), (pb, pairOb g h tb rb)] = X at *
  have hR0 : RunAt X w2 (w5.alloc (fob 2 1 0 bx)) tb g ib ic h q P S n m (fun _ => ⟨2, 1, 0, bx⟩) none 0 0 m v := ⟨Or.inl ⟨rfl, rfl, rfl⟩, t6⟩
  have HR0 := Lib.hid hR0
  have HXP := Lib.hid hXp
  have HXX : Hid (∀ W, (∀ y ∈ X, W.heap[y.1]? = some y.2) → Bk W w5.heap.size 26 [.int .i64 2, .int .u32 1, .int .u32 0, .string bx]) := Lib.hid (fun W hW => hW _ hXx)
  clear hR0 t6 hXp hXx T4
  generalize w5.heap.size = xb at *
  generalize w5.alloc (.cells #[.int .i64 2, .int .u32 1, .int .u32 0, .string bx] 26) = w6 at *
  go_loopw [7] (fun i wr => ∃ (j c u : Nat) (v : Value), j ≤ n * m ∧ i = .int .i64 j ∧ RunAt X w2 wr tb g ib ic h q P S n m (fun _ => ⟨2, 1, 0, bx⟩) none j c u v) (fun i _ => n * m - (intOf i).toNat)
  case atStart => exact ⟨0, 0, m, v, by omega, rfl, HR0.out⟩
  case round =>
    obtain ⟨j, c', u', v', hj, rfl, hrun⟩ := hrel
    clear HR0
    have HRU := Lib.hid hrun
    have hkr := hrun.2.fl.kp
    clear hrun
    have q5 : IntKind.i64.wrap ((j : Int) + 1) = (j : Int) + 1 := IntWalk.i64_in _ (by omega)
    have hnmI : ((n * m : Nat) : Int) = (n : Int) * (m : Int) := Int.natCast_mul n m
    by_cases hlt : j < n * m
    · have hlt2 : (j : Int) < (n : Int) * (m : Int) := by omega
      clear hnmI
      go_wp2_with fail
      have hInh := fun (x v : Value) => (⟨fun h => h _ ((Kp.refl _).drew), fun h _ _ => h⟩ : (∀ Wz9, (fun W => Kp wr W) Wz9 → x = v) ↔ x = v)
      dsimp only at hInh
      refine wp_region_quietC (C := fun W => Kp wr W) (by kernel_rfl) (by kernel_rfl) ((Kp.refl _).drew) ?_
      repeat (first | go_big_quiet_step ((intro hW; first | (go_at_call 16; refine (HSL.out _).mono ?_; rintro e w' ⟨rfl, hk9⟩; exact ⟨rfl, hW.trans hk9⟩) | (with_reducible rfl) | (obtain ⟨g0, g1, g2⟩ := HC.out _ (hkr.trans hW); (try go_simp); first | done | with_reducible rfl | exact ⟨rfl, rfl⟩))) | quiet_step ((intro hW; first | (go_at_call 16; refine (HSL.out _).mono ?_; rintro e w' ⟨rfl, hk9⟩; exact ⟨rfl, hW.trans hk9⟩) | (with_reducible rfl) | (obtain ⟨g0, g1, g2⟩ := HC.out _ (hkr.trans hW); (try go_simp); first | done | with_reducible rfl | exact ⟨rfl, rfl⟩))))
      refine wpQuiet_nil ?_
      intro wq hwq
      clear hInh
      have HRV := Lib.hid (HRU.out.keep hwq)
      clear HRU
      have HAP := Lib.hid (fun W c u v (tt : RunAt X w2 W tb g ib ic h q P S n m (fun _ => ⟨2, 1, 0, bx⟩) none j c u v) => run_append hR HMS.out hm2 tt hlt hfm (fun N' hN' => by cases hN'))
      simp only at HAP
      have HDD : Hid (∀ b W, StC (fun W => ∃ c u v, RunAt X w2 W tb g ib ic h q P S n m (fun _ => ⟨2, 1, 0, bx⟩) none j c u v) (fun W => ∃ c u v, RunAt X w2 W tb g ib ic h q P S n m (fun _ => ⟨2, 1, 0, bx⟩) none (j + 1) c u v) b W →
          (W.cell? ⟨pb, 0, none⟩ = some (.pointer (some ⟨g, 0, none⟩)) ∧ W.cell? ⟨pb, 1, none⟩ = some (.pointer (some ⟨h, 0, none⟩)) ∧ W.cell? ⟨pb, 2, none⟩ = some (.pointer (some ⟨tb, 0, none⟩))) ∧ Bk W xb 26 [.int .i64 2, .int .u32 1, .int .u32 0, .string bx]) :=
        Lib.hid (fun b W hs => hs.any (D := fun W => (W.cell? ⟨pb, 0, none⟩ = some (.pointer (some ⟨g, 0, none⟩)) ∧ W.cell? ⟨pb, 1, none⟩ = some (.pointer (some ⟨h, 0, none⟩)) ∧ W.cell? ⟨pb, 2, none⟩ = some (.pointer (some ⟨tb, 0, none⟩))) ∧ Bk W xb 26 [.int .i64 2, .int .u32 1, .int .u32 0, .string bx])
          (fun W ⟨c, u, v, tt⟩ => ⟨pairX tt.2 HXP.out, HXX.out W tt.2.wat⟩) (fun W ⟨c, u, v, tt⟩ => ⟨pairX tt.2 HXP.out, HXX.out W tt.2.wat⟩))
      have HS0 : Hid (StC (fun W => ∃ c u v, RunAt X w2 W tb g ib ic h q P S n m (fun _ => ⟨2, 1, 0, bx⟩) none j c u v) (fun W => ∃ c u v, RunAt X w2 W tb g ib ic h q P S n m (fun _ => ⟨2, 1, 0, bx⟩) none (j + 1) c u v) false wq.drew) :=
        Lib.hid ⟨fun _ => ⟨c', u', v', HRV.out.keep (Kp.refl wq).drew⟩, fun e => by cases e⟩
      go_wp2_with fail
      refine wp_region_rel3A (R1 := Kp) (C := StC (fun W => ∃ c u v, RunAt X w2 W tb g ib ic h q P S n m (fun _ => ⟨2, 1, 0, bx⟩) none j c u v) (fun W => ∃ c u v, RunAt X w2 W tb g ib ic h q P S n m (fun _ => ⟨2, 1, 0, bx⟩) none (j + 1) c u v)) 5 (by kernel_rfl) (by kernel_rfl) HS0.out (StC.keep (fun W W' ⟨c, u, v, tt⟩ kk => ⟨c, u, v, tt.keep kk⟩) (fun W W' ⟨c, u, v, tt⟩ kk => ⟨c, u, v, tt.keep kk⟩)) Kp.refl (fun _ _ _ h k => h.trans k) ?_
      repeat (refine wpRel3_step (by simp) (fun K hK => ?_); apply rel3_eq; (case ob => (intro f b W hW hd; (obtain ⟨⟨p0, p1, p2⟩, hbx⟩ := HDD.out _ _ hW; obtain ⟨x0, x1, x2, x3⟩ := hbx.c4g); (try simp [deps, factOf, Region.binds] at hd); unfold relOp; go_simp; (first | exact ⟨Kp.refl _, rfl⟩ | exact Kp.refl _ | (refine ⟨Kp.refl _, ?_⟩; fail)))); go_simp; refine hK _ _ ?_; clear hK K)
      refine wpRel3_move rfl rfl (.tuple #[.int .i64 ((pgOf m j : Nat) : Int), .int .i64 0]) ?ob (fun K hK => ?_)
      case ob =>
        intro f W hW hd
        have HW2 := Lib.hid (hW.1 rfl)
        (try simp [deps, factOf, Region.binds] at hd)
        unfold mvOp
        go_simp
        (obtain ⟨c9, u9, v9, t9⟩ := HW2.out; refine (HAP.out _ _ _ _ t9).mono ?_; rintro e w4 ⟨rfl, c8, u8, v8, t8, l8⟩; exact ⟨rfl, fun e => (by cases e), fun _ => ⟨c8, u8, v8, t8⟩⟩)
      go_simp
      refine hK _ _ ?_
      clear hK K
      repeat (refine wpRel3_step (by simp) (fun K hK => ?_); apply rel3_eq; (case ob => (intro f b W hW hd; (skip); (try simp [deps, factOf, Region.binds] at hd); unfold relOp; go_simp; (first | exact ⟨Kp.refl _, rfl⟩ | exact Kp.refl _ | (refine ⟨Kp.refl _, ?_⟩; fail)))); go_simp; refine hK _ _ ?_; clear hK K)
      refine wpRel3_nil ?_
      intro f w7 hW hall
      have h10 : f 10 = .int .i64 0 := allF_get hall 10 _ rfl
      clear hall
      dsimp only
      rw [h10]
      obtain ⟨c8, u8, v8, t8⟩ := hW.2 rfl
      have T8 := Lib.hid t8
      clear t8 hW HS0 HDD HAP HRV h10
      go_wp2_with fail
      go_roundw
      case rel => exact ⟨j + 1, c8, u8, v8, by omega, by go_num, T8.out⟩
      case measure => simp [intOf]; omega
    · have hlt2 : ¬ ((j : Int) < (n : Int) * (m : Int)) := by omega
      have hjn : j = n * m := by omega
      have HJN := Lib.hid hjn
      clear hnmI hjn
      go_wp2_with fail
      have hInh := fun (x v : Value) => (⟨fun h => h _ ((Kp.refl _).drew), fun h _ _ => h⟩ : (∀ Wz9, (fun W => Kp wr W) Wz9 → x = v) ↔ x = v)
      dsimp only at hInh
      refine wp_region_quietC (C := fun W => Kp wr W) (by kernel_rfl) (by kernel_rfl) ((Kp.refl _).drew) ?_
      repeat (first | go_big_quiet_step ((intro hW; first | (go_at_call 16; refine (HSL.out _).mono ?_; rintro e w' ⟨rfl, hk9⟩; exact ⟨rfl, hW.trans hk9⟩) | (with_reducible rfl) | (obtain ⟨g0, g1, g2⟩ := HC.out _ (hkr.trans hW); (try go_simp); first | done | with_reducible rfl | exact ⟨rfl, rfl⟩))) | quiet_step ((intro hW; first | (go_at_call 16; refine (HSL.out _).mono ?_; rintro e w' ⟨rfl, hk9⟩; exact ⟨rfl, hW.trans hk9⟩) | (with_reducible rfl) | (obtain ⟨g0, g1, g2⟩ := HC.out _ (hkr.trans hW); (try go_simp); first | done | with_reducible rfl | exact ⟨rfl, rfl⟩))))
      refine wpQuiet_nil ?_
      intro wq hwq
      clear hInh
      have HRV := Lib.hid (HRU.out.keep hwq)
      clear HRU
      have HAP := Lib.hid (fun W v (tt : RunAt X w2 W tb g ib ic h q P S n m (fun _ => ⟨2, 1, 0, bx⟩) none j c' u' v) => full_append hR HMS.out hm2 tt HJN.out hfm)
      simp only at HAP
      have HFL := Lib.hid (fun W v (tt : RunAt X w2 W tb g ib ic h q P S n m (fun _ => ⟨2, 1, 0, bx⟩) none j c' u' v) => full_flush hR HMS.out hm2 tt HJN.out)
      have HE1 := Lib.hid (fun W (tt : FullT X w2 tb g ib ic h q P S n m W) => full_erase_no hR tt)
      have HE2 := Lib.hid (fun W (tt : FullT X w2 tb g ib ic h q P S n m W) => full_erase hR tt)
      have HA2 := Lib.hid (fun W (tt : FullU X w2 tb g ib ic h q P S n m W) => full_again hR HMS.out tt hfm)
      simp only at HA2
      have HDD : Hid (∀ b W, StC (fun W => ∃ v, RunAt X w2 W tb g ib ic h q P S n m (fun _ => ⟨2, 1, 0, bx⟩) none j c' u' v) (fun W => ∃ v, RunAt X w2 W tb g ib ic h q P S n m (fun _ => ⟨2, 1, 0, bx⟩) none j c' u' v) b W →
          (W.cell? ⟨pb, 0, none⟩ = some (.pointer (some ⟨g, 0, none⟩)) ∧ W.cell? ⟨pb, 1, none⟩ = some (.pointer (some ⟨h, 0, none⟩)) ∧ W.cell? ⟨pb, 2, none⟩ = some (.pointer (some ⟨tb, 0, none⟩))) ∧ Bk W xb 26 [.int .i64 2, .int .u32 1, .int .u32 0, .string bx]) :=
        Lib.hid (fun b W hs => hs.any (D := fun W => (W.cell? ⟨pb, 0, none⟩ = some (.pointer (some ⟨g, 0, none⟩)) ∧ W.cell? ⟨pb, 1, none⟩ = some (.pointer (some ⟨h, 0, none⟩)) ∧ W.cell? ⟨pb, 2, none⟩ = some (.pointer (some ⟨tb, 0, none⟩))) ∧ Bk W xb 26 [.int .i64 2, .int .u32 1, .int .u32 0, .string bx])
          (fun W ⟨v, tt⟩ => ⟨pairX tt.2 HXP.out, HXX.out W tt.2.wat⟩) (fun W ⟨v, tt⟩ => ⟨pairX tt.2 HXP.out, HXX.out W tt.2.wat⟩))
      have HS0 : Hid (StC (fun W => ∃ v, RunAt X w2 W tb g ib ic h q P S n m (fun _ => ⟨2, 1, 0, bx⟩) none j c' u' v) (fun W => ∃ v, RunAt X w2 W tb g ib ic h q P S n m (fun _ => ⟨2, 1, 0, bx⟩) none j c' u' v) false wq.drew) :=
        Lib.hid ⟨fun _ => ⟨v', HRV.out.keep (Kp.refl wq).drew⟩, fun e => by cases e⟩
      go_wp2_with fail
      refine wp_region_rel3A (R1 := Kp) (C := StC (fun W => ∃ v, RunAt X w2 W tb g ib ic h q P S n m (fun _ => ⟨2, 1, 0, bx⟩) none j c' u' v) (fun W => ∃ v, RunAt X w2 W tb g ib ic h q P S n m (fun _ => ⟨2, 1, 0, bx⟩) none j c' u' v)) 5 (by kernel_rfl) (by kernel_rfl) HS0.out (StC.keep (fun W W' ⟨v, tt⟩ kk => ⟨v, tt.keep kk⟩) (fun W W' ⟨v, tt⟩ kk => ⟨v, tt.keep kk⟩)) Kp.refl (fun _ _ _ h k => h.trans k) ?_
      repeat (refine wpRel3_step (by simp) (fun K hK => ?_); apply rel3_eq; (case ob => (intro f b W hW hd; (obtain ⟨⟨p0, p1, p2⟩, hbx⟩ := HDD.out _ _ hW; obtain ⟨x0, x1, x2, x3⟩ := hbx.c4g); (try simp [deps, factOf, Region.binds] at hd); unfold relOp; go_simp; (first | exact ⟨Kp.refl _, rfl⟩ | exact Kp.refl _ | (refine ⟨Kp.refl _, ?_⟩; fail)))); go_simp; refine hK _ _ ?_; clear hK K)
      refine wpRel3_move rfl rfl (.tuple #[.int .i64 0, .int .i64 8]) ?ob (fun K hK => ?_)
      case ob =>
        intro f W hW hd
        have HW2 := Lib.hid (hW.1 rfl)
        (try simp [deps, factOf, Region.binds] at hd)
        unfold mvOp
        go_simp
        (obtain ⟨v9, t9⟩ := HW2.out; refine (HAP.out _ _ t9).mono ?_; rintro e w4 ⟨rfl, v8, t8⟩; exact ⟨rfl, fun e => (by cases e), fun _ => ⟨v8, t8⟩⟩)
      go_simp
      refine hK _ _ ?_
      clear hK K
      repeat (refine wpRel3_step (by simp) (fun K hK => ?_); apply rel3_eq; (case ob => (intro f b W hW hd; (skip); (try simp [deps, factOf, Region.binds] at hd); unfold relOp; go_simp; (first | exact ⟨Kp.refl _, rfl⟩ | exact Kp.refl _ | (refine ⟨Kp.refl _, ?_⟩; fail)))); go_simp; refine hK _ _ ?_; clear hK K)
      refine wpRel3_nil ?_
      intro f w7 hW hall
      have h10 : f 10 = .int .i64 8 := allF_get hall 10 _ rfl
      clear hall
      dsimp only
      rw [h10]
      obtain ⟨v8, t8⟩ := hW.2 rfl
      have T8 := Lib.hid t8
      obtain ⟨p0, p1, p2⟩ := pairX t8.2 HXP.out
      clear t8 hW HS0 HDD HAP HRV h10
      go_wp2_with fail
      refine (HFL.out _ _ T8.out).mono ?_
      rintro e w8 ⟨rfl, t9⟩
      have T9 := Lib.hid t9
      clear t9 T8 HFL p0 p1 p2
      have q8 : IntKind.i64.wrap ((n : Int) - 1) = (n : Int) - 1 := IntWalk.i64_in _ (by omega)
      have HDE : Hid (∀ b W, StC (FullT X w2 tb g ib ic h q P S n m) (FullT X w2 tb g ib ic h q P S n m) b W →
          (W.cell? ⟨pb, 0, none⟩ = some (.pointer (some ⟨g, 0, none⟩)) ∧ W.cell? ⟨pb, 1, none⟩ = some (.pointer (some ⟨h, 0, none⟩)) ∧ W.cell? ⟨pb, 2, none⟩ = some (.pointer (some ⟨tb, 0, none⟩))) ∧ (W.cell? ⟨w.heap.size, 0, none⟩ = some (.int .i64 P) ∧ W.cell? ⟨w.heap.size, 1, none⟩ = some (.int .i64 S) ∧ W.cell? ⟨w.heap.size, 2, none⟩ = some (.int .i64 (n : Int)))) :=
        Lib.hid (fun b W hs => hs.any (D := fun W => (W.cell? ⟨pb, 0, none⟩ = some (.pointer (some ⟨g, 0, none⟩)) ∧ W.cell? ⟨pb, 1, none⟩ = some (.pointer (some ⟨h, 0, none⟩)) ∧ W.cell? ⟨pb, 2, none⟩ = some (.pointer (some ⟨tb, 0, none⟩))) ∧ (W.cell? ⟨w.heap.size, 0, none⟩ = some (.int .i64 P) ∧ W.cell? ⟨w.heap.size, 1, none⟩ = some (.int .i64 S) ∧ W.cell? ⟨w.heap.size, 2, none⟩ = some (.int .i64 (n : Int))))
          (fun W ⟨img, v, tt⟩ => ⟨pairX tt HXP.out, HC.out W tt.fl.kp⟩) (fun W ⟨img, v, tt⟩ => ⟨pairX tt HXP.out, HC.out W tt.fl.kp⟩))
      have HS1 : Hid (StC (FullT X w2 tb g ib ic h q P S n m) (FullT X w2 tb g ib ic h q P S n m) false w8.drew) :=
        Lib.hid ⟨fun _ => T9.out.keep (Kp.refl w8).drew, fun e => by cases e⟩
      go_wp2_with fail
      refine wp_region_rel3A (R1 := Kp) (C := StC (FullT X w2 tb g ib ic h q P S n m) (FullT X w2 tb g ib ic h q P S n m)) 7 (by kernel_rfl) (by kernel_rfl) HS1.out (StC.keep (fun W W' tt kk => tt.keep kk) (fun W W' tt kk => tt.keep kk)) Kp.refl (fun _ _ _ h k => h.trans k) ?_
      repeat (refine wpRel3_step (by simp) (fun K hK => ?_); apply rel3_eq; (case ob => (intro f b W hW hd; (obtain ⟨⟨p0, p1, p2⟩, g0, g1, g2⟩ := HDE.out _ _ hW); (try simp [deps, factOf, Region.binds] at hd); unfold relOp; go_simp; (first | exact ⟨Kp.refl _, rfl⟩ | exact Kp.refl _ | (refine ⟨Kp.refl _, ?_⟩; fail)))); go_simp; refine hK _ _ ?_; clear hK K)
      refine wpRel3_move rfl rfl (.int .i64 7) ?ob (fun K hK => ?_)
      case ob =>
        intro f W hW hd
        have HW2 := Lib.hid (hW.1 rfl)
        (try simp [deps, factOf, Region.binds] at hd)
        unfold mvOp
        go_simp
        (refine (HE1.out _ HW2.out).mono ?_; rintro e w4 ⟨rfl, t8⟩; exact ⟨rfl, fun e => (by cases e), fun _ => t8⟩)
      go_simp
      refine hK _ _ ?_
      clear hK K
      repeat (refine wpRel3_step (by simp) (fun K hK => ?_); apply rel3_eq; (case ob => (intro f b W hW hd; (skip); (try simp [deps, factOf, Region.binds] at hd); unfold relOp; go_simp; (first | exact ⟨Kp.refl _, rfl⟩ | exact Kp.refl _ | (refine ⟨Kp.refl _, ?_⟩; fail)))); go_simp; refine hK _ _ ?_; clear hK K)
      refine wpRel3_nil ?_
      intro f w9 hW hall
      have h8 : f 8 = .int .i64 7 := allF_get hall 8 _ rfl
      clear hall
      dsimp only
      rw [h8]
      have t10 := hW.2 rfl
      have T10 := Lib.hid t10
      obtain ⟨p0, p1, p2⟩ : W3c pb g h tb w9 := by
        obtain ⟨img, v, tt⟩ := t10
        exact pairX tt HXP.out
      clear t10 hW HS1 HDE T9 HE1 h8
      go_wp2_with fail
      refine (HE2.out _ T10.out).mono ?_
      rintro e w10 ⟨rfl, t11⟩
      have T11 := Lib.hid t11
      clear t11 T10 HE2 p0 p1 p2
      have HDF : Hid (∀ b W, StC (FullU X w2 tb g ib ic h q P S n m) (FullV X w2 tb g ib ic h q P S) b W →
          (W.cell? ⟨pb, 0, none⟩ = some (.pointer (some ⟨g, 0, none⟩)) ∧ W.cell? ⟨pb, 1, none⟩ = some (.pointer (some ⟨h, 0, none⟩)) ∧ W.cell? ⟨pb, 2, none⟩ = some (.pointer (some ⟨tb, 0, none⟩))) ∧ Bk W xb 26 [.int .i64 2, .int .u32 1, .int .u32 0, .string bx]) :=
        Lib.hid (fun b W hs => hs.any (D := fun W => (W.cell? ⟨pb, 0, none⟩ = some (.pointer (some ⟨g, 0, none⟩)) ∧ W.cell? ⟨pb, 1, none⟩ = some (.pointer (some ⟨h, 0, none⟩)) ∧ W.cell? ⟨pb, 2, none⟩ = some (.pointer (some ⟨tb, 0, none⟩))) ∧ Bk W xb 26 [.int .i64 2, .int .u32 1, .int .u32 0, .string bx])
          (fun W ⟨img, v, tt, _⟩ => ⟨pairX tt HXP.out, HXX.out W tt.wat⟩) (fun W ⟨d, v, l, o, tt⟩ => ⟨pairX tt HXP.out, HXX.out W tt.wat⟩))
      have HS2 : Hid (StC (FullU X w2 tb g ib ic h q P S n m) (FullV X w2 tb g ib ic h q P S) false w10.drew) :=
        Lib.hid ⟨fun _ => T11.out.keep (Kp.refl w10).drew, fun e => by cases e⟩
      go_wp2_with fail
      refine wp_region_rel3A (R1 := Kp) (C := StC (FullU X w2 tb g ib ic h q P S n m) (FullV X w2 tb g ib ic h q P S)) 5 (by kernel_rfl) (by kernel_rfl) HS2.out (StC.keep (fun W W' tt kk => tt.keep kk) (fun W W' tt kk => tt.keep kk)) Kp.refl (fun _ _ _ h k => h.trans k) ?_
      repeat (refine wpRel3_step (by simp) (fun K hK => ?_); apply rel3_eq; (case ob => (intro f b W hW hd; (obtain ⟨⟨p0, p1, p2⟩, hbx⟩ := HDF.out _ _ hW; obtain ⟨x0, x1, x2, x3⟩ := hbx.c4g); (try simp [deps, factOf, Region.binds] at hd); unfold relOp; go_simp; (first | exact ⟨Kp.refl _, rfl⟩ | exact Kp.refl _ | (refine ⟨Kp.refl _, ?_⟩; fail)))); go_simp; refine hK _ _ ?_; clear hK K)
      refine wpRel3_move rfl rfl (.tuple #[.int .i64 1, .int .i64 0]) ?ob (fun K hK => ?_)
      case ob =>
        intro f W hW hd
        have HW2 := Lib.hid (hW.1 rfl)
        (try simp [deps, factOf, Region.binds] at hd)
        unfold mvOp
        go_simp
        (refine (HA2.out _ HW2.out).mono ?_; rintro e w4 ⟨rfl, t8⟩; exact ⟨rfl, fun e => (by cases e), fun _ => t8⟩)
      go_simp
      refine hK _ _ ?_
      clear hK K
      repeat (refine wpRel3_step (by simp) (fun K hK => ?_); apply rel3_eq; (case ob => (intro f b W hW hd; (skip); (try simp [deps, factOf, Region.binds] at hd); unfold relOp; go_simp; (first | exact ⟨Kp.refl _, rfl⟩ | exact Kp.refl _ | (refine ⟨Kp.refl _, ?_⟩; fail)))); go_simp; refine hK _ _ ?_; clear hK K)
      refine wpRel3_nil ?_
      intro f w11 hW hall
      have h9 : f 9 = .int .i64 1 := allF_get hall 9 _ rfl
      have h10 : f 10 = .int .i64 0 := allF_get hall 10 _ rfl
      clear hall
      dsimp only
      rw [h9, h10]
      have hkw : Kp w2 w11 := by
        obtain ⟨d, v, l, o, tt⟩ := hW.2 rfl
        exact tt.fl.kp
      clear hW HS2 HDF h9 h10
      go_wp2_with fail
      go_ret
      exact ⟨rfl, hK2.trans hkw⟩
end Go.Proofs.Ytdmkfklnnonkhaa
