/- Merged texts: LawTape4. -/
import Derived.Test.YtdmkfklnnonkhaaGL3
/- The walk of TapeLays. -/
namespace Go.Proofs.Ytdmkfklnnonkhaa
open Go.RowKit
set_option linter.unusedVariables false
set_option maxRecDepth 20000
/-- A tape of a device that holds nothing back. -/
def EmpT (X : List (Nat × Obj)) (w0 : World) (tb g ib ic h q : Nat) (p s : Int) (W : World) : Prop := ∃ d v l o, TpS X w0 W tb g ib ic h q p s d v l o ∧ d.row.length = 0
theorem EmpT.keep {X : List (Nat × Obj)} {w0 W W' : World} {tb g ib ic h q : Nat} {p s : Int} (t : EmpT X w0 tb g ib ic h q p s W) (k : Kp W W') : EmpT X w0 tb g ib ic h q p s W' := by
  obtain ⟨d, v, l, o, t, e⟩ := t
  exact ⟨d, v, l, o, t.keep k, e⟩
theorem EmpT.kp {X : List (Nat × Obj)} {w0 W : World} {tb g ib ic h q : Nat} {p s : Int} (t : EmpT X w0 tb g ib ic h q p s W) : Kp w0 W := by
  obtain ⟨d, v, l, o, t, e⟩ := t
  exact t.fl.kp
theorem EmpT.pair {X : List (Nat × Obj)} {w0 W : World} {pb tb g ib ic h q rb : Nat} {p s : Int} (t : EmpT X w0 tb g ib ic h q p s W) (hm : (pb, pairOb g h tb rb) ∈ X) :
    W.cell? ⟨pb, 0, none⟩ = some (.pointer (some ⟨g, 0, none⟩)) ∧ W.cell? ⟨pb, 1, none⟩ = some (.pointer (some ⟨h, 0, none⟩)) ∧ W.cell? ⟨pb, 2, none⟩ = some (.pointer (some ⟨tb, 0, none⟩)) := by
  obtain ⟨d, v, l, o, t, e⟩ := t
  exact pairX t hm
theorem EmpT.pending {X : List (Nat × Obj)} {w0 W : World} {tb g ib ic h q : Nat} {p s : Int} (t : EmpT X w0 tb g ib ic h q p s W) : Calls Try.prog 13 #[.pointer (some ⟨g, 0, none⟩)] W fun e w' => e = .returned (.int .i64 0) ∧ Kp W w' := by
  obtain ⟨d, v, l, o, t, e⟩ := t
  have := fpending t.fl.at_
  rw [e] at this
  exact this
set_option maxHeartbeats 12800000 in
theorem TapeLays_walk (w : World) (p s r : Int) (wp : (Lit.int .i64 p).wf = true) (ws : (Lit.int .i64 s).wf = true) (wr : (Lit.int .i64 r).wf = true) (A : Option Addr) (c : Nat) (ss : List ByteArray) (H : TextsAt w A ss) (wt : ∀ s ∈ ss, s.size ≤ 140737488351232) (wl : ss.length * 16 ≤ 140737488351232) :
    Calls Try.prog 5 #[geo p s r, .slice A ss.length c] w fun e w' => e = .returned (.bool true) ∧ Kp w w' := by
  have bp := bounds_i64 wp
  have bs := bounds_i64 ws
  have br := bounds_i64 wr
  clear wp ws wr wt wl
  obtain ⟨P, S, n, hP, hS, hn, hR, hn7, hS6, hP64⟩ := small_geom p s r
  have HGE := Lib.hid (fun w => bgeom_any p s r bp bs br w)
  rw [hP, hS, hn] at HGE
  clear hP hS hn
  obtain ⟨r1, r2, r3, r4, r5, r6⟩ := id hR
  obtain ⟨m, hm⟩ : ∃ m : Nat, S = (m : Int) + 1 := ⟨(S - 1).toNat, by omega⟩
  have hm2 : 2 ≤ m := by omega
  have hm5 : m ≤ 5 := by omega
  have HM := Lib.hid (fun W => made_any P S n hR W)
  have HAL := Lib.hid talive
  have HSL := Lib.hid (fun W => slotsKr P S n hR W)
  have hnm : n * m ≤ 60 := Nat.le_trans (Nat.mul_le_mul (by omega : n ≤ 12) hm5) (by omega)
  obtain ⟨k, hk⟩ : ∃ k, k = min ss.length (n * m) := ⟨_, rfl⟩
  have HFR := Lib.hid (fun W (kk : Kp w W) => frames_any P S n hR A c ss W (H.keep kk) (n * m) k (by omega) hk)
  have hmost : ((n * m : Nat) : Int) = (n : Int) * (m : Int) := Int.natCast_mul n m
  rw [hmost] at HFR
  have hS1 : S - 1 = (m : Int) := by omega
  rw [hS1] at HSL
  have hk9 : k ≤ n * m := by omega
  clear hk
  have q1 : IntKind.i64.wrap ((n : Int) * (m : Int)) = (n : Int) * (m : Int) := IntWalk.i64_in _ (by rw [← hmost]; omega)
  have HMS := Lib.hid hm
  clear hm hS1 hmost
  go_enter Try.func5, Try.ntmps5
  go_wp2_with fail
  refine (HGE.out _).mono ?_
  rintro e w1 ⟨rfl, hk1⟩
  have hB := (Bk.new w 23 [.int .i64 p, .int .i64 s, .int .i64 r]).keep hk1
  have hK := (Kp.one w (gob p s r)).trans hk1
  clear hk1
  obtain ⟨c0, c1, c2⟩ := hB.c3g
  have f0 := hB.free 0
  have f1 := hB.free 1
  have f2 := hB.free 2
  go_wp2_with fail
  obtain ⟨hB2, hK2⟩ := put3 hB hK (Nat.le_refl _) (.int .i64 P) (.int .i64 S) (.int .i64 n)
  generalize ((w1.setCell ⟨w.heap.size, 0, none⟩ (.int .i64 P)).setCell ⟨w.heap.size, 1, none⟩ (.int .i64 S)).setCell ⟨w.heap.size, 2, none⟩ (.int .i64 (n : Int)) = w2 at *
  clear c0 c1 c2 f0 f1 f2 hB hK
  have HC := Lib.hid (fun W (kk : Kp w2 W) => (hB2.keep kk).c3g)
  refine (HM.out _).mono ?_
  rintro e w3 ⟨pb, tb, g, ib, ic, h, q, v, rb, a1, ab, ac, b1, be, bu, rfl, -, t, -⟩
  have HT := Lib.hid t
  have hk3 := t.fl.kp
  clear hB2 t
  go_wp2_with fail
  refine (HAL.out _).mono ?_
  rintro e w4 ⟨rfl, hk4⟩
  have hK4 := hk3.trans hk4
  have t4 := HT.out.keep hk4
  have T4 := Lib.hid t4
  have HFR4 := Lib.hid (fun W (kk : Kp w4 W) => HFR.out W ((hK2.trans hK4).trans kk))
  clear t4 HGE HM HAL HFR HT
  go_wp2_with fail
  refine wp_region_rel (R := Kp) (C := fun W' => Kp w4 W') (by kernel_rfl) (by kernel_rfl) (Kp.refl w4).drew (fun _ _ h k => h.trans k) Kp.refl (fun _ _ _ h k => h.trans k) ?_
  repeat (refine wpRel_step (fun K hK => ?_); apply rel_eq; (case ob => (intro f W hW hd; (obtain ⟨c0, c1, c2⟩ := HC.out _ (hK4.trans hW)); (try simp [deps, factOf, Region.binds] at hd); unfold relOp; go_simp; (first | exact ⟨Kp.refl _, rfl⟩ | exact Kp.refl _ | (refine ⟨Kp.refl _, ?_⟩; (go_at_call 16; refine (HSL.out _).mono ?_; rintro e w' ⟨rfl, hk9⟩; exact ⟨rfl, hk9⟩))))); go_simp; refine hK _ _ ?_; clear hK K)
  refine wpRel_step (fun K hK => ?_)
  apply rel_fact (MFr w4 P ss k) (MFr.st)
  case ob =>
    intro f W hW hd
    skip
    (try simp [deps, factOf, Region.binds] at hd)
    unfold relOp
    go_simp
    (refine ⟨Kp.refl _, ?_⟩; go_at_call 15; refine (HFR4.out _ hW).mono ?_; rintro e w' ⟨v9, rfl, ho, hk9⟩; exact ⟨_, rfl, hk9, own_base ho hW.size⟩)
  go_simp
  refine hK _ _ ?_
  clear hK K
  refine wpRel_step (fun K hK => ?_)
  apply rel_fact (MFr w4 P ss k) (MFr.st)
  case ob =>
    intro f W hW hd
    (simp [deps, factOf, Region.binds] at hd; have hd2 := hd)
    (try simp [deps, factOf, Region.binds] at hd)
    unfold relOp
    go_simp
    first | exact Kp.refl _ | exact ⟨Kp.refl _, hd2⟩
  go_simp
  refine hK _ _ ?_
  clear hK K
  refine wpRel_nil ?_
  intro f w5 hk5 hall
  have hown : w5.ownsRow w4.heap.size 26 4 (f 8) k (fcells P ss k) := allF_get hall 8 _ rfl
  clear hall HFR4
  dsimp only
  generalize f 8 = fv at *
  have hK5 := hK4.trans hk5
  obtain ⟨A1, c1, rfl⟩ := own_slice hown
  obtain ⟨X, hXp, t5, hrow⟩ : ∃ X, (pb, pairOb g h tb rb) ∈ X ∧ TpS X w2 w5 tb g ib ic h q P S (newD P S (n : Nat) ⟨#[]⟩) v (List.replicate n (0, 0)) (-1) ∧
      ∀ W : World, (∀ y ∈ X, W.heap[y.1]? = some y.2) → ∀ j, j < k → ∃ q', A1 = some ⟨q', 0, none⟩ ∧ W.cell? ⟨q', j * 4, none⟩ = some (.int .i64 2) ∧ W.cell? ⟨q', j * 4 + 1, none⟩ = some (.int .u32 ((j : Int) + 1)) ∧ W.cell? ⟨q', j * 4 + 2, none⟩ = some (.int .u32 (bsz (ss.getD j ⟨#[]⟩))) ∧ W.cell? ⟨q', j * 4 + 3, none⟩ = some (.string (cutS P (ss.getD j ⟨#[]⟩))) := by
    by_cases hk0 : 0 < k
    · obtain ⟨q', cap, ob, e1, e2, e3, e4⟩ := own_row hown hk0
      injection e1 with e5 e6 e7
      refine ⟨(q', ob) :: [(pb, pairOb g h tb rb)], by simp, T4.out.addW hk5 q' ob e2 e3, fun W hW j hj => ⟨q', e5, e4 W (hW (q', ob) (by simp)) j hj⟩⟩
    · exact ⟨[(pb, pairOb g h tb rb)], by simp, T4.out.keep hk5, fun W hW j hj => by omega⟩
  have HROW := Lib.hid hrow
  have HXP := Lib.hid hXp
  clear hrow hXp hown T4
  have t6 := t5
  rw [← RL_zero n m m, run_new P S (n : Nat) (runB P m (lfr P ss))] at t6
  have hR0 : RunAt X w2 w5 tb g ib ic h q P S n m (lfr P ss) none 0 0 m v := ⟨Or.inl ⟨rfl, rfl, rfl⟩, t6⟩
  have HR0 := Lib.hid hR0
  clear hR0 t5 t6 HSL
  have HSL := Lib.hid (fun W => slotsKr P S n hR W)
  rw [show S - 1 = (m : Int) by have := HMS.out; omega] at HSL
  go_wp2_with fail
  go_loopw [7] (fun i wr => ∃ (j c u : Nat) (v : Value), j ≤ k ∧ i = .int .i64 j ∧ RunAt X w2 wr tb g ib ic h q P S n m (lfr P ss) none j c u v) (fun i _ => k - (intOf i).toNat)
  case atStart => exact ⟨0, 0, m, v, by omega, rfl, HR0.out⟩
  case round =>
    obtain ⟨j, c', u', v', hj, rfl, hrun⟩ := hrel
    clear HR0
    have HRU := Lib.hid hrun
    clear hrun
    by_cases hlt : j < k
    · have hjn : j < n * m := by omega
      have hfm := lfr_ok hR ss j (by omega)
      obtain ⟨q', hA1, -⟩ := HROW.out wr HRU.out.2.wat j hlt
      subst hA1
      have HCL : Hid (∀ W : World, (∀ y ∈ X, W.heap[y.1]? = some y.2) → W.cell? ⟨q', j * 4, none⟩ = some (.int .i64 2) ∧ W.cell? ⟨q', j * 4 + 1, none⟩ = some (.int .u32 ((j : Int) + 1)) ∧ W.cell? ⟨q', j * 4 + 2, none⟩ = some (.int .u32 (bsz (ss.getD j ⟨#[]⟩))) ∧ W.cell? ⟨q', j * 4 + 3, none⟩ = some (.string (cutS P (ss.getD j ⟨#[]⟩)))) := Lib.hid (fun W hW => by
        obtain ⟨q2, e, x⟩ := HROW.out W hW j hlt
        injection e with e
        injection e with e1
        subst e1
        exact x)
      have hlt2 : (j : Int) < (k : Int) := by omega
      have HAP := Lib.hid (fun W c u v (tt : RunAt X w2 W tb g ib ic h q P S n m (lfr P ss) none j c u v) => run_append hR HMS.out hm2 tt hjn hfm (fun N' hN' => by cases hN'))
      simp only [lfr] at HAP
      have HDD : Hid (∀ b W, StC (fun W => ∃ c u v, RunAt X w2 W tb g ib ic h q P S n m (lfr P ss) none j c u v) (fun W => ∃ c u v, RunAt X w2 W tb g ib ic h q P S n m (lfr P ss) none (j + 1) c u v ∧ lim m c u = pgOf m j + 1) b W →
          Kp w2 W ∧ (W.cell? ⟨pb, 0, none⟩ = some (.pointer (some ⟨g, 0, none⟩)) ∧ W.cell? ⟨pb, 1, none⟩ = some (.pointer (some ⟨h, 0, none⟩)) ∧ W.cell? ⟨pb, 2, none⟩ = some (.pointer (some ⟨tb, 0, none⟩))) ∧ W.cell? ⟨q', j * 4, none⟩ = some (.int .i64 2) ∧ W.cell? ⟨q', j * 4 + 1, none⟩ = some (.int .u32 ((j : Int) + 1)) ∧ W.cell? ⟨q', j * 4 + 2, none⟩ = some (.int .u32 (bsz (ss.getD j ⟨#[]⟩))) ∧ W.cell? ⟨q', j * 4 + 3, none⟩ = some (.string (cutS P (ss.getD j ⟨#[]⟩)))) :=
        Lib.hid (fun b W hs => hs.any (D := fun W => Kp w2 W ∧ (W.cell? ⟨pb, 0, none⟩ = some (.pointer (some ⟨g, 0, none⟩)) ∧ W.cell? ⟨pb, 1, none⟩ = some (.pointer (some ⟨h, 0, none⟩)) ∧ W.cell? ⟨pb, 2, none⟩ = some (.pointer (some ⟨tb, 0, none⟩))) ∧ W.cell? ⟨q', j * 4, none⟩ = some (.int .i64 2) ∧ W.cell? ⟨q', j * 4 + 1, none⟩ = some (.int .u32 ((j : Int) + 1)) ∧ W.cell? ⟨q', j * 4 + 2, none⟩ = some (.int .u32 (bsz (ss.getD j ⟨#[]⟩))) ∧ W.cell? ⟨q', j * 4 + 3, none⟩ = some (.string (cutS P (ss.getD j ⟨#[]⟩))))
          (fun W ⟨c, u, v, tt⟩ => ⟨tt.2.fl.kp, pairX tt.2 HXP.out, HCL.out W tt.2.wat⟩) (fun W ⟨c, u, v, tt, _⟩ => ⟨tt.2.fl.kp, pairX tt.2 HXP.out, HCL.out W tt.2.wat⟩))
      generalize hbz : bsz (ss.getD j ⟨#[]⟩) = bz at *
      generalize hct : cutS P (ss.getD j ⟨#[]⟩) = ct at *
      have HS0 : Hid (StC (fun W => ∃ c u v, RunAt X w2 W tb g ib ic h q P S n m (lfr P ss) none j c u v) (fun W => ∃ c u v, RunAt X w2 W tb g ib ic h q P S n m (lfr P ss) none (j + 1) c u v ∧ lim m c u = pgOf m j + 1) false wr.drew) :=
        Lib.hid ⟨fun _ => ⟨c', u', v', HRU.out.keep (Kp.refl wr).drew⟩, fun e => by cases e⟩
      go_wp2_with fail
      refine wp_region_rel3A (R1 := Kp) (C := StC (fun W => ∃ c u v, RunAt X w2 W tb g ib ic h q P S n m (lfr P ss) none j c u v) (fun W => ∃ c u v, RunAt X w2 W tb g ib ic h q P S n m (lfr P ss) none (j + 1) c u v ∧ lim m c u = pgOf m j + 1)) 8 (by kernel_rfl) (by kernel_rfl) HS0.out (StC.keep (fun W W' ⟨c, u, v, tt⟩ kk => ⟨c, u, v, tt.keep kk⟩) (fun W W' ⟨c, u, v, tt, e⟩ kk => ⟨c, u, v, tt.keep kk, e⟩)) Kp.refl (fun _ _ _ h k => h.trans k) ?_
      repeat (refine wpRel3_step (by simp) (fun K hK => ?_); apply rel3_eq; (case ob => (intro f b W hW hd; (obtain ⟨kz, ⟨p0, p1, p2⟩, x0, x1, x2, x3⟩ := HDD.out _ _ hW); (try simp [deps, factOf, Region.binds] at hd); unfold relOp; go_simp; (first | exact ⟨Kp.refl _, rfl⟩ | exact Kp.refl _ | (refine ⟨Kp.refl _, ?_⟩; fail)))); go_simp; refine hK _ _ ?_; clear hK K)
      refine wpRel3_move rfl rfl (.tuple #[.int .i64 ((pgOf m j : Nat) : Int), .int .i64 0]) ?ob (fun K hK => ?_)
      case ob =>
        intro f W hW hd
        have HW2 := Lib.hid (hW.1 rfl)
        (try simp [deps, factOf, Region.binds] at hd)
        unfold mvOp
        go_simp
        (obtain ⟨c9, u9, v9, t9⟩ := HW2.out; refine (HAP.out _ _ _ _ t9).mono ?_; rintro e w4 ⟨rfl, c8, u8, v8, t8, l8⟩; exact ⟨rfl, fun e => (by cases e), fun _ => ⟨c8, u8, ⟨v8, t8⟩, l8⟩⟩)
      go_simp
      refine hK _ _ ?_
      clear hK K
      repeat (refine wpRel3_step (by simp) (fun K hK => ?_); apply rel3_eq; (case ob => (intro f b W hW hd; (skip); (try simp [deps, factOf, Region.binds] at hd); unfold relOp; go_simp; (first | exact ⟨Kp.refl _, rfl⟩ | exact Kp.refl _ | (refine ⟨Kp.refl _, ?_⟩; fail)))); go_simp; refine hK _ _ ?_; clear hK K)
      refine wpRel3_nil ?_
      intro f w7 hW hall
      have h12 : f 12 = .int .i64 ((pgOf m j : Nat) : Int) := allF_get hall 12 _ rfl
      have h13 : f 13 = .int .i64 0 := allF_get hall 13 _ rfl
      clear hall
      dsimp only
      rw [h12, h13]
      clear h12 h13
      obtain ⟨c8, u8, v8, t8, l8⟩ := hW.2 rfl
      have T8 := Lib.hid t8
      have L8 := Lib.hid l8
      have hk7 := t8.2.fl.kp
      have q5 : IntKind.i64.wrap ((j : Int) + 1) = (j : Int) + 1 := IntWalk.i64_in _ (by omega)
      clear t8 l8 hW HS0 HDD HAP HRU
      obtain ⟨J, hJ⟩ : ∃ J, J = j / m := ⟨_, rfl⟩
      obtain ⟨x, hx⟩ : ∃ x, x = j % m := ⟨_, rfl⟩
      have hxm : x < m := by rw [hx]; exact Nat.mod_lt _ (by omega)
      have hjx : j = J * m + x := by rw [hJ, hx, Nat.mul_comm]; exact (Nat.div_add_mod j m).symm
      have hJn : J < n := by
        by_cases hb : J < n
        · exact hb
        · have : n * m ≤ J * m := Nat.mul_le_mul_right m (by omega)
          omega
      have hpg : pgOf m j = J * (m + 1) + (x + 1) := by rw [hJ, hx]; unfold pgOf; omega
      obtain ⟨T, hT⟩ : ∃ T, T = J * (m + 1) := ⟨_, rfl⟩
      have hJS : (T : Int) = (J : Int) * S := by rw [HMS.out, hT]; exact Int.natCast_mul J (m + 1)
      have hTn : T + (m + 1) ≤ n * (m + 1) := by
        rw [hT, ← Nat.succ_mul]
        exact Nat.mul_le_mul_right (m + 1) (by omega)
      have hSn : ((n * (m + 1) : Nat) : Int) = S * (n : Int) := by rw [HMS.out, Int.mul_comm]; exact Int.natCast_mul n (m + 1)
      have hnm72 : n * (m + 1) ≤ 72 := Nat.le_trans (Nat.mul_le_mul (by omega : n ≤ 12) (by omega : m + 1 ≤ 6)) (by omega)
      rw [← hT] at hpg
      have d1 : Int.tdiv (j : Int) (m : Int) = (J : Int) := by rw [hJ]; rfl
      have d9 : Int.tmod (j : Int) (m : Int) = (x : Int) := by rw [hx]; rfl
      have d0 : ((m : Int) == 0) = false := by simp; omega
      have qa : IntKind.i64.wrap (J : Int) = (J : Int) := IntWalk.i64_in _ (by omega)
      have qb : IntKind.i64.wrap ((J : Int) * S) = (J : Int) * S := IntWalk.i64_in _ (by rw [← hJS]; omega)
      have qc : IntKind.i64.wrap ((J : Int) * S + 1) = (J : Int) * S + 1 := IntWalk.i64_in _ (by rw [← hJS]; omega)
      have qd : IntKind.i64.wrap (x : Int) = (x : Int) := IntWalk.i64_in _ (by omega)
      have qe : IntKind.i64.wrap ((J : Int) * S + 1 + (x : Int)) = ((pgOf m j : Nat) : Int) := by rw [IntWalk.i64_in _ (by rw [← hJS]; omega), ← hJS, hpg]; omega
      have HB1 : Hid (∀ W c u v, RunAt X w2 W tb g ib ic h q P S n m (lfr P ss) none (j + 1) c u v ∧ lim m c u = pgOf m j + 1 → Calls Try.prog 20 #[.pointer (some ⟨g, 0, none⟩), .int .i64 (pgOf m j : Nat)] W fun e w' => e = .returned (.tuple #[.string (pageS P 2 ((j : Int) + 1) bz ct), .int .i64 0]) ∧ Kp W w') := Lib.hid (fun W c u v ⟨tt, ll⟩ => by
        have H := fread_any tt.2.fl.at_ tt.2.fl.ok ((pgOf m j : Nat) : Int)
        rw [RL_len, run_read hR (pgOf m j) (by rw [← hSn]; omega) (by omega), hpg, hT, runB_frame P m (lfr P ss) J (x + 1) (by omega) (by omega), show J * m + (x + 1) - 1 = j by omega] at H
        rw [hpg, hT, ← hbz, ← hct]
        exact H)
      have HB2 : Hid (∀ W c u v, RunAt X w2 W tb g ib ic h q P S n m (lfr P ss) none (j + 1) c u v ∧ lim m c u = pgOf m j + 1 → Calls Try.prog 20 #[.pointer (some ⟨g, 0, none⟩), .int .i64 ((J : Int) * S)] W fun e w' => e = .returned (.tuple #[.string (headP P ((J : Int) + 1) (J : Int)), .int .i64 0]) ∧ Kp W w') := Lib.hid (fun W c u v ⟨tt, ll⟩ => by
        have H := fread_any tt.2.fl.at_ tt.2.fl.ok (T : Int)
        rw [RL_len, run_read hR T (by rw [← hSn]; omega) (by omega), hJS, hT, runB_head P m (lfr P ss) J] at H
        exact H)
      have HR1 : Hid (∀ W, Calls Try.prog 21 #[.string (pageS P 2 ((j : Int) + 1) bz ct)] W fun e w' => e = .returned (.tuple #[frv 2 ((j : Int) + 1) bz ct, .int .i64 0]) ∧ Kp W w') := Lib.hid (fun W => by
        have hz : ((pageS P 2 ((j : Int) + 1) (bsz (ss.getD j ⟨#[]⟩)) (cutS P (ss.getD j ⟨#[]⟩))).size : Int) = P := pageS_size (hfm.pg hR)
        have H := readR (pageS P 2 ((j : Int) + 1) (bsz (ss.getD j ⟨#[]⟩)) (cutS P (ss.getD j ⟨#[]⟩))) (by omega) ⟨2, (j : Int) + 1, bsz (ss.getD j ⟨#[]⟩), cutS P (ss.getD j ⟨#[]⟩)⟩ 0 (read_back (hfm.pg hR)).1 W
        rw [hbz, hct] at H
        exact H)
      have HR2 : Hid (∀ W, Calls Try.prog 21 #[.string (headP P ((J : Int) + 1) (J : Int))] W fun e w' => e = .returned (.tuple #[frv 1 ((J : Int) + 1) (J : Int) ⟨#[]⟩, .int .i64 0]) ∧ Kp W w') := Lib.hid (fun W => by
        have hz := headP_size hR ((J : Int) + 1) (J : Int) (by omega) (by omega)
        exact readR (headP P ((J : Int) + 1) (J : Int)) (by omega) ⟨1, (J : Int) + 1, (J : Int), ⟨#[]⟩⟩ 0 (read_back (headOk hR ((J : Int) + 1) (J : Int) (by omega) (by omega))).1 W)
      have hdm : pgOf m j / (m + 1) = J ∧ pgOf m j % (m + 1) = x + 1 := by
        rw [hpg, hT]
        exact divmod J m (x + 1) (by omega)
      have d8 : Int.tmod ((pgOf m j : Nat) : Int) S = (x : Int) + 1 := by
        rw [HMS.out]
        show (((pgOf m j) % (m + 1) : Nat) : Int) = _
        rw [hdm.2]
        omega
      have d7 : Int.tdiv ((pgOf m j : Nat) : Int) S = (J : Int) := by
        rw [HMS.out]
        show (((pgOf m j) / (m + 1) : Nat) : Int) = _
        rw [hdm.1]
      have dS : (S == 0) = false := by simp; omega
      have qf : IntKind.i64.wrap ((x : Int) + 1) = (x : Int) + 1 := IntWalk.i64_in _ (by omega)
      have qg : IntKind.i64.wrap (((pgOf m j : Nat) : Int) - ((x : Int) + 1)) = (J : Int) * S := by rw [IntWalk.i64_in _ (by omega), ← hJS, hpg]; omega
      have qh : IntKind.i64.wrap ((J : Int) + 1) = (J : Int) + 1 := IntWalk.i64_in _ (by omega)
      have qi : IntKind.u32.wrap ((J : Int) + 1) = (J : Int) + 1 := by have := IntWalk.u32_in ((J : Int) + 1) (by omega); exact this
      have qj : IntKind.u32.wrap (J : Int) = (J : Int) := by have := IntWalk.u32_in (J : Int) (by omega); exact this
      have HPX := Lib.hid (fun W (kk : Kp w7 W) => pairX (T8.out.keep kk).2 HXP.out)
      have HQX := Lib.hid (fun W (kk : Kp w7 W) => HCL.out W (T8.out.keep kk).2.wat)
      clear hdm
      have HK1 := Lib.hid (And.intro hJn (And.intro hjx (And.intro hpg (And.intro hJS (And.intro hTn (And.intro hSn hnm72))))))
      clear hJn hjx hpg hJS hTn hSn hnm72 hT hJ hx
      obtain ⟨g0, g1, g2⟩ := HC.out _ hk7
      go_wp2_with fail
      have hInh := fun (x v : Value) => (⟨fun h => h _ ((Kp.refl _).drew), fun h _ _ => h⟩ : (∀ Wz9, (fun W => Kp w7 W) Wz9 → x = v) ↔ x = v)
      dsimp only at hInh
      refine wp_region_quietC (C := fun W => Kp w7 W) (by kernel_rfl) (by kernel_rfl) ((Kp.refl _).drew) ?_
      repeat (first | go_big_quiet_step ((intro hW; first | (go_at_call 16; refine (HSL.out _).mono ?_; rintro e w' ⟨rfl, hk9⟩; exact ⟨rfl, hW.trans hk9⟩) | (with_reducible rfl) | (obtain ⟨g0, g1, g2⟩ := HC.out _ (hk7.trans hW); (try go_simp); first | done | with_reducible rfl | exact ⟨rfl, rfl⟩))) | quiet_step ((intro hW; first | (go_at_call 16; refine (HSL.out _).mono ?_; rintro e w' ⟨rfl, hk9⟩; exact ⟨rfl, hW.trans hk9⟩) | (with_reducible rfl) | (obtain ⟨g0, g1, g2⟩ := HC.out _ (hk7.trans hW); (try go_simp); first | done | with_reducible rfl | exact ⟨rfl, rfl⟩))))
      refine wpQuiet_nil ?_
      intro wq hwq
      clear hInh
      obtain ⟨p0, p1, p2⟩ := HPX.out _ hwq
      go_wp2_with fail
      refine (HB1.out _ _ _ _ ⟨T8.out.keep hwq, L8.out⟩).mono ?_
      rintro e wa ⟨rfl, hka⟩
      have hkqa := hwq.trans hka
      obtain ⟨g0, g1, g2⟩ := HC.out _ (hk7.trans hkqa)
      obtain ⟨p0, p1, p2⟩ := HPX.out _ hkqa
      go_wp2_with fail
      refine (HR1.out _).mono ?_
      rintro e wb ⟨rfl, hkb⟩
      have hkqb := hkqa.trans hkb
      obtain ⟨g0, g1, g2⟩ := HC.out _ (hk7.trans hkqb)
      obtain ⟨p0, p1, p2⟩ := HPX.out _ hkqb
      go_wp2_with fail
      have hbY := Bk.new wb 26 [.int .i64 2, .int .u32 ((j : Int) + 1), .int .u32 bz, .string ct]
      have hkY : Kp wb (wb.alloc (.cells #[.int .i64 2, .int .u32 ((j : Int) + 1), .int .u32 bz, .string ct] 26)) := Kp.one _ _
      generalize wb.alloc (.cells #[.int .i64 2, .int .u32 ((j : Int) + 1), .int .u32 bz, .string ct] 26) = wY at *
      generalize wb.heap.size = yb at *
      have hkqY := hkqb.trans hkY
      have hInh := fun (x v : Value) => (⟨fun h => h _ ((Kp.refl _).drew), fun h _ _ => h⟩ : (∀ Wz9, (fun W => Kp wY W) Wz9 → x = v) ↔ x = v)
      dsimp only at hInh
      refine wp_region_quietC (C := fun W => Kp wY W) (by kernel_rfl) (by kernel_rfl) ((Kp.refl _).drew) ?_
      repeat (first | go_big_quiet_step ((intro hW; first | (go_at_call 20; refine (HB2.out _ _ _ _ ⟨T8.out.keep (hkqY.trans hW), L8.out⟩).mono ?_; rintro e w' ⟨rfl, hk9⟩; exact ⟨rfl, hW.trans hk9⟩) | (with_reducible rfl) | (obtain ⟨g0, g1, g2⟩ := HC.out _ (hk7.trans (hkqY.trans hW)); obtain ⟨p0, p1, p2⟩ := HPX.out _ (hkqY.trans hW); (try go_simp); first | done | with_reducible rfl | exact ⟨rfl, rfl⟩))) | quiet_step ((intro hW; first | (go_at_call 20; refine (HB2.out _ _ _ _ ⟨T8.out.keep (hkqY.trans hW), L8.out⟩).mono ?_; rintro e w' ⟨rfl, hk9⟩; exact ⟨rfl, hW.trans hk9⟩) | (with_reducible rfl) | (obtain ⟨g0, g1, g2⟩ := HC.out _ (hk7.trans (hkqY.trans hW)); obtain ⟨p0, p1, p2⟩ := HPX.out _ (hkqY.trans hW); (try go_simp); first | done | with_reducible rfl | exact ⟨rfl, rfl⟩))))
      refine wpQuiet_nil ?_
      intro wq hwq
      clear hInh
      go_wp2_with fail
      refine (HR2.out _).mono ?_
      rintro e wc ⟨rfl, hkc⟩
      go_wp2_with fail
      have hbY2 := (hbY.keep hwq).keep hkc
      have hbZ := Bk.new wc 26 [.int .i64 1, .int .u32 ((J : Int) + 1), .int .u32 (J : Int), .string ⟨#[]⟩]
      have hkZ : Kp wc (wc.alloc (.cells #[.int .i64 1, .int .u32 ((J : Int) + 1), .int .u32 (J : Int), .string ⟨#[]⟩] 26)) := Kp.one _ _
      generalize wc.alloc (.cells #[.int .i64 1, .int .u32 ((J : Int) + 1), .int .u32 (J : Int), .string ⟨#[]⟩] 26) = wZ at *
      generalize wc.heap.size = zb at *
      have hkqZ := ((hkqY.trans hwq).trans hkc).trans hkZ
      have HBY := Lib.hid (fun W (kk : Kp wZ W) => ((hbY2.keep hkZ).keep kk).c4g)
      have HBZ := Lib.hid (fun W (kk : Kp wZ W) => (hbZ.keep kk).c4g)
      have hInh := fun (x v : Value) => (⟨fun h => h _ ((Kp.refl _).drew), fun h _ _ => h⟩ : (∀ Wz9, (fun W => Kp wZ W) Wz9 → x = v) ↔ x = v)
      dsimp only at hInh
      refine wp_region_quietC (C := fun W => Kp wZ W) (by kernel_rfl) (by kernel_rfl) ((Kp.refl _).drew) ?_
      repeat (first | go_big_quiet_step ((intro hW; first | (go_at_call 16; refine (HSL.out _).mono ?_; rintro e w' ⟨rfl, hk9⟩; exact ⟨rfl, hW.trans hk9⟩) | (with_reducible rfl) | (obtain ⟨g0, g1, g2⟩ := HC.out _ (hk7.trans (hkqZ.trans hW)); obtain ⟨x0, x1, x2, x3⟩ := HQX.out _ (hkqZ.trans hW); obtain ⟨y0, y1, y2, y3⟩ := HBY.out _ hW; obtain ⟨z0, z1, z2, z3⟩ := HBZ.out _ hW; (try go_simp); first | done | with_reducible rfl | exact ⟨rfl, rfl⟩))) | quiet_step ((intro hW; first | (go_at_call 16; refine (HSL.out _).mono ?_; rintro e w' ⟨rfl, hk9⟩; exact ⟨rfl, hW.trans hk9⟩) | (with_reducible rfl) | (obtain ⟨g0, g1, g2⟩ := HC.out _ (hk7.trans (hkqZ.trans hW)); obtain ⟨x0, x1, x2, x3⟩ := HQX.out _ (hkqZ.trans hW); obtain ⟨y0, y1, y2, y3⟩ := HBY.out _ hW; obtain ⟨z0, z1, z2, z3⟩ := HBZ.out _ hW; (try go_simp); first | done | with_reducible rfl | exact ⟨rfl, rfl⟩))))
      refine wpQuiet_nil ?_
      intro wq hwq
      clear hInh
      go_wp2_with fail
      go_roundw
      case rel => exact ⟨j + 1, c8, u8, v8, by omega, by go_num, T8.out.keep (hkqZ.trans hwq)⟩
      case measure => simp [intOf]; omega
    · obtain rfl : j = k := by omega
      have hf1 : (flushD P (runDev P S (n : Nat) (runB P m (lfr P ss)) (lim m c' u') none)).2 = 0 := by simp [flushD, countD, runDev]
      have hf2 : (flushD P (runDev P S (n : Nat) (runB P m (lfr P ss)) (lim m c' u') none)).1.row.length = 0 := by simp [flushD, countD, runDev]
      have HFL : Hid (∀ W, TpS X w2 W tb g ib ic h q P S (runDev P S (n : Nat) (runB P m (lfr P ss)) (lim m c' u') none) v' (RL n m c' u') ((c' : Int) - 1) → Calls Try.prog 22 #[.pointer (some ⟨tb, 0, none⟩)] W fun e w' => e = .returned (.int .i64 0) ∧ EmpT X w2 tb g ib ic h q P S w') := Lib.hid (fun W tt => (tflush tt).mono fun _ _ ⟨he, v2, t2⟩ => ⟨by rw [he, hf1], _, _, _, _, t2, hf2⟩)
      have HPE := Lib.hid (fun W (tt : EmpT X w2 tb g ib ic h q P S W) => tt.pair HXP.out)
      have HPP := Lib.hid (fun W (tt : EmpT X w2 tb g ib ic h q P S W) => tt.pending)
      clear hf1 hf2
      obtain ⟨p0, p1, p2⟩ := pairX HRU.out.2 HXP.out
      go_wp2_with fail
      refine (HFL.out _ HRU.out.2).mono ?_
      rintro e w7 ⟨rfl, hE⟩
      have HE := Lib.hid hE
      obtain ⟨p0, p1, p2⟩ := HPE.out _ hE
      clear hE HFL
      go_wp2_with fail
      refine (HPP.out _ HE.out).mono ?_
      rintro e w8 ⟨rfl, hk8⟩
      have hkw := HE.out.kp
      go_wp2_with fail
      go_ret
      exact ⟨rfl, (hK2.trans hkw).trans hk8⟩
end Go.Proofs.Ytdmkfklnnonkhaa
