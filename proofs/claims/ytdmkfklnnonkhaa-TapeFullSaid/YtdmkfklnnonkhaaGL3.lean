/- Merged texts: LawTape3. -/
import Derived.Test.YtdmkfklnnonkhaaGI
/- The walk of TapeBlows. -/
namespace Go.Proofs.Ytdmkfklnnonkhaa
open Go.RowKit
set_option linter.unusedVariables false
set_option maxRecDepth 20000

theorem pairX {X : List (Nat × Obj)} {w W : World} {pb tb g ib ic h q rb : Nat} {p s : Int} {d : Dev} {v : Value} {l : List (Int × Int)} {o : Int} (t : TpS X w W tb g ib ic h q p s d v l o) (hm : (pb, pairOb g h tb rb) ∈ X) :
    W.cell? ⟨pb, 0, none⟩ = some (.pointer (some ⟨g, 0, none⟩)) ∧ W.cell? ⟨pb, 1, none⟩ = some (.pointer (some ⟨h, 0, none⟩)) ∧ W.cell? ⟨pb, 2, none⟩ = some (.pointer (some ⟨tb, 0, none⟩)) := by
  have hb : Bk W pb 40 (pairCells g h tb rb) := (t.watch _ hm).1
  exact ⟨hb.cell 0, hb.cell 1, hb.cell 2⟩
/-- One more block is watched: a new one. -/
theorem TpS.addW {X : List (Nat × Obj)} {w0 W0 W : World} {tb g ib ic h q : Nat} {p s : Int} {d : Dev} {v : Value} {l : List (Int × Int)} {o : Int} (t0 : TpS X w0 W0 tb g ib ic h q p s d v l o) (k : Kp W0 W) (b : Nat) (ob : Obj) (hb : W0.heap.size ≤ b) (ho : W.heap[b]? = some ob) : TpS ((b, ob) :: X) w0 W tb g ib ic h q p s d v l o := by
  have t := t0.keep k
  have l1 := t0.fl.at_.foot_lt
  have hc := t0.ch
  have l2 := hc.box.lt
  have l3 := hc.row.lt
  refine ⟨t.box, t.fl, t.ch, t.cok, t.new, t.dj, fun y hy => ?_⟩
  rcases List.mem_cons.1 hy with rfl | hy
  · exact ⟨ho, fun hx => by have := l1 _ hx; omega, by show b ≠ h; omega, by show b ≠ q; omega⟩
  · exact t.watch y hy
/-- The frames in memory, whatever the world, as long as their block is as it was. -/
theorem own_row {w : World} {base k : Nat} {v : Value} {P : Int} {ss : List ByteArray} (h : w.ownsRow base 26 4 v k (fcells P ss k)) (hk : 0 < k) :
    ∃ q cap ob, v = .slice (some ⟨q, 0, none⟩) k cap ∧ base ≤ q ∧ w.heap[q]? = some ob ∧ ∀ W : World, W.heap[q]? = some ob → ∀ j, j < k →
      W.cell? ⟨q, j * 4, none⟩ = some (.int .i64 2) ∧ W.cell? ⟨q, j * 4 + 1, none⟩ = some (.int .u32 ((j : Int) + 1)) ∧ W.cell? ⟨q, j * 4 + 2, none⟩ = some (.int .u32 (bsz (ss.getD j ⟨#[]⟩))) ∧ W.cell? ⟨q, j * 4 + 3, none⟩ = some (.string (cutS P (ss.getD j ⟨#[]⟩))) := by
  rcases h with ⟨hl, ⟨e1, e2⟩ | ⟨q, cap, cur, e1, e2, e3, e4⟩⟩
  · omega
  · refine ⟨q, cap, _, e1, e2, e3, fun W hW j hj => ?_⟩
    have hown : W.ownsRow base 26 4 v k (fcells P ss k) := ⟨hl, Or.inr ⟨q, cap, cur, e1, e2, hW, e4⟩⟩
    rw [e1] at hown
    have hlen := fcells_len P ss k
    have c0 := hown.cellAt (j * 4 + 0) (by omega)
    have c1 := hown.cellAt (j * 4 + 1) (by omega)
    have c2 := hown.cellAt (j * 4 + 2) (by omega)
    have c3 := hown.cellAt (j * 4 + 3) (by omega)
    rw [fcells_get P ss j _ (by omega) k hj] at c0 c1 c2 c3
    exact ⟨c0, c1, c2, c3⟩
/-- The laws' frames. -/
def lfr (P : Int) (ss : List ByteArray) (i : Nat) : Fm := ⟨2, (i : Int) + 1, bsz (ss.getD i ⟨#[]⟩), cutS P (ss.getD i ⟨#[]⟩)⟩
theorem lfr_ok {P S r : Int} (hR : RightG P S r) (ss : List ByteArray) (i : Nat) (hi : i < 1000) : FmOk P (lfr P ss i) := by
  unfold RightG at hR
  have := cutS_size P (by omega) (ss.getD i ⟨#[]⟩)
  exact ⟨by show (1 : Int) ≤ 2; omega, by show (2 : Int) ≤ 4; omega, by show 0 ≤ (i : Int) + 1 ∧ (i : Int) + 1 ≤ _; omega, bsz_bd _, by show ((cutS P _).size : Int) + 15 ≤ P; omega⟩
theorem slotsKr (p s r : Int) (h : RightG p s r) (w : World) : Calls Try.prog 16 #[geo p s r] w fun e w' => e = .returned (.int .i64 (s - 1)) ∧ Kp w w' :=
  (rslots_any p s r h w).mono fun _ _ ⟨he, hw⟩ => ⟨he, by first | exact hw | (rw [← hw]; exact Kp.one _ _)⟩
/-- Worlds ahead of a call that moves memory, and behind it. -/
def StC (A B : World → Prop) (b : Bool) (W : World) : Prop := (b = false → A W) ∧ (b = true → B W)
theorem StC.keep {A B : World → Prop} (hA : ∀ W W', A W → Kp W W' → A W') (hB : ∀ W W', B W → Kp W W' → B W') (b : Bool) (W W' : World) (h : StC A B b W) (k : Kp W W') : StC A B b W' := ⟨fun e => hA _ _ (h.1 e) k, fun e => hB _ _ (h.2 e) k⟩
theorem StC.any {A B D : World → Prop} (hA : ∀ W, A W → D W) (hB : ∀ W, B W → D W) {b : Bool} {W : World} (h : StC A B b W) : D W := by
  cases b with
  | false => exact hA _ (h.1 rfl)
  | true => exact hB _ (h.2 rfl)
theorem TpS.wat {X : List (Nat × Obj)} {w0 W : World} {tb g ib ic h q : Nat} {p s : Int} {d : Dev} {v : Value} {l : List (Int × Int)} {o : Int} (t : TpS X w0 W tb g ib ic h q p s d v l o) : ∀ y ∈ X, W.heap[y.1]? = some y.2 := fun y hy => (t.watch y hy).1
theorem RunAt.keep {X : List (Nat × Obj)} {w0 W W' : World} {tb g ib ic h q : Nat} {p s : Int} {n m : Nat} {fr : Nat → Fm} {fz : Option Nat} {i c u : Nat} {v : Value} (t : RunAt X w0 W tb g ib ic h q p s n m fr fz i c u v) (k : Kp W W') : RunAt X w0 W' tb g ib ic h q p s n m fr fz i c u v := ⟨t.1, t.2.keep k⟩
/-- What the operation that makes the frames tells. -/
def MFr (w5 : World) (P : Int) (ss : List ByteArray) (k : Nat) : Fact := fun v W => W.ownsRow w5.heap.size 26 4 v k (fcells P ss k)
theorem MFr.st {w5 : World} {P : Int} {ss : List ByteArray} {k : Nat} : Stable Kp (MFr w5 P ss k) := fun v W W' kk h => own_keep h kk
set_option maxHeartbeats 12800000 in
theorem TapeBlows_walk (w : World) (p s r : Int) (wp : (Lit.int .i64 p).wf = true) (ws : (Lit.int .i64 s).wf = true) (wr : (Lit.int .i64 r).wf = true) (A : Option Addr) (c : Nat) (ss : List ByteArray) (H : TextsAt w A ss) (wt : ∀ s ∈ ss, s.size ≤ 140737488351232) (wl : ss.length * 16 ≤ 140737488351232) (n0 : Int) (wn : (Lit.int .i64 n0).wf = true) :
    Calls Try.prog 4 #[geo p s r, .slice A ss.length c, .int .i64 n0] w fun e w' => e = .returned (.bool true) ∧ Kp w w' := by
  have bp := bounds_i64 wp
  have bs := bounds_i64 ws
  have br := bounds_i64 wr
  have bn := bounds_i64 wn
  clear wp ws wr wn wt wl
  obtain ⟨P, S, n, hP, hS, hn, hR, hn7, hS6, hP64⟩ := small_geom p s r
  have HGE := Lib.hid (fun w => bgeom_any p s r bp bs br w)
  rw [hP, hS, hn] at HGE
  clear hP hS hn
  obtain ⟨r1, r2, r3, r4, r5, r6⟩ := id hR
  obtain ⟨m, hm⟩ : ∃ m : Nat, S = (m : Int) + 1 := ⟨(S - 1).toNat, by omega⟩
  have hm2 : 2 ≤ m := by omega
  have hm5 : m ≤ 5 := by omega
  have HM := Lib.hid (fun W => made_any P S n hR W)
  have HAL := Lib.hid talive
  have HSL := Lib.hid (fun W => slotsKr P S n hR W)
  obtain ⟨k, hk⟩ : ∃ k, k = min ss.length (2 * m) := ⟨_, rfl⟩
  have HFR := Lib.hid (fun W (kk : Kp w W) => frames_any P S n hR A c ss W (H.keep kk) (2 * m) k (by omega) hk)
  have hmost : ((2 * m : Nat) : Int) = 2 * (m : Int) := by omega
  rw [hmost] at HFR
  have hS1 : S - 1 = (m : Int) := by omega
  rw [hS1] at HSL
  have hk9 : k ≤ 2 * m := by omega
  clear hmost hk
  have HPK := Lib.hid (fun W => pick_any n0 (2 * S) (by omega) (by omega) bn.1 bn.2 W)
  have hN0 := Int.emod_nonneg n0 (show 2 * S ≠ 0 by omega)
  have hN1 := Int.emod_lt_of_pos n0 (show 0 < 2 * S by omega)
  obtain ⟨N, hN⟩ : ∃ N : Nat, n0 % (2 * S) = N := ⟨(n0 % (2 * S)).toNat, by omega⟩
  rw [hN] at HPK hN1
  clear hN hN0
  have q1 : IntKind.i64.wrap (2 * (m : Int)) = 2 * (m : Int) := IntWalk.i64_in _ (by omega)
  have q2 : IntKind.i64.wrap (2 * S) = 2 * S := IntWalk.i64_in _ (by omega)
  have HMS := Lib.hid hm
  clear hm hS1
  go_enter Try.func4, Try.ntmps4
  go_wp2_with fail
  refine (HGE.out _).mono ?_
  rintro e w1 ⟨rfl, hk1⟩
  have hB := (Bk.new w 23 [.int .i64 p, .int .i64 s, .int .i64 r]).keep hk1
  have hK := (Kp.one w (gob p s r)).trans hk1
  clear hk1
  obtain ⟨c0, c1, c2⟩ := hB.c3g
  have f0 := hB.free 0
  have f1 := hB.free 1
  have f2 := hB.free 2
  go_wp2_with fail
  obtain ⟨hB2, hK2⟩ := put3 hB hK (Nat.le_refl _) (.int .i64 P) (.int .i64 S) (.int .i64 n)
  generalize ((w1.setCell ⟨w.heap.size, 0, none⟩ (.int .i64 P)).setCell ⟨w.heap.size, 1, none⟩ (.int .i64 S)).setCell ⟨w.heap.size, 2, none⟩ (.int .i64 (n : Int)) = w2 at *
  clear c0 c1 c2 f0 f1 f2 hB hK
  have HC := Lib.hid (fun W (kk : Kp w2 W) => (hB2.keep kk).c3g)
  refine (HM.out _).mono ?_
  rintro e w3 ⟨pb, tb, g, ib, ic, h, q, v, rb, a1, ab, ac, b1, be, bu, rfl, -, t, -⟩
  have HT := Lib.hid t
  have hk3 := t.fl.kp
  clear hB2 t
  go_wp2_with fail
  refine (HAL.out _).mono ?_
  rintro e w4 ⟨rfl, hk4⟩
  have hK4 := hk3.trans hk4
  have t4 := HT.out.keep hk4
  have T4 := Lib.hid t4
  have HFR4 := Lib.hid (fun W (kk : Kp w4 W) => HFR.out W ((hK2.trans hK4).trans kk))
  clear t4 HGE HM HAL HFR HT
  go_wp2_with fail
  refine wp_region_rel (R := Kp) (C := fun W' => Kp w4 W') (by kernel_rfl) (by kernel_rfl) (Kp.refl w4).drew (fun _ _ h k => h.trans k) Kp.refl (fun _ _ _ h k => h.trans k) ?_
  repeat (refine wpRel_step (fun K hK => ?_); apply rel_eq; (case ob => (intro f W hW hd; (obtain ⟨c0, c1, c2⟩ := HC.out _ (hK4.trans hW)); (try simp [deps, factOf, Region.binds] at hd); unfold relOp; go_simp; (first | exact ⟨Kp.refl _, rfl⟩ | exact Kp.refl _ | (refine ⟨Kp.refl _, ?_⟩; (go_at_call 16; refine (HSL.out _).mono ?_; rintro e w' ⟨rfl, hk9⟩; exact ⟨rfl, hk9⟩))))); go_simp; refine hK _ _ ?_; clear hK K)
  refine wpRel_step (fun K hK => ?_)
  apply rel_fact (MFr w4 P ss k) (MFr.st)
  case ob =>
    intro f W hW hd
    skip
    (try simp [deps, factOf, Region.binds] at hd)
    unfold relOp
    go_simp
    (refine ⟨Kp.refl _, ?_⟩; go_at_call 15; refine (HFR4.out _ hW).mono ?_; rintro e w' ⟨v9, rfl, ho, hk9⟩; exact ⟨_, rfl, hk9, own_base ho hW.size⟩)
  go_simp
  refine hK _ _ ?_
  clear hK K
  refine wpRel_step (fun K hK => ?_)
  apply rel_fact (MFr w4 P ss k) (MFr.st)
  case ob =>
    intro f W hW hd
    (simp [deps, factOf, Region.binds] at hd; have hd2 := hd)
    (try simp [deps, factOf, Region.binds] at hd)
    unfold relOp
    go_simp
    first | exact Kp.refl _ | exact ⟨Kp.refl _, hd2⟩
  go_simp
  refine hK _ _ ?_
  clear hK K
  refine wpRel_nil ?_
  intro f w5 hk5 hall
  have hown : w5.ownsRow w4.heap.size 26 4 (f 6) k (fcells P ss k) := allF_get hall 6 _ rfl
  clear hall HFR4
  dsimp only
  generalize f 6 = fv at *
  have hK5 := hK4.trans hk5
  obtain ⟨c0, c1, c2⟩ := HC.out _ hK5
  go_wp2_with fail
  refine (HPK.out _).mono ?_
  rintro e w9 ⟨rfl, rfl⟩
  clear c0 c1 c2
  obtain ⟨A1, c1, rfl⟩ := own_slice hown
  obtain ⟨X, hXp, t5, hrow⟩ : ∃ X, (pb, pairOb g h tb rb) ∈ X ∧ TpS X w2 w5 tb g ib ic h q P S (newD P S (n : Nat) ⟨#[]⟩) v (List.replicate n (0, 0)) (-1) ∧
      ∀ W : World, (∀ y ∈ X, W.heap[y.1]? = some y.2) → ∀ j, j < k → ∃ q', A1 = some ⟨q', 0, none⟩ ∧ W.cell? ⟨q', j * 4, none⟩ = some (.int .i64 2) ∧ W.cell? ⟨q', j * 4 + 1, none⟩ = some (.int .u32 ((j : Int) + 1)) ∧ W.cell? ⟨q', j * 4 + 2, none⟩ = some (.int .u32 (bsz (ss.getD j ⟨#[]⟩))) ∧ W.cell? ⟨q', j * 4 + 3, none⟩ = some (.string (cutS P (ss.getD j ⟨#[]⟩))) := by
    by_cases hk0 : 0 < k
    · obtain ⟨q', cap, ob, e1, e2, e3, e4⟩ := own_row hown hk0
      injection e1 with e5 e6 e7
      refine ⟨(q', ob) :: [(pb, pairOb g h tb rb)], by simp, T4.out.addW hk5 q' ob e2 e3, fun W hW j hj => ⟨q', e5, e4 W (hW (q', ob) (by simp)) j hj⟩⟩
    · exact ⟨[(pb, pairOb g h tb rb)], by simp, T4.out.keep hk5, fun W hW j hj => by omega⟩
  have HROW := Lib.hid hrow
  have HXP := Lib.hid hXp
  clear hrow hXp hown T4
  obtain ⟨p0, p1, p2⟩ := pairX t5 HXP.out
  have T5 := Lib.hid t5
  have HFU := Lib.hid (ffuse t5.fl.at_ (N : Int))
  clear t5
  go_wp2_with fail
  refine (HFU.out).mono ?_
  rintro e w6 ⟨rfl, hf6, hm6⟩
  have t6 := T5.out.stepF hf6 hm6 (fuseD_ok T5.out.fl.ok (N : Int) (by omega))
  rw [← RL_zero n m m, run_fuse P S (n : Nat) (runB P m (lfr P ss)) N] at t6
  have hR0 : RunAt X w2 w6 tb g ib ic h q P S n m (lfr P ss) (some N) 0 0 m v := ⟨Or.inl ⟨rfl, rfl, rfl⟩, t6⟩
  have HR0 := Lib.hid hR0
  clear hR0 t6 hf6 hm6 T5 HFU p0 p1 p2 HPK HSL
  have HSL := Lib.hid (fun W => slotsKr P S n hR W)
  rw [show S - 1 = (m : Int) by have := HMS.out; omega] at HSL
  go_wp2_with fail
  go_loopw [9] (fun i wr => ∃ (j c u : Nat) (v : Value), j ≤ k ∧ i = .int .i64 j ∧ RunAt X w2 wr tb g ib ic h q P S n m (lfr P ss) (some N) j c u v ∧ lim m c u ≤ N) (fun i _ => k - (intOf i).toNat)
  case atStart => exact ⟨0, 0, m, v, by omega, rfl, HR0.out, by simp [lim]⟩
  case round =>
    obtain ⟨j, c', u', v', hj, rfl, hrun, hlim⟩ := hrel
    clear HR0
    have HRU := Lib.hid hrun
    clear hrun
    by_cases hlt : j < k
    · have hjn : j < n * m := by
        have : 2 * m ≤ n * m := Nat.mul_le_mul_right m (by omega)
        omega
      have hfm := lfr_ok hR ss j (by omega)
      obtain ⟨q', hA1, -⟩ := HROW.out wr HRU.out.2.wat j hlt
      subst hA1
      have HCL : Hid (∀ W : World, (∀ y ∈ X, W.heap[y.1]? = some y.2) → W.cell? ⟨q', j * 4, none⟩ = some (.int .i64 2) ∧ W.cell? ⟨q', j * 4 + 1, none⟩ = some (.int .u32 ((j : Int) + 1)) ∧ W.cell? ⟨q', j * 4 + 2, none⟩ = some (.int .u32 (bsz (ss.getD j ⟨#[]⟩))) ∧ W.cell? ⟨q', j * 4 + 3, none⟩ = some (.string (cutS P (ss.getD j ⟨#[]⟩)))) := Lib.hid (fun W hW => by
        obtain ⟨q2, e, x⟩ := HROW.out W hW j hlt
        injection e with e
        injection e with e1
        subst e1
        exact x)
      have hlt2 : (j : Int) < (k : Int) := by omega
      by_cases hok : pgOf m j + 1 ≤ N
      · have HAP := Lib.hid (fun W c u v (tt : RunAt X w2 W tb g ib ic h q P S n m (lfr P ss) (some N) j c u v) => run_append hR HMS.out hm2 tt hjn hfm (fun N' hN' => by injection hN' with hN'; omega))
        simp only [lfr] at HAP
        have HDD : Hid (∀ b W, StC (fun W => ∃ c u v, RunAt X w2 W tb g ib ic h q P S n m (lfr P ss) (some N) j c u v) (fun W => ∃ c u v, RunAt X w2 W tb g ib ic h q P S n m (lfr P ss) (some N) (j + 1) c u v ∧ lim m c u = pgOf m j + 1) b W →
            Kp w2 W ∧ (W.cell? ⟨pb, 0, none⟩ = some (.pointer (some ⟨g, 0, none⟩)) ∧ W.cell? ⟨pb, 1, none⟩ = some (.pointer (some ⟨h, 0, none⟩)) ∧ W.cell? ⟨pb, 2, none⟩ = some (.pointer (some ⟨tb, 0, none⟩))) ∧ W.cell? ⟨q', j * 4, none⟩ = some (.int .i64 2) ∧ W.cell? ⟨q', j * 4 + 1, none⟩ = some (.int .u32 ((j : Int) + 1)) ∧ W.cell? ⟨q', j * 4 + 2, none⟩ = some (.int .u32 (bsz (ss.getD j ⟨#[]⟩))) ∧ W.cell? ⟨q', j * 4 + 3, none⟩ = some (.string (cutS P (ss.getD j ⟨#[]⟩)))) :=
          Lib.hid (fun b W hs => hs.any (D := fun W => Kp w2 W ∧ (W.cell? ⟨pb, 0, none⟩ = some (.pointer (some ⟨g, 0, none⟩)) ∧ W.cell? ⟨pb, 1, none⟩ = some (.pointer (some ⟨h, 0, none⟩)) ∧ W.cell? ⟨pb, 2, none⟩ = some (.pointer (some ⟨tb, 0, none⟩))) ∧ W.cell? ⟨q', j * 4, none⟩ = some (.int .i64 2) ∧ W.cell? ⟨q', j * 4 + 1, none⟩ = some (.int .u32 ((j : Int) + 1)) ∧ W.cell? ⟨q', j * 4 + 2, none⟩ = some (.int .u32 (bsz (ss.getD j ⟨#[]⟩))) ∧ W.cell? ⟨q', j * 4 + 3, none⟩ = some (.string (cutS P (ss.getD j ⟨#[]⟩))))
            (fun W ⟨c, u, v, tt⟩ => ⟨tt.2.fl.kp, pairX tt.2 HXP.out, HCL.out W tt.2.wat⟩) (fun W ⟨c, u, v, tt, _⟩ => ⟨tt.2.fl.kp, pairX tt.2 HXP.out, HCL.out W tt.2.wat⟩))
        generalize bsz (ss.getD j ⟨#[]⟩) = bz at *
        generalize cutS P (ss.getD j ⟨#[]⟩) = ct at *
        have HS0 : Hid (StC (fun W => ∃ c u v, RunAt X w2 W tb g ib ic h q P S n m (lfr P ss) (some N) j c u v) (fun W => ∃ c u v, RunAt X w2 W tb g ib ic h q P S n m (lfr P ss) (some N) (j + 1) c u v ∧ lim m c u = pgOf m j + 1) false wr.drew) :=
          Lib.hid ⟨fun _ => ⟨c', u', v', HRU.out.keep (Kp.refl wr).drew⟩, fun e => by cases e⟩
        clear HCL
        go_wp2_with fail
        refine wp_region_rel3A (R1 := Kp) (C := StC (fun W => ∃ c u v, RunAt X w2 W tb g ib ic h q P S n m (lfr P ss) (some N) j c u v) (fun W => ∃ c u v, RunAt X w2 W tb g ib ic h q P S n m (lfr P ss) (some N) (j + 1) c u v ∧ lim m c u = pgOf m j + 1)) 8 (by kernel_rfl) (by kernel_rfl) HS0.out (StC.keep (fun W W' ⟨c, u, v, tt⟩ kk => ⟨c, u, v, tt.keep kk⟩) (fun W W' ⟨c, u, v, tt, e⟩ kk => ⟨c, u, v, tt.keep kk, e⟩)) Kp.refl (fun _ _ _ h k => h.trans k) ?_
        repeat (refine wpRel3_step (by simp) (fun K hK => ?_); apply rel3_eq; (case ob => (intro f b W hW hd; (obtain ⟨kz, ⟨p0, p1, p2⟩, x0, x1, x2, x3⟩ := HDD.out _ _ hW); (try simp [deps, factOf, Region.binds] at hd); unfold relOp; go_simp; (first | exact ⟨Kp.refl _, rfl⟩ | exact Kp.refl _ | (refine ⟨Kp.refl _, ?_⟩; fail)))); go_simp; refine hK _ _ ?_; clear hK K)
        refine wpRel3_move rfl rfl (.tuple #[.int .i64 ((pgOf m j : Nat) : Int), .int .i64 0]) ?ob (fun K hK => ?_)
        case ob =>
          intro f W hW hd
          have HW2 := Lib.hid (hW.1 rfl)
          (try simp [deps, factOf, Region.binds] at hd)
          unfold mvOp
          go_simp
          (obtain ⟨c9, u9, v9, t9⟩ := HW2.out; refine (HAP.out _ _ _ _ t9).mono ?_; rintro e w4 ⟨rfl, c8, u8, v8, t8, l8⟩; exact ⟨rfl, fun e => (by cases e), fun _ => ⟨c8, u8, ⟨v8, t8⟩, l8⟩⟩)
        go_simp
        refine hK _ _ ?_
        clear hK K
        repeat (refine wpRel3_step (by simp) (fun K hK => ?_); apply rel3_eq; (case ob => (intro f b W hW hd; (skip); (try simp [deps, factOf, Region.binds] at hd); unfold relOp; go_simp; (first | exact ⟨Kp.refl _, rfl⟩ | exact Kp.refl _ | (refine ⟨Kp.refl _, ?_⟩; fail)))); go_simp; refine hK _ _ ?_; clear hK K)
        refine wpRel3_nil ?_
        intro f w7 hW hall
        have h13 : f 13 = .int .i64 0 := allF_get hall 13 _ rfl
        clear hall
        dsimp only
        rw [h13]
        obtain ⟨c8, u8, v8, t8, l8⟩ := hW.2 rfl
        have T8 := Lib.hid t8
        have L8 := Lib.hid l8
        have hk7 := t8.2.fl.kp
        obtain ⟨g0, g1, g2⟩ := HC.out _ hk7
        have q5 : IntKind.i64.wrap ((j : Int) + 1) = (j : Int) + 1 := IntWalk.i64_in _ (by omega)
        clear t8 l8 hW HS0 HDD HAP h13 HRU
        go_wp2_with fail
        refine (HSL.out _).mono ?_
        rintro e w8 ⟨rfl, hk8⟩
        have d1 : Int.tdiv (j : Int) (m : Int) = ((j / m : Nat) : Int) := rfl
        have d0 : ((m : Int) == 0) = false := by simp; omega
        have d2 : j / m < 1000 := Nat.lt_of_le_of_lt (Nat.div_le_self _ _) (by omega)
        have d3 : ((j : Int) + 1 + ((j / m : Nat) : Int) + 1) = ((pgOf m j + 1 : Nat) : Int) := by
          have e1 := Nat.div_add_mod j m
          have e2 := Nat.mul_add_one (j / m) m
          have e3 := Nat.mul_comm m (j / m)
          unfold pgOf
          rw [e2]
          generalize j / m * m = jx at *
          omega
        have d4 : ((pgOf m j + 1 : Nat) : Int) ≤ (N : Int) := by omega
        generalize j / m = jm at *
        have q6 : IntKind.i64.wrap (jm : Int) = (jm : Int) := IntWalk.i64_in _ (by omega)
        have q7 : IntKind.i64.wrap ((j : Int) + 1 + (jm : Int)) = (j : Int) + 1 + (jm : Int) := IntWalk.i64_in _ (by omega)
        have q8 : IntKind.i64.wrap ((j : Int) + 1 + (jm : Int) + 1) = (j : Int) + 1 + (jm : Int) + 1 := IntWalk.i64_in _ (by omega)
        have d5 : ¬ ((N : Int) < (j : Int) + 1 + (jm : Int) + 1) := by omega
        go_wp2_with fail
        go_roundw
        case rel => exact ⟨j + 1, c8, u8, v8, by omega, by go_num, T8.out.keep hk8, by rw [L8.out]; exact hok⟩
        case measure => simp [intOf]; omega
      · have hN9 : N ≤ pgOf m j := by omega
        clear hok
        have HAP := Lib.hid (fun W c u v (tt : RunAt X w2 W tb g ib ic h q P S n m (lfr P ss) (some N) j c u v) (hl : lim m c u ≤ N) => run_appblow hR HMS.out hm2 N tt hjn hfm hl hN9)
        simp only [lfr] at HAP
        have HDD : Hid (∀ b W, StC (fun W => ∃ c u v, RunAt X w2 W tb g ib ic h q P S n m (lfr P ss) (some N) j c u v ∧ lim m c u ≤ N) (fun W => ∃ v l o, TpS X w2 W tb g ib ic h q P S (blownDev P S (n : Nat) (runB P m (lfr P ss)) (N + 1)) v l o) b W →
            Kp w2 W ∧ (W.cell? ⟨pb, 0, none⟩ = some (.pointer (some ⟨g, 0, none⟩)) ∧ W.cell? ⟨pb, 1, none⟩ = some (.pointer (some ⟨h, 0, none⟩)) ∧ W.cell? ⟨pb, 2, none⟩ = some (.pointer (some ⟨tb, 0, none⟩))) ∧ W.cell? ⟨q', j * 4, none⟩ = some (.int .i64 2) ∧ W.cell? ⟨q', j * 4 + 1, none⟩ = some (.int .u32 ((j : Int) + 1)) ∧ W.cell? ⟨q', j * 4 + 2, none⟩ = some (.int .u32 (bsz (ss.getD j ⟨#[]⟩))) ∧ W.cell? ⟨q', j * 4 + 3, none⟩ = some (.string (cutS P (ss.getD j ⟨#[]⟩)))) :=
          Lib.hid (fun b W hs => hs.any (D := fun W => Kp w2 W ∧ (W.cell? ⟨pb, 0, none⟩ = some (.pointer (some ⟨g, 0, none⟩)) ∧ W.cell? ⟨pb, 1, none⟩ = some (.pointer (some ⟨h, 0, none⟩)) ∧ W.cell? ⟨pb, 2, none⟩ = some (.pointer (some ⟨tb, 0, none⟩))) ∧ W.cell? ⟨q', j * 4, none⟩ = some (.int .i64 2) ∧ W.cell? ⟨q', j * 4 + 1, none⟩ = some (.int .u32 ((j : Int) + 1)) ∧ W.cell? ⟨q', j * 4 + 2, none⟩ = some (.int .u32 (bsz (ss.getD j ⟨#[]⟩))) ∧ W.cell? ⟨q', j * 4 + 3, none⟩ = some (.string (cutS P (ss.getD j ⟨#[]⟩))))
            (fun W ⟨c, u, v, tt, _⟩ => ⟨tt.2.fl.kp, pairX tt.2 HXP.out, HCL.out W tt.2.wat⟩) (fun W ⟨v, l, o, tt⟩ => ⟨tt.fl.kp, pairX tt HXP.out, HCL.out W tt.wat⟩))
        generalize bsz (ss.getD j ⟨#[]⟩) = bz at *
        generalize cutS P (ss.getD j ⟨#[]⟩) = ct at *
        have HS0 : Hid (StC (fun W => ∃ c u v, RunAt X w2 W tb g ib ic h q P S n m (lfr P ss) (some N) j c u v ∧ lim m c u ≤ N) (fun W => ∃ v l o, TpS X w2 W tb g ib ic h q P S (blownDev P S (n : Nat) (runB P m (lfr P ss)) (N + 1)) v l o) false wr.drew) :=
          Lib.hid ⟨fun _ => ⟨c', u', v', HRU.out.keep (Kp.refl wr).drew, hlim⟩, fun e => by cases e⟩
        clear HCL
        go_wp2_with fail
        refine wp_region_rel3A (R1 := Kp) (C := StC (fun W => ∃ c u v, RunAt X w2 W tb g ib ic h q P S n m (lfr P ss) (some N) j c u v ∧ lim m c u ≤ N) (fun W => ∃ v l o, TpS X w2 W tb g ib ic h q P S (blownDev P S (n : Nat) (runB P m (lfr P ss)) (N + 1)) v l o)) 8 (by kernel_rfl) (by kernel_rfl) HS0.out (StC.keep (fun W W' ⟨c, u, v, tt, hl⟩ kk => ⟨c, u, v, tt.keep kk, hl⟩) (fun W W' ⟨v, l, o, tt⟩ kk => ⟨v, l, o, tt.keep kk⟩)) Kp.refl (fun _ _ _ h k => h.trans k) ?_
        repeat (refine wpRel3_step (by simp) (fun K hK => ?_); apply rel3_eq; (case ob => (intro f b W hW hd; (obtain ⟨kz, ⟨p0, p1, p2⟩, x0, x1, x2, x3⟩ := HDD.out _ _ hW); (try simp [deps, factOf, Region.binds] at hd); unfold relOp; go_simp; (first | exact ⟨Kp.refl _, rfl⟩ | exact Kp.refl _ | (refine ⟨Kp.refl _, ?_⟩; fail)))); go_simp; refine hK _ _ ?_; clear hK K)
        refine wpRel3_move rfl rfl (.tuple #[.int .i64 0, .int .i64 6]) ?ob (fun K hK => ?_)
        case ob =>
          intro f W hW hd
          have HW2 := Lib.hid (hW.1 rfl)
          (try simp [deps, factOf, Region.binds] at hd)
          unfold mvOp
          go_simp
          (obtain ⟨c9, u9, v9, t9, l9⟩ := HW2.out; refine (HAP.out _ _ _ _ t9 l9).mono ?_; rintro e w4 ⟨rfl, v8, l8, o8, t8⟩; exact ⟨rfl, fun e => (by cases e), fun _ => ⟨v8, l8, o8, t8⟩⟩)
        go_simp
        refine hK _ _ ?_
        clear hK K
        repeat (refine wpRel3_step (by simp) (fun K hK => ?_); apply rel3_eq; (case ob => (intro f b W hW hd; (skip); (try simp [deps, factOf, Region.binds] at hd); unfold relOp; go_simp; (first | exact ⟨Kp.refl _, rfl⟩ | exact Kp.refl _ | (refine ⟨Kp.refl _, ?_⟩; fail)))); go_simp; refine hK _ _ ?_; clear hK K)
        refine wpRel3_nil ?_
        intro f w7 hW hall
        have h13 : f 13 = .int .i64 6 := allF_get hall 13 _ rfl
        clear hall
        dsimp only
        rw [h13]
        obtain ⟨v8, l8, o8, t8⟩ := hW.2 rfl
        have T8 := Lib.hid t8
        have hk7 := t8.fl.kp
        obtain ⟨g0, g1, g2⟩ := HC.out _ hk7
        have q5 : IntKind.i64.wrap ((j : Int) + 1) = (j : Int) + 1 := IntWalk.i64_in _ (by omega)
        clear t8 hW HS0 HDD HAP h13 HRU
        go_wp2_with fail
        refine (HSL.out _).mono ?_
        rintro e w8 ⟨rfl, hk8⟩
        have d1 : Int.tdiv (j : Int) (m : Int) = ((j / m : Nat) : Int) := rfl
        have d0 : ((m : Int) == 0) = false := by simp; omega
        have d2 : j / m < 1000 := Nat.lt_of_le_of_lt (Nat.div_le_self _ _) (by omega)
        have d3 : ((j : Int) + 1 + ((j / m : Nat) : Int) + 1) = ((pgOf m j + 1 : Nat) : Int) := by
          have e1 := Nat.div_add_mod j m
          have e2 := Nat.mul_add_one (j / m) m
          have e3 := Nat.mul_comm m (j / m)
          unfold pgOf
          rw [e2]
          generalize j / m * m = jx at *
          omega
        generalize j / m = jm at *
        have q6 : IntKind.i64.wrap (jm : Int) = (jm : Int) := IntWalk.i64_in _ (by omega)
        have q7 : IntKind.i64.wrap ((j : Int) + 1 + (jm : Int)) = (j : Int) + 1 + (jm : Int) := IntWalk.i64_in _ (by omega)
        have q8 : IntKind.i64.wrap ((j : Int) + 1 + (jm : Int) + 1) = (j : Int) + 1 + (jm : Int) + 1 := IntWalk.i64_in _ (by omega)
        have d5 : ¬ ((j : Int) + 1 + (jm : Int) + 1 ≤ (N : Int)) := by omega
        have t9 := T8.out.keep hk8
        obtain ⟨p0, p1, p2⟩ := pairX t9 HXP.out
        have HD := Lib.hid (fdown t9.fl.at_)
        have hdn : (blownDev P S (n : Nat) (runB P m (lfr P ss)) (N + 1)).down = true := rfl
        rw [hdn] at HD
        have T9 := Lib.hid t9
        clear hdn t9 T8
        go_wp2_with fail
        refine (HD.out).mono ?_
        rintro e w9 ⟨rfl, hk9⟩
        have t10 := T9.out.keep hk9
        obtain ⟨p0, p1, p2⟩ := pairX t10 HXP.out
        have HP := Lib.hid (fpending t10.fl.at_)
        have hpl : (blownDev P S (n : Nat) (runB P m (lfr P ss)) (N + 1)).row.length = N + 1 := runRow_len _ _
        rw [hpl] at HP
        have hk10 := t10.fl.kp
        clear hpl t10 T9 HD
        have q9 : IntKind.i64.wrap ((N : Int) + 1) = (N : Int) + 1 := IntWalk.i64_in _ (by omega)
        go_wp2_with fail
        refine (HP.out).mono ?_
        rintro e w10 ⟨rfl, hk11⟩
        go_wp2_with fail
        go_ret
        exact ⟨by simp, (hK2.trans hk10).trans hk11⟩
    · obtain rfl : j = k := by omega
      obtain ⟨p0, p1, p2⟩ := pairX HRU.out.2 HXP.out
      have HD := Lib.hid (fdown HRU.out.2.fl.at_)
      have hdn : (runDev P S (n : Nat) (runB P m (lfr P ss)) (lim m c' u') (some N)).down = false := rfl
      rw [hdn] at HD
      have hkw := HRU.out.2.fl.kp
      clear hdn
      go_wp2_with fail
      refine (HD.out).mono ?_
      rintro e w7 ⟨rfl, hk7⟩
      go_wp2_with fail
      go_ret
      exact ⟨rfl, (hK2.trans hkw).trans hk7⟩
end Go.Proofs.Ytdmkfklnnonkhaa
