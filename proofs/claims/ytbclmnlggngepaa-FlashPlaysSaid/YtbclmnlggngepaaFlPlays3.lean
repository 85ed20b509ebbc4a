/- The walk of FlashPlays. -/
import Derived.Test.YtbclmnlggngepaaFlPlays2
import Derived.Test.YtbclmnlggngepaaSmall
namespace Go.Proofs.Ytbclmnlggngepaa
open Go.RowKit
set_option linter.unusedVariables false

/-- A call on a device, raw. -/
structure FStp where
  what : Int
  a : Int
  b : Int
  S : ByteArray
  x : Int
  A : Option Addr
  cM : Nat
  mask : List Int
  near : Bool
instance : Inhabited FStp := ⟨⟨0, 0, 0, ⟨#[]⟩, 0, none, 0, [], false⟩⟩
def fscells (y : FStp) : List Value := [.int .i64 y.what, .int .i64 y.a, .int .i64 y.b, .string y.S, .int .u8 y.x, .slice y.A y.mask.length y.cM, .bool y.near]
def FStpsAt (w : World) (A : Option Addr) (xs : List FStp) : Prop :=
  xs.length ≤ 9223372036854775807 ∧ (0 < xs.length → ∃ b off, A = some ⟨b, off, none⟩ ∧ ∀ j (h : j < xs.length), w.cell? ⟨b, off + j * 7, none⟩ = some (.int .i64 xs[j].what) ∧ w.cell? ⟨b, off + j * 7 + 1, none⟩ = some (.int .i64 xs[j].a) ∧ w.cell? ⟨b, off + j * 7 + 2, none⟩ = some (.int .i64 xs[j].b) ∧ w.cell? ⟨b, off + j * 7 + 3, none⟩ = some (.string xs[j].S) ∧ w.cell? ⟨b, off + j * 7 + 4, none⟩ = some (.int .u8 xs[j].x) ∧ w.cell? ⟨b, off + j * 7 + 5, none⟩ = some (.slice xs[j].A xs[j].mask.length xs[j].cM) ∧ w.cell? ⟨b, off + j * 7 + 6, none⟩ = some (.bool xs[j].near))
def FStpOk (w : World) (xs : List FStp) : Prop := ∀ y ∈ xs, (-9223372036854775808 ≤ y.what ∧ y.what ≤ 9223372036854775807) ∧ (-9223372036854775808 ≤ y.a ∧ y.a ≤ 9223372036854775807) ∧ (-9223372036854775808 ≤ y.b ∧ y.b ≤ 9223372036854775807) ∧ y.S.size ≤ 9223372036854775807 ∧ (0 ≤ y.x ∧ y.x ≤ 255) ∧ NumsAt .i64 w y.A y.mask ∧ ∀ z ∈ y.mask, -9223372036854775808 ≤ z ∧ z ≤ 9223372036854775807

theorem new_pair {w0 w1 W W' : World} {g ib ic h hb hc : Nat} {p s r : Int} {d : Dev} {v v' : Value} (a : FlS w0 W g ib ic p s r d v) (k : Kp W w1) (b : RfS w1 W' h hb hc p s r d v') : FPair w0 W' g ib ic h hb hc p s r d d v v' := by
  have hlt := a.at_.foot_lt
  have ks := k.size
  have k0 := a.kp.size
  exact ⟨a.keep (k.trans b.kp), ⟨b.at_, b.ok, (a.kp.trans k).trans b.kp, fun x hx => by have := b.new x hx; omega⟩, fun x hx hy => by
    have := hlt x hx
    have := b.new x hy
    omega⟩
/-- What stands in memory while the law runs: both devices, all else as it was. -/
def PlayW (w0 : World) (g ib ic h hb hc : Nat) (p s r : Int) (_ : Bool) (W : World) : Prop := ∃ d v v', FPair w0 W g ib ic h hb hc p s r d d v v' ∧ NdD d
theorem PlayW.keep {w0 W W' : World} {g ib ic h hb hc : Nat} {p s r : Int} {b : Bool} (t : PlayW w0 g ib ic h hb hc p s r b W) (k : Kp W W') : PlayW w0 g ib ic h hb hc p s r b W' := by
  obtain ⟨d, v, v', h1, h2⟩ := t
  exact ⟨d, v, v', h1.keep k, h2⟩
theorem PlayW.kp {w0 W : World} {g ib ic h hb hc : Nat} {p s r : Int} {b : Bool} (t : PlayW w0 g ib ic h hb hc p s r b W) : Kp w0 W := by
  obtain ⟨d, v, v', h1, h2⟩ := t
  exact h1.fl.kp
set_option maxRecDepth 20000 in
set_option maxHeartbeats 12800000 in
theorem FlashPlays_walk (w : World) (p s r : Int) (wp : (Lit.int .i64 p).wf = true) (ws : (Lit.int .i64 s).wf = true) (wr : (Lit.int .i64 r).wf = true) (image : ByteArray) (wi : image.size ≤ 140737488351232) (A : Option Addr) (c : Nat) (xs : List FStp) (H : FStpsAt w A xs) (hw : FStpOk w xs) :
    Calls Try.prog 9 #[geo p s r, .string image, .slice A xs.length c] w fun e w' => e = .returned (.bool true) ∧ Kp w w' := by
  have bp := bounds_i64 wp
  have bs := bounds_i64 ws
  have br := bounds_i64 wr
  clear wp ws wr
  obtain ⟨P, S, n, hP, hS, hn, hR, hn7, hS6, hP64⟩ := small_geom p s r
  have HGE := Lib.hid (fun w => bgeom_any p s r bp bs br w)
  rw [hP, hS, hn] at HGE
  clear hP hS hn
  obtain ⟨r1, r2, r3, r4, r5, r6⟩ := id hR
  obtain ⟨m1, m2, m3, m4⟩ := mul3 hR
  have hlx := H.1
  have HSZ := Lib.hid (fun W => rsizeK P S n hR W)
  obtain ⟨N, hN⟩ : ∃ N : Nat, P * S * n = (N : Int) := ⟨(P * S * n).toNat, by omega⟩
  have HSH := Lib.hid (fun W => short_any image N (by omega) (by omega) W)
  rw [hN] at HSZ
  have hle : ((image.extract 0 N).size : Int) ≤ P * S * n := by rw [ByteArray.size_extract]; omega
  have HNW := Lib.hid (fun W => new_S hR (image.extract 0 N) hle W)
  have HRN := Lib.hid (fun W => rnew_S hR (image.extract 0 N) hle W)
  have hnd : NdD (newD P S n (image.extract 0 N)) := nd_nil rfl
  have HND := Lib.hid hnd
  generalize image.extract 0 N = im at *
  generalize hnd0 : newD P S n im = dn at *
  clear hnd hle hnd0 hN
  go_enter Try.func9, Try.ntmps9
  go_wp2_with fail
  refine (HGE.out _).mono ?_
  rintro e w1 ⟨rfl, hk1⟩
  have hB := (Bk.new w 23 [.int .i64 p, .int .i64 s, .int .i64 r]).keep hk1
  have hK := (Kp.one w (.cells [.int .i64 p, .int .i64 s, .int .i64 r].toArray 23)).trans hk1
  clear hk1
  obtain ⟨c0, c1, c2⟩ := hB.c3g
  have f0 := hB.free 0
  have f1 := hB.free 1
  have f2 := hB.free 2
  go_wp2_with fail
  obtain ⟨hB2, hK2⟩ := put3 hB hK (Nat.le_refl _) (.int .i64 P) (.int .i64 S) (.int .i64 n)
  refine (HSZ.out _).mono ?_
  rintro e w2 ⟨rfl, hk2⟩
  have hB3 := hB2.keep hk2
  have hK3 := hK2.trans hk2
  clear c0 c1 c2 f0 f1 f2 hB hK hB2 hK2 hk2
  obtain ⟨c0, c1, c2⟩ := hB3.c3g
  go_wp2_with fail
  refine (HSH.out _).mono ?_
  rintro e w9 ⟨rfl, rfl⟩
  go_wp2_with fail
  refine (HNW.out _).mono ?_
  rintro e w3 ⟨g, ib, ic, v, rfl, hf⟩
  have HC := Lib.hid (fun W (kk : Kp w2 W) => (hB3.keep kk).c3g)
  have HG := Lib.hid (fun W (kk : Kp w3 W) => fgeom (hf.keep kk).at_)
  have hkf := hf.kp
  clear c0 c1 c2
  go_wp2_with fail
  have hInh := fun (x v : Value) => (⟨fun h => h _ ((Kp.refl w3).drew), fun h _ _ => h⟩ : (∀ Wz9, (fun W => Kp w3 W) Wz9 → x = v) ↔ x = v)
  dsimp only at hInh
  refine wp_region_quietC (C := fun W => Kp w3 W) (by kernel_rfl) (by kernel_rfl) ((Kp.refl w3).drew) ?_
  repeat (first | go_big_quiet_step ((intro hW; first | (first | (go_at_call 12; refine (falive _).mono ?_; rintro e w' ⟨rfl, hk9⟩; exact ⟨rfl, hW.trans hk9⟩) | (go_at_call 30; refine (HG.out _ hW).mono ?_; rintro e w' ⟨rfl, hk9⟩; exact ⟨rfl, hW.trans hk9⟩)) | (with_reducible rfl) | (obtain ⟨c0, c1, c2⟩ := HC.out _ (hkf.trans hW); (try go_simp); first | done | with_reducible rfl | exact ⟨rfl, rfl⟩))) | quiet_step ((intro hW; first | (first | (go_at_call 12; refine (falive _).mono ?_; rintro e w' ⟨rfl, hk9⟩; exact ⟨rfl, hW.trans hk9⟩) | (go_at_call 30; refine (HG.out _ hW).mono ?_; rintro e w' ⟨rfl, hk9⟩; exact ⟨rfl, hW.trans hk9⟩)) | (with_reducible rfl) | (obtain ⟨c0, c1, c2⟩ := HC.out _ (hkf.trans hW); (try go_simp); first | done | with_reducible rfl | exact ⟨rfl, rfl⟩))))
  refine wpQuiet_nil ?_
  intro wq hwq
  clear hInh
  obtain ⟨c0, c1, c2⟩ := HC.out _ (hkf.trans hwq)
  go_wp2_with fail
  refine (HRN.out _).mono ?_
  rintro e w4 ⟨h, hb, hc, v', rfl, hr⟩
  have hpl : PlayW w2 g ib ic h hb hc P S n true w4 := ⟨dn, v, v', new_pair hf hwq hr, HND.out⟩
  have hkw := hK3
  clear c0 c1 c2 HG hf hwq hr hkf HND HRN HNW HSH HSZ HGE
  go_wp2_with fail
  go_loopw [10] (fun i wr => ∃ k : Nat, k ≤ xs.length ∧ k ≤ 60 ∧ i = .int .i64 k ∧ PlayW w2 g ib ic h hb hc P S n true wr) (fun i _ => 60 - (intOf i).toNat)
  case atStart => exact ⟨0, by omega, by omega, rfl, hpl⟩
  case round =>
    obtain ⟨k, hk, hk60, rfl, hpr⟩ := hrel
    clear hpl
    have hcases : ¬ k < xs.length ∨ (k < xs.length ∧ ¬ k < 60) ∨ (k < xs.length ∧ k < 60) := by omega
    rcases hcases with hc1 | ⟨hc1, hc2⟩ | ⟨hc1, hc2⟩
    · have d1 : decide ((k : Int) < (xs.length : Int)) = false := by simp; omega
      go_wp2_with fail
      go_ret
      exact ⟨rfl, hkw.trans hpr.kp⟩
    · have d1 : decide ((k : Int) < (xs.length : Int)) = true := by simp; omega
      have d2 : decide ((k : Int) < 60) = false := by simp; omega
      go_wp2_with fail
      go_ret
      exact ⟨rfl, hkw.trans hpr.kp⟩
    · have d1 : decide ((k : Int) < (xs.length : Int)) = true := by simp; omega
      have d2 : decide ((k : Int) < 60) = true := by simp; omega
      have hlt : (k : Int) < (xs.length : Int) := by omega
      obtain ⟨B, off, rfl, hcell⟩ := H.2 (by omega)
      obtain ⟨e0', e1', e2', e3', e4', e5', e6'⟩ := hcell k hc1
      have HE := Lib.hid (fun W (kk : Kp w2 W) => (⟨(hkw.trans kk).cell e0', (hkw.trans kk).cell e1', (hkw.trans kk).cell e2', (hkw.trans kk).cell e3', (hkw.trans kk).cell e4', (hkw.trans kk).cell e5', (hkw.trans kk).cell e6', HC.out _ kk⟩ : W.cell? ⟨B, off + k * 7, none⟩ = some (.int .i64 xs[k].what) ∧ W.cell? ⟨B, off + k * 7 + 1, none⟩ = some (.int .i64 xs[k].a) ∧ W.cell? ⟨B, off + k * 7 + 2, none⟩ = some (.int .i64 xs[k].b) ∧ W.cell? ⟨B, off + k * 7 + 3, none⟩ = some (.string xs[k].S) ∧ W.cell? ⟨B, off + k * 7 + 4, none⟩ = some (.int .u8 xs[k].x) ∧ W.cell? ⟨B, off + k * 7 + 5, none⟩ = some (.slice xs[k].A xs[k].mask.length xs[k].cM) ∧ W.cell? ⟨B, off + k * 7 + 6, none⟩ = some (.bool xs[k].near) ∧ _))
      clear e0' e1' e2' e3' e4' e5' e6'
      obtain ⟨v0, v1, v2, v3, v4, v5, v6⟩ := hw _ (List.getElem_mem hc1)
      have HM := Lib.hid (v5.keep hkw)
      have HMW := Lib.hid v6
      clear hcell v5 v6
      generalize xs[k] = y at *
      obtain ⟨yw, ya, yb, yS, yx, yA, yc, ym, yn⟩ := y
      dsimp only at HE HM HMW v0 v1 v2 v3 v4
      have HST := Lib.hid (fun W d u u' (t : FPair w2 W g ib ic h hb hc P S n d d u u') nd => fstep t nd yw ya yb yS yx yA yc ym yn v0 v1 v2 v3 v4 HM.out HMW.out)
      have HPK := Lib.hid (fun W => pick_any ya (S * n) (by have := page_lt (a := 0) (b := 0) hR; omega) (by have := mul_sr hR; omega) v1.1 v1.2 W)
      have q2 : IntKind.i64.wrap (S * (n : Int)) = S * n := IntWalk.i64_in _ (by have := mul_sr hR; omega)
      have HSA := Lib.hid (fun W d u u' (t : FPair w2 W g ib ic h hb hc P S n d d u u') => fsame t (ya % (S * n)))
      generalize ya % (S * (n : Int)) = pg at *
      have HP0 := Lib.hid hpr
      clear v0 v1 v2 v3 v4
      go_wp2_with fail
      refine wp_region_rel3 (R1 := Kp) (C := PlayW w2 g ib ic h hb hc P S n) 22 6 (by kernel_rfl) (by kernel_rfl) (HP0.out.keep (Kp.refl _).drew) (fun _ _ _ h k => h.keep k) Kp.refl (fun _ _ _ h k => h.trans k) ?_
      simp only [List.take_succ_cons, List.take_zero, List.drop_succ_cons, List.drop_zero]
      repeat (refine wpRel3_step (by simp) (fun K hK => ?_); apply rel3_eq; (case ob => (intro f b W hW hd; (obtain ⟨e0, e1, e2, e3, e4, e5, e6, c0, c1, c2⟩ := HE.out _ hW.kp); (try simp [deps, factOf, Region.binds] at hd); unfold relOp; go_simp; (first | exact ⟨Kp.refl _, rfl⟩ | exact Kp.refl _ | (refine ⟨Kp.refl _, ?_⟩; fail)))); go_simp; refine hK _ _ ?_; clear hK K)
      refine wpRel3_move rfl rfl (.bool true) ?ob (fun K hK => ?_)
      case ob =>
        intro f W hW hd
        have HW2 := Lib.hid hW
        (try simp [deps, factOf, Region.binds] at hd)
        unfold mvOp
        go_simp
        (obtain ⟨d, u, u', t, nd⟩ := HW2.out; refine (HST.out _ d u u' t nd).mono ?_; rintro e w4 ⟨rfl, d', u1, u2, t', nd'⟩; exact ⟨rfl, d', u1, u2, t', nd'⟩)
      go_simp
      refine hK _ _ ?_
      clear hK K
      repeat (refine wpRel3_step (by simp) (fun K hK => ?_); apply rel3_eq; (case ob => (intro f b W hW hd; (obtain ⟨e0, e1, e2, e3, e4, e5, e6, c0, c1, c2⟩ := HE.out _ hW.kp); (try simp [deps, factOf, Region.binds] at hd); unfold relOp; go_simp; (first | exact ⟨Kp.refl _, rfl⟩ | exact Kp.refl _ | (refine ⟨Kp.refl _, ?_⟩; (go_at_call 27; refine (HPK.out _).mono ?_; rintro e w' ⟨rfl, rfl⟩; exact ⟨rfl, Kp.refl _⟩))))); go_simp; refine hK _ _ ?_; clear hK K)
      refine wpRel3_nil ?_
      intro f W' hW hall
      have h8 : f 8 = .bool false := allF_get hall 8 _ rfl
      have h9 : f 9 = .pointer (some ⟨g, 0, none⟩) := allF_get hall 9 _ rfl
      have h10 : f 10 = .pointer (some ⟨h, 0, none⟩) := allF_get hall 10 _ rfl
      have h21 : f 21 = .int .i64 pg := allF_get hall 21 _ rfl
      clear hall
      dsimp only
      rw [h8, h9, h10, h21]
      obtain ⟨d, u, u', t, nd⟩ := hW
      have HT := Lib.hid t
      have HND := Lib.hid nd
      clear t nd h8 h9 h10 h21 HST HPK HE HP0 hpr
      go_wp2_with fail
      refine (HSA.out _ d u u' HT.out).mono ?_
      rintro e w5 ⟨rfl, hk5⟩
      go_wp2_with fail
      go_roundw
      case rel => exact ⟨k + 1, by omega, by omega, by go_num, d, u, u', HT.out.keep hk5, HND.out⟩
      case measure => simp [intOf]; omega
end Go.Proofs.Ytbclmnlggngepaa
