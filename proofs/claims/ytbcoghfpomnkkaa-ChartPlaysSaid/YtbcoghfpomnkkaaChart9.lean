/- The contracts of package chart: Resume, the small ones. -/
import Derived.Test.YtbcoghfpomnkkaaLawChart
import Derived.Deep.DeepCutAuto
import Derived.Deep.CutBlock
namespace Go.Proofs.Ytbcoghfpomnkkaa
open Go.RowKit
set_option linter.unusedVariables false

set_option maxHeartbeats 800000 in
theorem cresume_arg (W0 : World) (g q : Nat) (p s : Int) (l : List (Int × Int)) (o : Int) (h : ChAt W0 g q p s l o) (i : Int) (hi : i < 0 ∨ (l.length : Int) ≤ i) :
    Calls Try.prog 19 #[.pointer (some ⟨g, 0, none⟩), .int .i64 i] W0 fun e w' => e = .returned (.int .i64 1) ∧ Kp W0 w' := by
  go_enter Try.func19, Try.ntmps19
  go_wp2_with fail
  refine (chas_no W0 g q p s l o h i hi).mono ?_
  rintro e w1 ⟨rfl, rfl⟩
  go_wp2_with fail
  go_ret
  exact ⟨rfl, Kp.refl _⟩
set_option maxHeartbeats 1600000 in
theorem cresume_state (W0 : World) (g q : Nat) (p s : Int) (l : List (Int × Int)) (o : Int) (h : ChAt W0 g q p s l o) (ok : ChOk p s l o) (k : Nat) (hk : k < l.length) (hz : epo l k = 0 ∨ (epo l k ≠ 0 ∧ 0 ≤ o) ∨ (epo l k ≠ 0 ∧ o < 0 ∧ epo l k < (nwst l l.length).2)) :
    Calls Try.prog 19 #[.pointer (some ⟨g, 0, none⟩), .int .i64 k] W0 fun e w' => e = .returned (.int .i64 7) ∧ Kp W0 w' := by
  have hlen := ok.len
  have hk2 : (k : Int) < (l.length : Int) := by omega
  have HN := Lib.hid (cnewest_any W0 g q p s l o h (by omega) ok.ep0)
  have HO := Lib.hid (fun W (kk : Kp W0 W) => copened_any W g q p s l o (h.keep kk) ok)
  generalize nwst l l.length = z at *
  rcases hz with hz | ⟨hz, ho⟩ | ⟨hz, ho, ht⟩
  · go_enter Try.func19, Try.ntmps19
    go_wp2_with fail
    refine (chas_yes W0 g q p s l o h _ (by omega) (by omega)).mono ?_
    rintro e w1 ⟨rfl, rfl⟩
    go_wp2_with fail
    refine (HN.out).mono ?_
    rintro e w1 ⟨rfl, hk1⟩
    obtain ⟨c0, c1, c2, c3, c4⟩ := (h.keep hk1).c5
    obtain ⟨e0, e1⟩ := (h.keep hk1).eu k hk
    rw [hz] at e0
    clear hz
    go_wp2_with fail
    go_ret
    exact ⟨rfl, hk1⟩
  · have hb : (epo l k == 0) = false := by simpa using hz
    rw [show decide (0 ≤ o) = true by simpa using ho] at HO
    clear hz
    go_enter Try.func19, Try.ntmps19
    go_wp2_with fail
    refine (chas_yes W0 g q p s l o h _ (by omega) (by omega)).mono ?_
    rintro e w1 ⟨rfl, rfl⟩
    go_wp2_with fail
    refine (HN.out).mono ?_
    rintro e w1 ⟨rfl, hk1⟩
    obtain ⟨c0, c1, c2, c3, c4⟩ := (h.keep hk1).c5
    obtain ⟨e0, e1⟩ := (h.keep hk1).eu k hk
    go_wp2_with fail
    refine (HO.out _ hk1).mono ?_
    rintro e w2 ⟨rfl, hk2'⟩
    go_wp2_with fail
    go_ret
    exact ⟨rfl, hk1.trans hk2'⟩
  · have hb : (epo l k == 0) = false := by simpa using hz
    rw [show decide (0 ≤ o) = false by simp; omega] at HO
    clear hz
    go_enter Try.func19, Try.ntmps19
    go_wp2_with fail
    refine (chas_yes W0 g q p s l o h _ (by omega) (by omega)).mono ?_
    rintro e w1 ⟨rfl, rfl⟩
    go_wp2_with fail
    refine (HN.out).mono ?_
    rintro e w1 ⟨rfl, hk1⟩
    obtain ⟨c0, c1, c2, c3, c4⟩ := (h.keep hk1).c5
    obtain ⟨e0, e1⟩ := (h.keep hk1).eu k hk
    go_wp2_with fail
    refine (HO.out _ hk1).mono ?_
    rintro e w2 ⟨rfl, hk2'⟩
    clear c0 c1 c2 c3 c4 e0 e1
    obtain ⟨c0, c1, c2, c3, c4⟩ := (h.keep (hk1.trans hk2')).c5
    obtain ⟨e0, e1⟩ := (h.keep (hk1.trans hk2')).eu k hk
    have hd : decide (epo l k < z.2) = true := by simpa using ht
    go_wp2_with fail
    go_ret
    exact ⟨rfl, hk1.trans hk2'⟩
set_option maxHeartbeats 1600000 in
theorem cresume_ok (W0 : World) (g q : Nat) (p s : Int) (l : List (Int × Int)) (o : Int) (h : ChAt W0 g q p s l o) (ok : ChOk p s l o) (k : Nat) (hk : k < l.length) (hz : epo l k ≠ 0) (ho : o < 0) (ht : (nwst l l.length).2 ≤ epo l k) :
    Calls Try.prog 19 #[.pointer (some ⟨g, 0, none⟩), .int .i64 k] W0 fun e w' => e = .returned (.int .i64 0) ∧ ChAt w' g q p s l k ∧ Mv [g, q] W0 w' := by
  have hlen := ok.len
  have hk2 : (k : Int) < (l.length : Int) := by omega
  have HN := Lib.hid (cnewest_any W0 g q p s l o h (by omega) ok.ep0)
  have HO := Lib.hid (fun W (kk : Kp W0 W) => copened_any W g q p s l o (h.keep kk) ok)
  generalize nwst l l.length = z at *
  have hb : (epo l k == 0) = false := by simpa using hz
  rw [show decide (0 ≤ o) = false by simp; omega] at HO
  clear hz
  go_enter Try.func19, Try.ntmps19
  go_wp2_with fail
  refine (chas_yes W0 g q p s l o h _ (by omega) (by omega)).mono ?_
  rintro e w1 ⟨rfl, rfl⟩
  go_wp2_with fail
  refine (HN.out).mono ?_
  rintro e w1 ⟨rfl, hk1⟩
  obtain ⟨c0, c1, c2, c3, c4⟩ := (h.keep hk1).c5
  obtain ⟨e0, e1⟩ := (h.keep hk1).eu k hk
  go_wp2_with fail
  refine (HO.out _ hk1).mono ?_
  rintro e w2 ⟨rfl, hk2'⟩
  clear c0 c1 c2 c3 c4 e0 e1
  have h2 := h.keep (hk1.trans hk2')
  obtain ⟨c0, c1, c2, c3, c4⟩ := h2.c5
  obtain ⟨e0, e1⟩ := h2.eu k hk
  have f4 := h2.box.free 4
  have hd : decide (epo l k < z.2) = false := by simpa using ht
  go_wp2_with fail
  go_ret
  exact ⟨rfl, h2.opn k, (Mv.of (hk1.trans hk2')).set (by simp) _⟩

theorem oldF_rep (n : Nat) (o : Int) : ∀ m, oldF (List.replicate n (0, 0)) o m = (0, false)
  | 0 => rfl
  | m + 1 => by rw [oldF, if_neg (fun hx => by have := (rep0 n m).1; omega), oldF_rep n o m]
set_option maxRecDepth 20000 in
set_option maxHeartbeats 6400000 in
theorem ChartNew_walk (w : World) (p s r : Int) (wp : (Lit.int .i64 p).wf = true) (ws : (Lit.int .i64 s).wf = true) (wr : (Lit.int .i64 r).wf = true) (small : Bool) :
    Calls Try.prog 7 #[geo p s r, .bool small] w fun e w' => e = .returned (.bool true) ∧ Kp w w' := by
  have bp := bounds_i64 wp
  have bs := bounds_i64 ws
  have br := bounds_i64 wr
  clear wp ws wr
  have HGE := Lib.hid (fun w => bgeom_any p s r bp bs br w)
  go_enter Try.func7, Try.ntmps7
  go_upto_if 10 with fail
  have hB := Bk.new w 23 [.int .i64 p, .int .i64 s, .int .i64 r]
  have hK := Kp.one w (.cells [.int .i64 p, .int .i64 s, .int .i64 r].toArray 23)
  have hW : w.alloc (.cells [.int .i64 p, .int .i64 s, .int .i64 r].toArray 23) = w.alloc (.cells #[.int .i64 p, .int .i64 s, .int .i64 r] 23) := rfl
  rw [hW] at hB hK
  clear hW
  generalize w.alloc (.cells #[.int .i64 p, .int .i64 s, .int .i64 r] 23) = w1 at hB hK ⊢
  go_cut [] (fun wx => ∃ P S R : Int, (-9223372036854775808 ≤ R ∧ R ≤ 9223372036854775807) ∧ Kp w wx ∧ Bk wx w.heap.size 23 [.int .i64 P, .int .i64 S, .int .i64 R])
  case first =>
    rcases small with _ | _
    · go_wp2_with fail
      go_meet
      exact ⟨_, _, _, by omega, hK, hB⟩
    · obtain ⟨c0, c1, c2⟩ := hB.c3g
      go_wp2_with fail
      refine (HGE.out _).mono ?_
      rintro e w2 ⟨rfl, hk2⟩
      clear c0 c1 c2
      have hB2 := hB.keep hk2
      have hK2 := hK.trans hk2
      obtain ⟨c0, c1, c2⟩ := hB2.c3g
      have f0 := hB2.free 0
      have f1 := hB2.free 1
      have f2 := hB2.free 2
      clear hB hK hk2
      go_wp2_with fail
      go_meet
      obtain ⟨q1, q2⟩ := put3 hB2 hK2 (Nat.le_refl _) (.int .i64 (32 + p % 33)) (.int .i64 (3 + s % 4)) (.int .i64 (4 + r % 4))
      exact ⟨_, _, _, by omega, q2, q1⟩
  case rest =>
    clear hB hK HGE bp bs br
    obtain ⟨P, S, R, bR, hK, hB⟩ := hcut
    by_cases hR : RightG P S R
    · obtain ⟨n, rfl⟩ : ∃ n : Nat, R = n := ⟨R.toNat, by unfold RightG at hR; omega⟩
      obtain ⟨r1, r2, r3, r4, r5, r6⟩ := id hR
      have hok := repOk P S n hR
      have hrl : (List.replicate n ((0 : Int), (0 : Int))).length = n := List.length_replicate
      obtain ⟨c0, c1, c2⟩ := hB.c3g
      go_wp2_with fail
      refine (cnew_yes P S n hR _).mono ?_
      rintro e w2 ⟨g, q, rfl, hg, hq, h0, hk2⟩
      have hB2 := hB.keep hk2
      have hK2 := hK.trans hk2
      clear hB hK c0 c1 c2 hk2
      go_wp2_with fail
      refine (alive_any _).mono ?_
      rintro e w3 ⟨rfl, hk3⟩
      have hB3 := hB2.keep hk3
      have hK3 := hK2.trans hk3
      have h3 := h0.keep hk3
      clear hB2 hK2 h0 hk3
      obtain ⟨c0, c1, c2⟩ := hB3.c3g
      go_wp2_with fail
      refine (rright_yes P S n hR _).mono ?_
      rintro e w4 ⟨rfl, hk4⟩
      have hk4' := hk4 ▸ Kp.one w3 (gob P S n)
      have hB4 := hB3.keep hk4'
      have hK4 := hK3.trans hk4'
      have h4 := h3.keep hk4'
      clear hB3 hK3 h3 hk4 hk4' c0 c1 c2
      go_wp2_with fail
      refine (coldest_any _ g q P S _ _ h4 hok).mono ?_
      rintro e w5 ⟨rfl, hk5⟩
      rw [oldF_rep]
      have hB5 := hB4.keep hk5
      have hK5 := hK4.trans hk5
      have h5 := h4.keep hk5
      clear hB4 hK4 h4 hk5
      go_wp2_with fail
      refine (ctake_no _ g q P S _ _ h5 hok (by unfold leftF; simp)).mono ?_
      rintro e w6 ⟨rfl, hk6⟩
      have hB6 := hB5.keep hk6
      have hK6 := hK5.trans hk6
      have h6 := h5.keep hk6
      clear hB5 hK5 h5 hk6
      have HC := Lib.hid (fun W (kk : Kp w6 W) => (hB6.keep kk).c3g)
      have HF := Lib.hid (fun W (kk : Kp w6 W) => (cfree_any W g q P S _ _ (h6.keep kk) (by omega) hok.ep0))
      have HL := Lib.hid (fun W (kk : Kp w6 W) => (cleft_any W g q P S _ _ (h6.keep kk) hok))
      have HA := Lib.hid (fun W (kk : Kp w6 W) => (cavail_any W g q P S _ _ (h6.keep kk) hok))
      have HH := Lib.hid (fun W => (rheld_any P S n hR W))
      have HR := Lib.hid (fun W (kk : Kp w6 W) => (cresume_state W g q P S _ _ (h6.keep kk) hok 0 (by omega) (Or.inl (rep0 n 0).1)))
      have HE := Lib.hid (fun W (kk : Kp w6 W) => (cerase_state W g q P S _ _ (h6.keep kk) (by omega) 0 (by omega) (Or.inl (rep0 n 0).1)))
      rw [hrl, frees_rep] at HF
      rw [show leftF S (List.replicate n (0, 0)) (-1) = 0 by unfold leftF; simp] at HL
      rw [show availF S (List.replicate n (0, 0)) (-1) = ((n : Int) - 2) * (S - 1) by unfold availF leftF; rw [hrl, frees_rep, if_pos (by omega), if_neg (by omega), Int.mul_comm]; omega] at HA
      generalize ((n : Int) - 2) * (S - 1) = av at *
      clear hrl hB6
      go_wp2_with fail
      have hInh := fun (x v : Value) => (⟨fun h => h _ ((Kp.refl w6).drew), fun h _ _ => h⟩ : (∀ W, (fun W => Kp w6 W) W → x = v) ↔ x = v)
      dsimp only at hInh
      refine wp_region_quietC (C := fun W => Kp w6 W) (by kernel_rfl) (by kernel_rfl) ((Kp.refl w6).drew) ?_
      repeat (first | go_big_quiet_step ((intro hW; first | (first | (go_at_call 16; refine (HF.out _ hW).mono ?_; rintro e w' ⟨rfl, hk9⟩; exact ⟨rfl, hW.trans hk9⟩) | (go_at_call 20; refine (HL.out _ hW).mono ?_; rintro e w' ⟨rfl, hk9⟩; exact ⟨rfl, hW.trans hk9⟩) | (go_at_call 21; refine (HA.out _ hW).mono ?_; rintro e w' ⟨rfl, hk9⟩; exact ⟨rfl, hW.trans hk9⟩) | (go_at_call 25; refine (HH.out _).mono ?_; rintro e w' ⟨rfl, hk9⟩; exact ⟨rfl, hW.trans hk9⟩) | (go_at_call 19; refine (HR.out _ hW).mono ?_; rintro e w' ⟨rfl, hk9⟩; exact ⟨rfl, hW.trans hk9⟩) | (go_at_call 15; refine (HE.out _ hW).mono ?_; rintro e w' ⟨rfl, hk9⟩; exact ⟨rfl, hW.trans hk9⟩)) | (with_reducible rfl) | (obtain ⟨c0, c1, c2⟩ := HC.out _ hW; (try go_simp); first | done | with_reducible rfl | exact ⟨rfl, rfl⟩))) | quiet_step ((intro hW; first | (first | (go_at_call 16; refine (HF.out _ hW).mono ?_; rintro e w' ⟨rfl, hk9⟩; exact ⟨rfl, hW.trans hk9⟩) | (go_at_call 20; refine (HL.out _ hW).mono ?_; rintro e w' ⟨rfl, hk9⟩; exact ⟨rfl, hW.trans hk9⟩) | (go_at_call 21; refine (HA.out _ hW).mono ?_; rintro e w' ⟨rfl, hk9⟩; exact ⟨rfl, hW.trans hk9⟩) | (go_at_call 25; refine (HH.out _).mono ?_; rintro e w' ⟨rfl, hk9⟩; exact ⟨rfl, hW.trans hk9⟩) | (go_at_call 19; refine (HR.out _ hW).mono ?_; rintro e w' ⟨rfl, hk9⟩; exact ⟨rfl, hW.trans hk9⟩) | (go_at_call 15; refine (HE.out _ hW).mono ?_; rintro e w' ⟨rfl, hk9⟩; exact ⟨rfl, hW.trans hk9⟩)) | (with_reducible rfl) | (obtain ⟨c0, c1, c2⟩ := HC.out _ hW; (try go_simp); first | done | with_reducible rfl | exact ⟨rfl, rfl⟩))))
      refine wpQuiet_nil ?_
      intro wq hwq
      clear hInh
      go_wp2_with fail
      go_ret
      exact ⟨rfl, hK6.trans hwq⟩
    · obtain ⟨c0, c1, c2⟩ := hB.c3g
      go_wp2_with fail
      refine (cnew_no P S R hR _).mono ?_
      rintro e w2 ⟨rfl, hk2⟩
      have hB2 := hB.keep hk2
      have hK2 := hK.trans hk2
      clear hB hK c0 c1 c2 hk2
      go_wp2_with fail
      refine (alive_any _).mono ?_
      rintro e w3 ⟨rfl, hk3⟩
      have hB3 := hB2.keep hk3
      have hK3 := hK2.trans hk3
      obtain ⟨c0, c1, c2⟩ := hB3.c3g
      go_wp2_with fail
      refine (rright_no P S R hR _).mono ?_
      rintro e w4 ⟨rfl, hk4⟩
      have hk4' := hk4 ▸ Kp.one w3 (gob P S R)
      go_wp2_with fail
      refine (alive_any _).mono ?_
      rintro e w5 ⟨rfl, hk5⟩
      go_wp2_with fail
      go_ret
      exact ⟨rfl, (hK3.trans hk4').trans hk5⟩
end Go.Proofs.Ytbcoghfpomnkkaa
