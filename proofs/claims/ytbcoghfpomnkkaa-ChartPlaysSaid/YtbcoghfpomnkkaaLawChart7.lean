/- The walk of ChartPlays: same. -/
import Derived.Test.YtbcoghfpomnkkaaLawChart6
namespace Go.Proofs.Ytbcoghfpomnkkaa
open Go.RowKit
set_option linter.unusedVariables false

set_option maxRecDepth 20000 in
set_option maxHeartbeats 6400000 in
theorem same_any (W0 : World) (g q h b u : Nat) (p s : Int) (l : List (Int × Int)) (o : Int) (t : Two W0 g q h b u p s l o) (raw : Int) :
    Calls Try.prog 29 #[.pointer (some ⟨g, 0, none⟩), .pointer (some ⟨h, 0, none⟩), .int .i64 raw] W0 fun e w' => e = .returned (.bool true) ∧ Kp W0 w' := by
  have hlen := t.ok.len
  have HC := Lib.hid (fun W (k : Kp W0 W) => (t.rc.keep k).c6)
  have HE := Lib.hid (fun W (k : Kp W0 W) j (hj : j < l.length) => (t.rc.keep k).c2 j hj)
  have H1 := Lib.hid (fun W (k : Kp W0 W) j (hj : j < l.length) => cepochK W g q p s l o (t.ch.keep k) (by omega) j hj)
  have H2 := Lib.hid (fun W (k : Kp W0 W) j (hj : j < l.length) => cused_in W g q p s l o (t.ch.keep k) (by omega) j hj)
  have H1o := Lib.hid (fun W (k : Kp W0 W) j (hj : j < 0 ∨ (l.length : Int) ≤ j) => cepoch_out W g q p s l o (t.ch.keep k) j hj)
  have H2o := Lib.hid (fun W (k : Kp W0 W) j (hj : j < 0 ∨ (l.length : Int) ≤ j) => cused_out W g q p s l o (t.ch.keep k) j hj)
  have H3 := Lib.hid (fun W (k : Kp W0 W) => coldest_any W g q p s l o (t.ch.keep k) t.ok)
  have H4 := Lib.hid (fun W (k : Kp W0 W) => roldest_any W h b u p s l o (t.rc.keep k) t.ok)
  have H5 := Lib.hid (fun W (k : Kp W0 W) => cfree_any W g q p s l o (t.ch.keep k) (by omega) t.ok.ep0)
  have H6 := Lib.hid (fun W (k : Kp W0 W) => rfree_any W h b u p s l o (t.rc.keep k) (by omega))
  have H7 := Lib.hid (fun W (k : Kp W0 W) => cleft_any W g q p s l o (t.ch.keep k) t.ok)
  have H8 := Lib.hid (fun W (k : Kp W0 W) => rleft_any W h b u p s l o (t.rc.keep k) t.ok)
  have H9 := Lib.hid (fun W (k : Kp W0 W) => cavail_any W g q p s l o (t.ch.keep k) t.ok)
  have H0 := Lib.hid (fun W (k : Kp W0 W) => ravail_any W h b u p s l o (t.rc.keep k) t.ok)
  generalize oldF l o l.length = z at *
  generalize leftF s l o = z7 at *
  generalize availF s l o = z9 at *
  generalize frees l l.length = z5 at *
  clear t
  go_enter Try.func29, Try.ntmps29
  go_wp2_with fail
  go_loopw [7] (fun i wr => ∃ k : Nat, k ≤ l.length ∧ i = .int .i64 k ∧ Kp W0 wr) (fun i _ => l.length - (intOf i).toNat)
  case atStart => exact ⟨0, by omega, rfl, Kp.refl W0⟩
  case round =>
    obtain ⟨k, hk, rfl, hKr⟩ := hrel
    obtain ⟨c0, c1, c2, c3, c4, c5⟩ := HC.out _ hKr
    by_cases hlt : k < l.length
    · have hlt2 : (k : Int) < (l.length : Int) := by omega
      have HCr := Lib.hid (fun W (k9 : Kp wr W) => HC.out _ (hKr.trans k9))
      have HEr := Lib.hid (fun W (k9 : Kp wr W) => HE.out _ (hKr.trans k9) k hlt)
      have H1r := Lib.hid (fun W (k9 : Kp wr W) => H1.out _ (hKr.trans k9) k hlt)
      have H2r := Lib.hid (fun W (k9 : Kp wr W) => H2.out _ (hKr.trans k9) k hlt)
      generalize epo l k = ve at *
      generalize uso l k = vu at *
      go_wp2_with fail
      have hInh := fun (x v : Value) => (⟨fun h => h _ ((Kp.refl wr).drew), fun h _ _ => h⟩ : (∀ W, (fun W => Kp wr W) W → x = v) ↔ x = v)
      dsimp only at hInh
      refine wp_region_quietC (C := fun W => Kp wr W) (by kernel_rfl) (by kernel_rfl) ((Kp.refl wr).drew) ?_
      repeat (first | go_big_quiet_step ((intro hW; first | (first | (go_at_call 30; refine (H1r.out _ hW).mono ?_; rintro e w' ⟨rfl, hk9⟩; exact ⟨rfl, hW.trans hk9⟩) | (go_at_call 31; refine (H2r.out _ hW).mono ?_; rintro e w' ⟨rfl, hk9⟩; exact ⟨rfl, hW.trans hk9⟩)) | (with_reducible rfl) | (obtain ⟨c0, c1, c2, c3, c4, c5⟩ := HCr.out _ hW; obtain ⟨e0, e1⟩ := HEr.out _ hW; (try go_simp); first | done | with_reducible rfl | exact ⟨rfl, rfl⟩))) | quiet_step ((intro hW; first | (first | (go_at_call 30; refine (H1r.out _ hW).mono ?_; rintro e w' ⟨rfl, hk9⟩; exact ⟨rfl, hW.trans hk9⟩) | (go_at_call 31; refine (H2r.out _ hW).mono ?_; rintro e w' ⟨rfl, hk9⟩; exact ⟨rfl, hW.trans hk9⟩)) | (with_reducible rfl) | (obtain ⟨c0, c1, c2, c3, c4, c5⟩ := HCr.out _ hW; obtain ⟨e0, e1⟩ := HEr.out _ hW; (try go_simp); first | done | with_reducible rfl | exact ⟨rfl, rfl⟩))))
      refine wpQuiet_nil ?_
      intro wq hwq
      clear hInh
      go_wp2_with fail
      go_roundw
      case rel => exact ⟨k + 1, by omega, by go_num, hKr.trans hwq⟩
      case measure => simp [intOf]; omega
    · obtain rfl : k = l.length := by omega
      have hcases : raw < 0 ∨ (0 ≤ raw ∧ (l.length : Int) ≤ raw) ∨ (0 ≤ raw ∧ raw < (l.length : Int)) := by omega
      go_wp2_with fail
      refine (H3.out _ hKr).mono ?_
      rintro e w1 ⟨rfl, k1⟩
      have hK1 := hKr.trans k1
      go_wp2_with fail
      refine (H4.out _ hK1).mono ?_
      rintro e w2 ⟨rfl, k2⟩
      have hK2 := hK1.trans k2
      clear c0 c1 c2 c3 c4 c5
      obtain ⟨c0, c1, c2, c3, c4, c5⟩ := HC.out _ hK2
      rcases hcases with hr | ⟨hr0, hr⟩ | ⟨hr0, hr⟩
      · go_wp2_with fail
        refine (H1o.out _ hK2 _ (Or.inl hr)).mono ?_
        rintro e w3 ⟨rfl, k3⟩
        have hK3 := hK2.trans k3
        go_wp2_with fail
        refine (H2o.out _ hK3 _ (Or.inl hr)).mono ?_
        rintro e w4 ⟨rfl, k4⟩
        have hK4 := hK3.trans k4
        go_wp2_with fail
        refine (H5.out _ hK4).mono ?_
        rintro e w5 ⟨rfl, k5⟩
        have hK5 := hK4.trans k5
        go_wp2_with fail
        refine (H6.out _ hK5).mono ?_
        rintro e w6 ⟨rfl, k6⟩
        have hK6 := hK5.trans k6
        go_wp2_with fail
        refine (H7.out _ hK6).mono ?_
        rintro e w7 ⟨rfl, k7⟩
        have hK7 := hK6.trans k7
        go_wp2_with fail
        refine (H8.out _ hK7).mono ?_
        rintro e w8 ⟨rfl, k8⟩
        have hK8 := hK7.trans k8
        go_wp2_with fail
        refine (H9.out _ hK8).mono ?_
        rintro e w9 ⟨rfl, k9⟩
        have hK9 := hK8.trans k9
        go_wp2_with fail
        refine (H0.out _ hK9).mono ?_
        rintro e w10 ⟨rfl, k10⟩
        have hK10 := hK9.trans k10
        go_wp2_with fail
        go_ret
        exact ⟨ret_bool (by simp), hK10⟩
      · go_wp2_with fail
        refine (H1o.out _ hK2 _ (Or.inr hr)).mono ?_
        rintro e w3 ⟨rfl, k3⟩
        have hK3 := hK2.trans k3
        go_wp2_with fail
        refine (H2o.out _ hK3 _ (Or.inr hr)).mono ?_
        rintro e w4 ⟨rfl, k4⟩
        have hK4 := hK3.trans k4
        go_wp2_with fail
        refine (H5.out _ hK4).mono ?_
        rintro e w5 ⟨rfl, k5⟩
        have hK5 := hK4.trans k5
        go_wp2_with fail
        refine (H6.out _ hK5).mono ?_
        rintro e w6 ⟨rfl, k6⟩
        have hK6 := hK5.trans k6
        go_wp2_with fail
        refine (H7.out _ hK6).mono ?_
        rintro e w7 ⟨rfl, k7⟩
        have hK7 := hK6.trans k7
        go_wp2_with fail
        refine (H8.out _ hK7).mono ?_
        rintro e w8 ⟨rfl, k8⟩
        have hK8 := hK7.trans k8
        go_wp2_with fail
        refine (H9.out _ hK8).mono ?_
        rintro e w9 ⟨rfl, k9⟩
        have hK9 := hK8.trans k9
        go_wp2_with fail
        refine (H0.out _ hK9).mono ?_
        rintro e w10 ⟨rfl, k10⟩
        have hK10 := hK9.trans k10
        go_wp2_with fail
        go_ret
        exact ⟨ret_bool (by simp), hK10⟩
      · go_wp2_with fail
        refine (H5.out _ hK2).mono ?_
        rintro e w5 ⟨rfl, k5⟩
        have hK5 := hK2.trans k5
        go_wp2_with fail
        refine (H6.out _ hK5).mono ?_
        rintro e w6 ⟨rfl, k6⟩
        have hK6 := hK5.trans k6
        go_wp2_with fail
        refine (H7.out _ hK6).mono ?_
        rintro e w7 ⟨rfl, k7⟩
        have hK7 := hK6.trans k7
        go_wp2_with fail
        refine (H8.out _ hK7).mono ?_
        rintro e w8 ⟨rfl, k8⟩
        have hK8 := hK7.trans k8
        go_wp2_with fail
        refine (H9.out _ hK8).mono ?_
        rintro e w9 ⟨rfl, k9⟩
        have hK9 := hK8.trans k9
        go_wp2_with fail
        refine (H0.out _ hK9).mono ?_
        rintro e w10 ⟨rfl, k10⟩
        have hK10 := hK9.trans k10
        go_wp2_with fail
        go_ret
        exact ⟨ret_bool (by simp), hK10⟩
end Go.Proofs.Ytbcoghfpomnkkaa
