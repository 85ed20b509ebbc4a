/- The contracts of the reference's account: Open, where it opens. -/
import Derived.Test.YtbcoghfpomnkkaaRChart6
namespace Go.Proofs.Ytbcoghfpomnkkaa
open Go.RowKit
set_option linter.unusedVariables false

theorem rtop_next (l : List (Int × Int)) (h0 : ∀ k, 0 ≤ epo l k) (hl : 0 < l.length) : ((nwst l l.length).2 = 0 → ((l.length : Int) - 1 + 1) % (l.length : Int) = (nth l 1 : Nat)) ∧ ((nwst l l.length).2 ≠ 0 → (((rtop l l.length : Nat) : Int) + 1) % (l.length : Int) = (nth l 1 : Nat)) := by
  have h1 := nth_cast l hl 1
  rcases nwst_is l l.length with ⟨h2, h3⟩ | ⟨m, hm, h2, h3, h4⟩
  · refine ⟨fun _ => ?_, fun hx => absurd h3 hx⟩
    rw [h1, h2]
    rw [show (l.length : Int) - 1 + 1 = l.length by omega, show (-1 + ((1 : Nat) : Int)) = 0 by rfl, Int.emod_self, Int.zero_emod]
  · refine ⟨fun hx => by omega, fun _ => ?_⟩
    rw [h1, h2]
    unfold rtop
    rw [h2]
    rfl

set_option maxRecDepth 20000 in
set_option maxHeartbeats 3200000 in
theorem ropen_yes (W0 : World) (g b u : Nat) (p s : Int) (l : List (Int × Int)) (o : Int) (h : RcAt W0 g b u p s l o) (ok : ChOk p s l o) (hf : 0 < frees l l.length) (ht : (nwst l l.length).2 < 2147483647)
    (j : Nat) (hj : 1 ≤ j) (hj2 : j ≤ l.length) (hn : ∀ i, 1 ≤ i → i < j → epo l (nth l i) ≠ 0) (hz : epo l (nth l j) = 0) :
    Calls Try.prog 40 #[.pointer (some ⟨g, 0, none⟩)] W0 fun e w' => e = .returned (.tuple #[.int .i64 (nth l j : Nat), .int .u32 ((nwst l l.length).2 + 1), .bool true]) ∧ RcAt w' g b u p s (l.set (nth l j) ((nwst l l.length).2 + 1, 0)) (nth l j : Nat) ∧ Mv [g, b, u] W0 w' := by
  have hlen := ok.len
  have h00 := ok.ep0
  have HST := Lib.hid (rtop_step l h00)
  have HEP := Lib.hid (rtop_ep l h00 l.length (by omega))
  have HLT := Lib.hid (fun k (hk : k ≤ l.length) => rtop_lt l k l.length hk (by omega))
  have HF := Lib.hid (fun W (k : Kp W0 W) => rfree_any W g b u p s l o (h.keep k) (by omega))
  have HTN := Lib.hid (rtop_next l h00 (by omega))
  have HNS := Lib.hid (fun i => nth_step l (by omega) i)
  have HNL := Lib.hid (fun i => nth_lt l (by omega) i)
  have HIX := Lib.hid (fun i => idx_nth l i)
  have HN := Lib.hid hn
  have HZ := Lib.hid hz
  have n1 := h.ge
  have n2 := h.gu
  have n3 := h.eu
  have n4 := Ne.symm h.ge
  have n5 := Ne.symm h.gu
  have n6 := Ne.symm h.eu
  clear hz hn
  obtain ⟨c0, c1, c2, c3, c4, c5⟩ := h.c6
  go_enter Try.func40, Try.ntmps40
  go_wp2_with fail
  go_loopw [5, 6] (fun a i wr => ∃ k : Nat, k ≤ l.length ∧ i = .int .i64 k ∧ a = .int .i64 (rtop l k : Nat) ∧ Kp W0 wr) (fun _ i _ => l.length - (intOf i).toNat)
  case atStart => exact ⟨0, by omega, rfl, rfl, Kp.refl W0⟩
  case round =>
    obtain ⟨k, hk, rfl, rfl, hKr⟩ := hrel
    clear c0 c1 c2 c3 c4 c5
    have hr := h.keep hKr
    obtain ⟨c0, c1, c2, c3, c4, c5⟩ := hr.c6
    have htl := HLT.out k hk
    have htl2 : ((rtop l k : Nat) : Int) < (l.length : Int) := by omega
    by_cases hlt : k < l.length
    · have hlt2 : (k : Int) < (l.length : Int) := by omega
      have HC := Lib.hid (fun W (k9 : Kp wr W) => (hr.keep k9).c6)
      have HE := Lib.hid (fun W (k9 : Kp wr W) => (hr.keep k9).c2 k hlt)
      have HE2 := Lib.hid (fun W (k9 : Kp wr W) => (hr.keep k9).c2 (rtop l k) htl)
      have hs := HST.out k
      by_cases hc : epo l (rtop l k) < epo l k
      · rw [if_pos hc] at hs
        have HS := Lib.hid hs
        have hcd : decide (epo l (rtop l k) < epo l k) = true := by simpa using hc
        clear hs
        generalize rtop l k = t at *
        go_wp2_with fail
        have hInh := fun (x v : Value) => (⟨fun h => h _ ((Kp.refl wr).drew), fun h _ _ => h⟩ : (∀ W, (fun W => Kp wr W) W → x = v) ↔ x = v)
        dsimp only at hInh
        refine wp_region_quietC (C := fun W => Kp wr W) (by kernel_rfl) (by kernel_rfl) ((Kp.refl wr).drew) ?_
        repeat (first | go_big_quiet_step ((intro hW; first | fail | (with_reducible rfl) | (obtain ⟨c0, c1, c2, c3, c4, c5⟩ := HC.out _ hW; obtain ⟨e0, e1⟩ := HE.out _ hW; obtain ⟨e2, e3⟩ := HE2.out _ hW; (try go_simp); first | done | with_reducible rfl | exact ⟨rfl, rfl⟩))) | quiet_step ((intro hW; first | fail | (with_reducible rfl) | (obtain ⟨c0, c1, c2, c3, c4, c5⟩ := HC.out _ hW; obtain ⟨e0, e1⟩ := HE.out _ hW; obtain ⟨e2, e3⟩ := HE2.out _ hW; (try go_simp); first | done | with_reducible rfl | exact ⟨rfl, rfl⟩))))
        refine wpQuiet_nil ?_
        intro wq hwq
        clear hInh
        go_wp2_with fail
        go_roundw
        case rel => exact ⟨k + 1, by omega, by go_num, by rw [HS.out], hKr.trans hwq⟩
        case measure => simp [intOf]; omega
      · rw [if_neg hc] at hs
        have HS := Lib.hid hs
        have hcd : decide (epo l (rtop l k) < epo l k) = false := by simpa using hc
        clear hs
        generalize rtop l k = t at *
        go_wp2_with fail
        have hInh := fun (x v : Value) => (⟨fun h => h _ ((Kp.refl wr).drew), fun h _ _ => h⟩ : (∀ W, (fun W => Kp wr W) W → x = v) ↔ x = v)
        dsimp only at hInh
        refine wp_region_quietC (C := fun W => Kp wr W) (by kernel_rfl) (by kernel_rfl) ((Kp.refl wr).drew) ?_
        repeat (first | go_big_quiet_step ((intro hW; first | fail | (with_reducible rfl) | (obtain ⟨c0, c1, c2, c3, c4, c5⟩ := HC.out _ hW; obtain ⟨e0, e1⟩ := HE.out _ hW; obtain ⟨e2, e3⟩ := HE2.out _ hW; (try go_simp); first | done | with_reducible rfl | exact ⟨rfl, rfl⟩))) | quiet_step ((intro hW; first | fail | (with_reducible rfl) | (obtain ⟨c0, c1, c2, c3, c4, c5⟩ := HC.out _ hW; obtain ⟨e0, e1⟩ := HE.out _ hW; obtain ⟨e2, e3⟩ := HE2.out _ hW; (try go_simp); first | done | with_reducible rfl | exact ⟨rfl, rfl⟩))))
        refine wpQuiet_nil ?_
        intro wq hwq
        clear hInh
        go_wp2_with fail
        go_roundw
        case rel => exact ⟨k + 1, by omega, by go_num, by rw [HS.out], hKr.trans hwq⟩
        case measure => simp [intOf]; omega
    · obtain rfl : k = l.length := by omega
      obtain ⟨e0, e1⟩ := hr.c2 (rtop l l.length) htl
      have hep := HEP.out
      have htn := HTN.out
      have h0 := h00 (rtop l l.length)
      rw [hep] at e0 h0
      clear hep h00
      have HZ2 := Lib.hid (rfl : (nwst l l.length).2 = (nwst l l.length).2)
      have hz1 : 0 ≤ (nwst l l.length).2 ∧ (nwst l l.length).2 < 2147483647 := ⟨h0, ht⟩
      have hw1 : IntKind.u32.wrap ((nwst l l.length).2 + 1) = (nwst l l.length).2 + 1 := by simp [IntKind.wrap, IntKind.bits, IntKind.signed]; omega
      have hb : ((frees l l.length : Int) == 0) = false := by simp; omega
      have hl0 : ((l.length : Int) == 0) = false := beq_eq_false_iff_ne.2 (by omega)
      generalize hzz : (nwst l l.length).2 = z at *
      generalize hff : frees l l.length = f at *
      generalize htt : rtop l l.length = t at *
      have HZZ := Lib.hid hzz
      clear hzz hff htt HZ2
      by_cases hz0 : z = 0
      all_goals
        first
          | (have hq := htn.1 hz0; have hzb : (z == 0) = true := by simp [hz0])
          | (have hq := htn.2 hz0; have hzb : (z == 0) = false := by simp [hz0])
        have HQ := Lib.hid hq
        clear hq htn hz0
        go_wp2_with fail
        refine (HF.out _ hKr).mono ?_
        rintro e w2 ⟨rfl, hk2⟩
        have hr2 := hr.keep hk2
        clear c0 c1 c2 c3 c4 c5 e0 e1
        obtain ⟨c0, c1, c2, c3, c4, c5⟩ := hr2.c6
        obtain ⟨e0, e1⟩ := hr2.c2 t htl
        rw [HEP.out] at e0
        go_wp2_with fail
        go_loop [8] (fun a => ∃ k : Nat, 1 ≤ k ∧ k ≤ j ∧ a = .int .i64 (nth l k : Nat)) (fun a => j - idx (nwst l l.length).1 l.length (intOf a))
        case atStart =>
          refine ⟨1, by omega, by omega, ?_⟩
          rw [← HQ.out]
          try rw [show (l.length : Int) - 1 + 1 = l.length by omega, Int.emod_self]
        case round =>
          obtain ⟨k, hk1, hk2', rfl⟩ := hrel
          have hnl := HNL.out k
          have hnl2 : ((nth l k : Nat) : Int) < (l.length : Int) := by omega
          have hns := HNS.out k
          have hix := HIX.out k hk1 (by omega)
          obtain ⟨d0, d1⟩ := hr2.c2 (nth l k) hnl
          by_cases hkj : k < j
          · have hne := HN.out k hk1 hkj
            have hix2 := HIX.out (k + 1) (by omega) (by omega)
            have hnb : (epo l (nth l k) != 0) = true := by simpa using hne
            have HX := Lib.hid hix
            have HX2 := Lib.hid hix2
            have HNSk := Lib.hid hns
            clear hne hix hix2 hns
            go_wp2_with fail
            case roundEnd =>
              refine ⟨⟨k + 1, by omega, by omega, by rw [HNSk.out]⟩, ?_⟩
              rw [HNSk.out]
              show j - idx (nwst l l.length).1 l.length (nth l (k + 1) : Nat) < j - idx (nwst l l.length).1 l.length (nth l k : Nat)
              rw [HX.out, HX2.out]
              omega
          · obtain rfl : k = j := by omega
            rw [HZ.out] at d0
            obtain ⟨f0, f1⟩ := hr2.fr (nth l k)
            have f5 := hr2.box.free 5
            have hK2 := hKr.trans hk2
            clear hns hix
            go_wp2_with fail
            go_ret3
            rw [HZZ.out]
            exact ⟨rfl, (hr2.put (nth l k) (z + 1) 0).opn (nth l k : Nat), (((Mv.of hK2).set (by simp) _).set (by simp) _).set (by simp) _⟩
end Go.Proofs.Ytbcoghfpomnkkaa
