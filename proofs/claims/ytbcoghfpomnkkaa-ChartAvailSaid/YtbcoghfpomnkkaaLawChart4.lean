/- The walk of ChartPages. -/
import Derived.Test.YtbcoghfpomnkkaaLawChart3
namespace Go.Proofs.Ytbcoghfpomnkkaa
open Go.RowKit
set_option linter.unusedVariables false

set_option maxRecDepth 20000 in
set_option maxHeartbeats 6400000 in
theorem pages_walk3 (w : World) (p s r : Int) (bp : -9223372036854775808 ≤ p ∧ p ≤ 9223372036854775807) (bs : -9223372036854775808 ≤ s ∧ s ≤ 9223372036854775807) (br : -9223372036854775808 ≤ r ∧ r ≤ 9223372036854775807)
    (P : Int) (n : Nat) (hP : 32 + p % 33 = P) (hS : 3 + s % 4 = 3) (hn : 4 + r % 4 = (n : Int)) (hR : RightG P 3 n) (hn7 : n ≤ 7) :
    Calls Try.prog 6 #[geo p s r] w fun e w' => e = .returned (.bool true) ∧ Kp w w' := by
  have HGE := Lib.hid (fun w => bgeom_any p s r bp bs br w)
  rw [hP, hS, hn] at HGE
  clear hP hS hn
  obtain ⟨r1, r2, r3, r4, r5, r6⟩ := id hR
  go_enter Try.func6, Try.ntmps6
  go_wp2_with fail
  refine (HGE.out _).mono ?_
  rintro e w1 ⟨rfl, hk1⟩
  have hB := (Bk.new w 23 [.int .i64 p, .int .i64 s, .int .i64 r]).keep hk1
  have hK := (Kp.one w (.cells [.int .i64 p, .int .i64 s, .int .i64 r].toArray 23)).trans hk1
  clear hk1
  obtain ⟨c0, c1, c2⟩ := hB.c3g
  have f0 := hB.free 0
  have f1 := hB.free 1
  have f2 := hB.free 2
  go_wp2_with fail
  obtain ⟨hB2, hK2⟩ := put3 hB hK (Nat.le_refl _) (.int .i64 P) (.int .i64 3) (.int .i64 n)
  refine (cnew_yes P 3 n hR _).mono ?_
  rintro e w2 ⟨g, q, rfl, hg, hq, h0, hk2⟩
  have hB3 := hB2.keep hk2
  have hK3 := hK2.trans hk2
  have hgw : w.heap.size < g ∧ w.heap.size < q := by have := hB2.lt; omega
  obtain ⟨hg1, hq1⟩ := hgw
  clear hB hK c0 c1 c2 f0 f1 f2 hB2 hK2 hk2 hg hq
  go_wp2_with fail
  refine (alive_any _).mono ?_
  rintro e w3 ⟨rfl, hk3⟩
  have hB4 := hB3.keep hk3
  have hK4 := hK3.trans hk3
  have h4 := h0.keep hk3
  clear hB3 hK3 hk3 h0
  have hS9 := Lib.hid (fun b (hb : b ∈ [g, q]) => (by rcases mem2 hb with rfl | rfl <;> omega : w.heap.size ≤ b))
  have hG9 := Lib.hid (fun hb => (by rcases mem2 hb with h | h <;> omega) : w.heap.size ∉ [g, q])
  rw [pg_zero n 3] at h4
  go_wp2_with fail
  go_loopw [4, 5, 6, 7] (fun cn cl cm ck wr => ∃ (j : Nat) (u N L K : Int) (m : Bool), j ≤ n ∧ 0 ≤ u ∧ u ≤ (3 : Int) - 1 ∧ (j = 0 → u = 0) ∧ (j = 0 → N = 0) ∧ (0 < j → N = ((j : Int) - 1) * ((3 : Int) - 1) + u) ∧ -1 ≤ L ∧ (j = 0 → L = -1) ∧ (0 < j → L ≤ ((j : Int) - 1) * (3 : Int) + u) ∧ (m = true → K = N + j) ∧ (m = false → j = n ∧ u = (3 : Int) - 1 ∧ K = N + j + 1) ∧
      cn = .int .i64 N ∧ cl = .int .i64 L ∧ cm = .bool m ∧ ck = .int .i64 K ∧ ChAt wr g q P (3 : Int) (pg n (3 : Int) j u) ((j : Int) - 1) ∧ Bk wr w.heap.size 23 [.int .i64 P, .int .i64 (3 : Int), .int .i64 n] ∧ Kp w wr) (fun _ _ _ k _ => 100 - (intOf k).toNat)
  case atStart => exact ⟨0, 0, 0, -1, 0, true, by omega, by omega, by omega, fun _ => rfl, fun _ => rfl, fun h => by omega, by omega, fun _ => rfl, fun h => by omega, fun _ => by omega, (fun h => by cases h), rfl, rfl, rfl, rfl, h4, hB4, hK4⟩
  case round =>
    obtain ⟨j, u, N, L, K, m, hj, hu0, hu1, hju, hN0, hN1, hL0, hL1, hL2, hK1, hK2, rfl, rfl, rfl, rfl, hC, hB, hK⟩ := hrel
    clear h4 hB4 hK4
    rcases m with _ | _
    · obtain ⟨hjn, hun, hKn⟩ := hK2 rfl
      subst hjn
      clear hK1 hK2 hL1 hL2 hN0 hju
      have hNe := hN1 (by omega)
      have hN2 : N = (j : Int) * 2 := by omega
      subst hN2
      subst hun
      subst hKn
      clear hNe hN1
      have ok := pg_ok P 3 j j ((3 : Int) - 1) hR (Nat.le_refl _) hu0 hu1
      have hlen := pg_len j 3 j ((3 : Int) - 1)
      have HO := Lib.hid (coldest_any wr g q P 3 _ _ hC ok)
      rw [hlen, pg_old j 3 _ _ rfl (by omega) j (by omega)] at HO
      have hfr0 : frees (pg j 3 j ((3 : Int) - 1)) j = 0 := by rw [pg_frees j 3 j _ (Nat.le_refl _)]; omega
      have hav0 : availF 3 (pg j 3 j ((3 : Int) - 1)) ((j : Int) - 1) = 0 := by
        unfold availF; rw [pg_left j 3 j _ (Nat.le_refl _), hlen, hfr0, if_neg (by omega)]; simp
      have hep0 : epo (pg j 3 j ((3 : Int) - 1)) 0 = 1 := by rw [pg_ep j 3 j _ (Nat.le_refl _), if_pos (by omega)]; rfl
      have hepl : epo (pg j 3 j ((3 : Int) - 1)) (j - 1) ≠ 0 := by rw [pg_ep j 3 j _ (Nat.le_refl _), if_pos (by omega)]; omega
      have hcst : ((j - 1 : Nat) : Int) = (j : Int) - 1 := by omega
      have hfr1 : frees ((pg j 3 j ((3 : Int) - 1)).set 0 (0, 0)) j = 1 := by
        have := frees_set (pg j 3 j ((3 : Int) - 1)) 0 (0, 0) (by rw [hlen]; omega) j (by omega)
        rw [hfr0, hep0, if_neg (by omega), if_pos rfl] at this
        omega
      have hep1 : ∀ k, 0 ≤ epo ((pg j 3 j ((3 : Int) - 1)).set 0 (0, 0)) k := by
        intro k
        rw [epo_set _ _ _ _ (by rw [hlen]; omega)]
        split
        · simp
        · exact ok.ep0 k
      have HRS := Lib.hid (fun W => (rslots_any P 3 j hR W).mono (fun e w' hx => (⟨hx.1, hx.2 ▸ Kp.one _ _⟩ : e = .returned (.int .i64 (3 - 1)) ∧ Kp W w')))
      have hwn : IntKind.i64.wrap ((j : Int) - 1) = (j : Int) - 1 := IntWalk.i64_in _ (by omega)
      have hwm : IntKind.i64.wrap ((j : Int) * 2) = (j : Int) * 2 := IntWalk.i64_in _ (by omega)
      generalize pg j 3 j ((3 : Int) - 1) = l at *
      have hKd : decide ((j : Int) * 2 + (j : Int) + 1 < 300) = true := by simp; omega
      have HL := Lib.hid hlen
      have HEP := Lib.hid hep0
      have HEPL := Lib.hid hepl
      have HFR1 := Lib.hid hfr1
      have HFR0 := Lib.hid hfr0
      have HAV0 := Lib.hid hav0
      clear hlen hep0 hepl hfr1 hfr0 hav0
      have HCST := Lib.hid hcst
      clear hcst
      go_wp2_with fail
      refine (HO.out).mono ?_
      rintro e w5 ⟨rfl, hk5⟩
      have hC5 := hC.keep hk5
      have hB5 := hB.keep hk5
      have hK5 := hK.trans hk5
      clear hC hB hK hk5
      have HC := Lib.hid (fun W (kk : Kp w5 W) => (hB5.keep kk).c3g)
      have HF := Lib.hid (fun W (kk : Kp w5 W) => cfree_any W g q P 3 l _ (hC5.keep kk) (by rw [HL.out]; omega) ok.ep0)
      rw [HL.out, HFR0.out] at HF
      have HA := Lib.hid (fun W (kk : Kp w5 W) => cavail_any W g q P 3 l _ (hC5.keep kk) ok)
      rw [HAV0.out] at HA
      have HE := Lib.hid (fun W (kk : Kp w5 W) => cerase_state W g q P 3 l _ (hC5.keep kk) (by rw [HL.out]; omega) (j - 1) (by rw [HL.out]; omega) (Or.inr ⟨HEPL.out, HCST.out.symm⟩))
      rw [HCST.out] at HE
      have HE0 := Lib.hid (fun W (kk : Kp w5 W) => cerase_ok W g q P 3 l _ (hC5.keep kk) (by rw [HL.out]; omega) 0 (by rw [HL.out]; omega) (by rw [HEP.out]; omega) (by omega))
      have HF1 := Lib.hid (fun W (hx : ChAt W g q P 3 (l.set 0 (0, 0)) ((j : Int) - 1)) => cfree_any W g q P 3 _ _ hx (by rw [List.length_set, HL.out]; omega) hep1)
      rw [List.length_set, HL.out, HFR1.out] at HF1
      go_wp2_with fail
      have hInh := fun (x v : Value) => (⟨fun h => h _ ((Kp.refl w5).drew), fun h _ _ => h⟩ : (∀ W, (fun W => Kp w5 W) W → x = v) ↔ x = v)
      dsimp only at hInh
      refine wp_region_head 33 (C := fun W => Kp w5 W) (by kernel_rfl) (by kernel_rfl) ((Kp.refl w5).drew) ?_
      simp only [List.take_succ_cons, List.take_zero, List.drop_succ_cons, List.drop_zero]
      repeat (first | go_big_quiet_step ((intro hW; first | (first | (go_at_call 18; refine (HRS.out _).mono ?_; rintro e w' ⟨rfl, hk9⟩; exact ⟨rfl, hW.trans hk9⟩) | (go_at_call 16; refine (HF.out _ hW).mono ?_; rintro e w' ⟨rfl, hk9⟩; exact ⟨rfl, hW.trans hk9⟩) | (go_at_call 21; refine (HA.out _ hW).mono ?_; rintro e w' ⟨rfl, hk9⟩; exact ⟨rfl, hW.trans hk9⟩) | (go_at_call 15; refine (HE.out _ hW).mono ?_; rintro e w' ⟨rfl, hk9⟩; exact ⟨rfl, hW.trans hk9⟩)) | (with_reducible rfl) | (obtain ⟨c0, c1, c2⟩ := HC.out _ hW; (try go_simp); first | done | with_reducible rfl | exact ⟨rfl, rfl⟩))) | quiet_step ((intro hW; first | (first | (go_at_call 18; refine (HRS.out _).mono ?_; rintro e w' ⟨rfl, hk9⟩; exact ⟨rfl, hW.trans hk9⟩) | (go_at_call 16; refine (HF.out _ hW).mono ?_; rintro e w' ⟨rfl, hk9⟩; exact ⟨rfl, hW.trans hk9⟩) | (go_at_call 21; refine (HA.out _ hW).mono ?_; rintro e w' ⟨rfl, hk9⟩; exact ⟨rfl, hW.trans hk9⟩) | (go_at_call 15; refine (HE.out _ hW).mono ?_; rintro e w' ⟨rfl, hk9⟩; exact ⟨rfl, hW.trans hk9⟩)) | (with_reducible rfl) | (obtain ⟨c0, c1, c2⟩ := HC.out _ hW; (try go_simp); first | done | with_reducible rfl | exact ⟨rfl, rfl⟩))))
      refine wpQuiet_nil ?_
      intro wq hwq
      clear hInh
      go_wp2_with fail
      refine (HE0.out _ hwq).mono ?_
      rintro e w6 ⟨rfl, hC6, m6⟩
      have hK6 := Mv.kp (hK5.trans hwq) hS9.out m6
      go_wp2_with fail
      refine (HF1.out _ hC6).mono ?_
      rintro e w7 ⟨rfl, hk7⟩
      go_wp2_with fail
      go_ret
      exact ⟨rfl, hK6.trans hk7⟩
    · have hKK := hK1 rfl
      clear hK1 hK2
      have hK3 : 0 ≤ K ∧ K ≤ 60 ∧ 0 ≤ N ∧ N ≤ 60 := by rcases Nat.eq_zero_or_pos j with h | h; (have := hN0 h; omega); (have := hN1 h; omega)
      obtain ⟨hK30, hK31, hN30, hN31⟩ := hK3
      have hKd : decide (K < 300) = true := by simp; omega
      by_cases hA : 1 ≤ j ∧ u < (3 : Int) - 1
      · obtain ⟨hj1, hu2⟩ := hA
        have HT := Lib.hid (pg_take wr g q P (3 : Int) n j u hR hC hj1 hj hu0 hu2)
        obtain ⟨pv, hpv⟩ : ∃ pv : Int, pv = ((j - 1 : Nat) : Int) * (3 : Int) + (u + 1) := ⟨_, rfl⟩
        rw [← hpv] at HT
        have hLe := hL2 (by omega)
        have hNe := hN1 (by omega)
        have hd1 : decide (pv ≤ L) = false := by simp; omega
        have hd1' : ¬ (pv ≤ L) := by omega
        have hd2 : (pv % (3 : Int) == 0) = false := by simp; omega
        have hd3 : decide ((3 : Int) * (n : Int) ≤ pv) = false := by simp; omega
        have hp0 : 0 ≤ pv ∧ pv ≤ 100 := by omega
        obtain ⟨hp0, hp1⟩ := hp0
        have HPV := Lib.hid hpv
        have HKK := Lib.hid hKK
        have HNE := Lib.hid hNe
        clear hpv hKK hNe hN0 hN1 hL1 hL2 hju
        go_wp2_with fail
        refine (HT.out).mono ?_
        rintro e w5 ⟨rfl, hC5, m5⟩
        have hB5 := hB.mv m5 hG9.out
        have hK5 := Mv.kp hK hS9.out m5
        clear hC hB hK m5
        obtain ⟨c0, c1, c2⟩ := hB5.c3g
        go_wp2_with fail
        go_roundw
        case rel => exact ⟨j, u + 1, N + 1, pv, K + 1, true, hj, by omega, by omega, fun h => by omega, fun h => by omega, fun h => by have := HNE.out; omega, by omega, fun h => by omega, fun h => by have := HPV.out; omega, fun _ => by have := HKK.out; omega, fun h => (by cases h), rfl, rfl, rfl, rfl, hC5, hB5, hK5⟩
        case measure => simp [intOf]; omega
      · have hz : j = 0 ∨ u = (3 : Int) - 1 := by omega
        have HT := Lib.hid (pg_takeno wr g q P (3 : Int) n j u hR hC hj hu0 hu1 hz)
        by_cases hjn : j < n
        · have HO := Lib.hid (fun W (kk : Kp wr W) => pg_open W g q P (3 : Int) n j u hR (hC.keep kk) hjn hu0 hu1 hz)
          have hNf : N = (j : Int) * ((3 : Int) - 1) := by rcases Nat.eq_zero_or_pos j with h | h; (have := hN0 h; omega); (have := hN1 h; omega)
          have hLf : L ≤ (j : Int) * (3 : Int) := by rcases Nat.eq_zero_or_pos j with h | h; (have := hL1 h; omega); (have := hL2 h; omega)
          have HKK := Lib.hid hKK
          have HNF := Lib.hid hNf
          clear hKK hNf hN0 hN1 hL1 hL2 hju
          go_wp2_with fail
          refine (HT.out).mono ?_
          rintro e w5 ⟨rfl, hk5⟩
          go_wp2_with fail
          refine (HO.out _ hk5).mono ?_
          rintro e w6 ⟨rfl, hC6, m6⟩
          have hB6 := (hB.keep hk5).mv m6 hG9.out
          have hK6 := Mv.kp (hK.trans hk5) hS9.out m6
          go_wp2_with fail
          go_roundw
          case rel => exact ⟨j + 1, 0, N, L, K + 1, true, by omega, by omega, by omega, fun h => by omega, fun h => by omega, fun h => by have := HNF.out; omega, hL0, fun h => by omega, fun h => by omega, fun _ => by have := HKK.out; omega, fun h => (by cases h), rfl, rfl, rfl, rfl, hC6, hB6, hK6⟩
          case measure => simp [intOf]; omega
        · obtain rfl : j = n := by omega
          have hu9 : u = (3 : Int) - 1 := by omega
          have HO := Lib.hid (fun W (kk : Kp wr W) => pg_openno W g q P (3 : Int) j u hR (hC.keep kk) hu0 hu1)
          have HKK := Lib.hid hKK
          have HU := Lib.hid hu9
          have HN1 := Lib.hid hN1
          have HL2 := Lib.hid hL2
          clear hKK hu9 hN0 hN1 hL1 hL2 hju
          go_wp2_with fail
          refine (HT.out).mono ?_
          rintro e w5 ⟨rfl, hk5⟩
          go_wp2_with fail
          refine (HO.out _ hk5).mono ?_
          rintro e w6 ⟨rfl, hk6⟩
          have hkk := hk5.trans hk6
          go_wp2_with fail
          go_roundw
          case rel => exact ⟨j, u, N, L, K + 1, false, by omega, by omega, by omega, fun h => by omega, fun h => by omega, HN1.out, hL0, fun h => by omega, HL2.out, fun h => (by cases h), fun _ => ⟨rfl, HU.out, by have := HKK.out; omega⟩, rfl, rfl, rfl, rfl, hC.keep hkk, hB.keep hkk, hK.trans hkk⟩
          case measure => simp [intOf]; omega
set_option maxRecDepth 20000 in
set_option maxHeartbeats 6400000 in
theorem pages_walk4 (w : World) (p s r : Int) (bp : -9223372036854775808 ≤ p ∧ p ≤ 9223372036854775807) (bs : -9223372036854775808 ≤ s ∧ s ≤ 9223372036854775807) (br : -9223372036854775808 ≤ r ∧ r ≤ 9223372036854775807)
    (P : Int) (n : Nat) (hP : 32 + p % 33 = P) (hS : 3 + s % 4 = 4) (hn : 4 + r % 4 = (n : Int)) (hR : RightG P 4 n) (hn7 : n ≤ 7) :
    Calls Try.prog 6 #[geo p s r] w fun e w' => e = .returned (.bool true) ∧ Kp w w' := by
  have HGE := Lib.hid (fun w => bgeom_any p s r bp bs br w)
  rw [hP, hS, hn] at HGE
  clear hP hS hn
  obtain ⟨r1, r2, r3, r4, r5, r6⟩ := id hR
  go_enter Try.func6, Try.ntmps6
  go_wp2_with fail
  refine (HGE.out _).mono ?_
  rintro e w1 ⟨rfl, hk1⟩
  have hB := (Bk.new w 23 [.int .i64 p, .int .i64 s, .int .i64 r]).keep hk1
  have hK := (Kp.one w (.cells [.int .i64 p, .int .i64 s, .int .i64 r].toArray 23)).trans hk1
  clear hk1
  obtain ⟨c0, c1, c2⟩ := hB.c3g
  have f0 := hB.free 0
  have f1 := hB.free 1
  have f2 := hB.free 2
  go_wp2_with fail
  obtain ⟨hB2, hK2⟩ := put3 hB hK (Nat.le_refl _) (.int .i64 P) (.int .i64 4) (.int .i64 n)
  refine (cnew_yes P 4 n hR _).mono ?_
  rintro e w2 ⟨g, q, rfl, hg, hq, h0, hk2⟩
  have hB3 := hB2.keep hk2
  have hK3 := hK2.trans hk2
  have hgw : w.heap.size < g ∧ w.heap.size < q := by have := hB2.lt; omega
  obtain ⟨hg1, hq1⟩ := hgw
  clear hB hK c0 c1 c2 f0 f1 f2 hB2 hK2 hk2 hg hq
  go_wp2_with fail
  refine (alive_any _).mono ?_
  rintro e w3 ⟨rfl, hk3⟩
  have hB4 := hB3.keep hk3
  have hK4 := hK3.trans hk3
  have h4 := h0.keep hk3
  clear hB3 hK3 hk3 h0
  have hS9 := Lib.hid (fun b (hb : b ∈ [g, q]) => (by rcases mem2 hb with rfl | rfl <;> omega : w.heap.size ≤ b))
  have hG9 := Lib.hid (fun hb => (by rcases mem2 hb with h | h <;> omega) : w.heap.size ∉ [g, q])
  rw [pg_zero n 4] at h4
  go_wp2_with fail
  go_loopw [4, 5, 6, 7] (fun cn cl cm ck wr => ∃ (j : Nat) (u N L K : Int) (m : Bool), j ≤ n ∧ 0 ≤ u ∧ u ≤ (4 : Int) - 1 ∧ (j = 0 → u = 0) ∧ (j = 0 → N = 0) ∧ (0 < j → N = ((j : Int) - 1) * ((4 : Int) - 1) + u) ∧ -1 ≤ L ∧ (j = 0 → L = -1) ∧ (0 < j → L ≤ ((j : Int) - 1) * (4 : Int) + u) ∧ (m = true → K = N + j) ∧ (m = false → j = n ∧ u = (4 : Int) - 1 ∧ K = N + j + 1) ∧
      cn = .int .i64 N ∧ cl = .int .i64 L ∧ cm = .bool m ∧ ck = .int .i64 K ∧ ChAt wr g q P (4 : Int) (pg n (4 : Int) j u) ((j : Int) - 1) ∧ Bk wr w.heap.size 23 [.int .i64 P, .int .i64 (4 : Int), .int .i64 n] ∧ Kp w wr) (fun _ _ _ k _ => 100 - (intOf k).toNat)
  case atStart => exact ⟨0, 0, 0, -1, 0, true, by omega, by omega, by omega, fun _ => rfl, fun _ => rfl, fun h => by omega, by omega, fun _ => rfl, fun h => by omega, fun _ => by omega, (fun h => by cases h), rfl, rfl, rfl, rfl, h4, hB4, hK4⟩
  case round =>
    obtain ⟨j, u, N, L, K, m, hj, hu0, hu1, hju, hN0, hN1, hL0, hL1, hL2, hK1, hK2, rfl, rfl, rfl, rfl, hC, hB, hK⟩ := hrel
    clear h4 hB4 hK4
    rcases m with _ | _
    · obtain ⟨hjn, hun, hKn⟩ := hK2 rfl
      subst hjn
      clear hK1 hK2 hL1 hL2 hN0 hju
      have hNe := hN1 (by omega)
      have hN2 : N = (j : Int) * 3 := by omega
      subst hN2
      subst hun
      subst hKn
      clear hNe hN1
      have ok := pg_ok P 4 j j ((4 : Int) - 1) hR (Nat.le_refl _) hu0 hu1
      have hlen := pg_len j 4 j ((4 : Int) - 1)
      have HO := Lib.hid (coldest_any wr g q P 4 _ _ hC ok)
      rw [hlen, pg_old j 4 _ _ rfl (by omega) j (by omega)] at HO
      have hfr0 : frees (pg j 4 j ((4 : Int) - 1)) j = 0 := by rw [pg_frees j 4 j _ (Nat.le_refl _)]; omega
      have hav0 : availF 4 (pg j 4 j ((4 : Int) - 1)) ((j : Int) - 1) = 0 := by
        unfold availF; rw [pg_left j 4 j _ (Nat.le_refl _), hlen, hfr0, if_neg (by omega)]; simp
      have hep0 : epo (pg j 4 j ((4 : Int) - 1)) 0 = 1 := by rw [pg_ep j 4 j _ (Nat.le_refl _), if_pos (by omega)]; rfl
      have hepl : epo (pg j 4 j ((4 : Int) - 1)) (j - 1) ≠ 0 := by rw [pg_ep j 4 j _ (Nat.le_refl _), if_pos (by omega)]; omega
      have hcst : ((j - 1 : Nat) : Int) = (j : Int) - 1 := by omega
      have hfr1 : frees ((pg j 4 j ((4 : Int) - 1)).set 0 (0, 0)) j = 1 := by
        have := frees_set (pg j 4 j ((4 : Int) - 1)) 0 (0, 0) (by rw [hlen]; omega) j (by omega)
        rw [hfr0, hep0, if_neg (by omega), if_pos rfl] at this
        omega
      have hep1 : ∀ k, 0 ≤ epo ((pg j 4 j ((4 : Int) - 1)).set 0 (0, 0)) k := by
        intro k
        rw [epo_set _ _ _ _ (by rw [hlen]; omega)]
        split
        · simp
        · exact ok.ep0 k
      have HRS := Lib.hid (fun W => (rslots_any P 4 j hR W).mono (fun e w' hx => (⟨hx.1, hx.2 ▸ Kp.one _ _⟩ : e = .returned (.int .i64 (4 - 1)) ∧ Kp W w')))
      have hwn : IntKind.i64.wrap ((j : Int) - 1) = (j : Int) - 1 := IntWalk.i64_in _ (by omega)
      have hwm : IntKind.i64.wrap ((j : Int) * 3) = (j : Int) * 3 := IntWalk.i64_in _ (by omega)
      generalize pg j 4 j ((4 : Int) - 1) = l at *
      have hKd : decide ((j : Int) * 3 + (j : Int) + 1 < 300) = true := by simp; omega
      have HL := Lib.hid hlen
      have HEP := Lib.hid hep0
      have HEPL := Lib.hid hepl
      have HFR1 := Lib.hid hfr1
      have HFR0 := Lib.hid hfr0
      have HAV0 := Lib.hid hav0
      clear hlen hep0 hepl hfr1 hfr0 hav0
      have HCST := Lib.hid hcst
      clear hcst
      go_wp2_with fail
      refine (HO.out).mono ?_
      rintro e w5 ⟨rfl, hk5⟩
      have hC5 := hC.keep hk5
      have hB5 := hB.keep hk5
      have hK5 := hK.trans hk5
      clear hC hB hK hk5
      have HC := Lib.hid (fun W (kk : Kp w5 W) => (hB5.keep kk).c3g)
      have HF := Lib.hid (fun W (kk : Kp w5 W) => cfree_any W g q P 4 l _ (hC5.keep kk) (by rw [HL.out]; omega) ok.ep0)
      rw [HL.out, HFR0.out] at HF
      have HA := Lib.hid (fun W (kk : Kp w5 W) => cavail_any W g q P 4 l _ (hC5.keep kk) ok)
      rw [HAV0.out] at HA
      have HE := Lib.hid (fun W (kk : Kp w5 W) => cerase_state W g q P 4 l _ (hC5.keep kk) (by rw [HL.out]; omega) (j - 1) (by rw [HL.out]; omega) (Or.inr ⟨HEPL.out, HCST.out.symm⟩))
      rw [HCST.out] at HE
      have HE0 := Lib.hid (fun W (kk : Kp w5 W) => cerase_ok W g q P 4 l _ (hC5.keep kk) (by rw [HL.out]; omega) 0 (by rw [HL.out]; omega) (by rw [HEP.out]; omega) (by omega))
      have HF1 := Lib.hid (fun W (hx : ChAt W g q P 4 (l.set 0 (0, 0)) ((j : Int) - 1)) => cfree_any W g q P 4 _ _ hx (by rw [List.length_set, HL.out]; omega) hep1)
      rw [List.length_set, HL.out, HFR1.out] at HF1
      go_wp2_with fail
      have hInh := fun (x v : Value) => (⟨fun h => h _ ((Kp.refl w5).drew), fun h _ _ => h⟩ : (∀ W, (fun W => Kp w5 W) W → x = v) ↔ x = v)
      dsimp only at hInh
      refine wp_region_head 33 (C := fun W => Kp w5 W) (by kernel_rfl) (by kernel_rfl) ((Kp.refl w5).drew) ?_
      simp only [List.take_succ_cons, List.take_zero, List.drop_succ_cons, List.drop_zero]
      repeat (first | go_big_quiet_step ((intro hW; first | (first | (go_at_call 18; refine (HRS.out _).mono ?_; rintro e w' ⟨rfl, hk9⟩; exact ⟨rfl, hW.trans hk9⟩) | (go_at_call 16; refine (HF.out _ hW).mono ?_; rintro e w' ⟨rfl, hk9⟩; exact ⟨rfl, hW.trans hk9⟩) | (go_at_call 21; refine (HA.out _ hW).mono ?_; rintro e w' ⟨rfl, hk9⟩; exact ⟨rfl, hW.trans hk9⟩) | (go_at_call 15; refine (HE.out _ hW).mono ?_; rintro e w' ⟨rfl, hk9⟩; exact ⟨rfl, hW.trans hk9⟩)) | (with_reducible rfl) | (obtain ⟨c0, c1, c2⟩ := HC.out _ hW; (try go_simp); first | done | with_reducible rfl | exact ⟨rfl, rfl⟩))) | quiet_step ((intro hW; first | (first | (go_at_call 18; refine (HRS.out _).mono ?_; rintro e w' ⟨rfl, hk9⟩; exact ⟨rfl, hW.trans hk9⟩) | (go_at_call 16; refine (HF.out _ hW).mono ?_; rintro e w' ⟨rfl, hk9⟩; exact ⟨rfl, hW.trans hk9⟩) | (go_at_call 21; refine (HA.out _ hW).mono ?_; rintro e w' ⟨rfl, hk9⟩; exact ⟨rfl, hW.trans hk9⟩) | (go_at_call 15; refine (HE.out _ hW).mono ?_; rintro e w' ⟨rfl, hk9⟩; exact ⟨rfl, hW.trans hk9⟩)) | (with_reducible rfl) | (obtain ⟨c0, c1, c2⟩ := HC.out _ hW; (try go_simp); first | done | with_reducible rfl | exact ⟨rfl, rfl⟩))))
      refine wpQuiet_nil ?_
      intro wq hwq
      clear hInh
      go_wp2_with fail
      refine (HE0.out _ hwq).mono ?_
      rintro e w6 ⟨rfl, hC6, m6⟩
      have hK6 := Mv.kp (hK5.trans hwq) hS9.out m6
      go_wp2_with fail
      refine (HF1.out _ hC6).mono ?_
      rintro e w7 ⟨rfl, hk7⟩
      go_wp2_with fail
      go_ret
      exact ⟨rfl, hK6.trans hk7⟩
    · have hKK := hK1 rfl
      clear hK1 hK2
      have hK3 : 0 ≤ K ∧ K ≤ 60 ∧ 0 ≤ N ∧ N ≤ 60 := by rcases Nat.eq_zero_or_pos j with h | h; (have := hN0 h; omega); (have := hN1 h; omega)
      obtain ⟨hK30, hK31, hN30, hN31⟩ := hK3
      have hKd : decide (K < 300) = true := by simp; omega
      by_cases hA : 1 ≤ j ∧ u < (4 : Int) - 1
      · obtain ⟨hj1, hu2⟩ := hA
        have HT := Lib.hid (pg_take wr g q P (4 : Int) n j u hR hC hj1 hj hu0 hu2)
        obtain ⟨pv, hpv⟩ : ∃ pv : Int, pv = ((j - 1 : Nat) : Int) * (4 : Int) + (u + 1) := ⟨_, rfl⟩
        rw [← hpv] at HT
        have hLe := hL2 (by omega)
        have hNe := hN1 (by omega)
        have hd1 : decide (pv ≤ L) = false := by simp; omega
        have hd1' : ¬ (pv ≤ L) := by omega
        have hd2 : (pv % (4 : Int) == 0) = false := by simp; omega
        have hd3 : decide ((4 : Int) * (n : Int) ≤ pv) = false := by simp; omega
        have hp0 : 0 ≤ pv ∧ pv ≤ 100 := by omega
        obtain ⟨hp0, hp1⟩ := hp0
        have HPV := Lib.hid hpv
        have HKK := Lib.hid hKK
        have HNE := Lib.hid hNe
        clear hpv hKK hNe hN0 hN1 hL1 hL2 hju
        go_wp2_with fail
        refine (HT.out).mono ?_
        rintro e w5 ⟨rfl, hC5, m5⟩
        have hB5 := hB.mv m5 hG9.out
        have hK5 := Mv.kp hK hS9.out m5
        clear hC hB hK m5
        obtain ⟨c0, c1, c2⟩ := hB5.c3g
        go_wp2_with fail
        go_roundw
        case rel => exact ⟨j, u + 1, N + 1, pv, K + 1, true, hj, by omega, by omega, fun h => by omega, fun h => by omega, fun h => by have := HNE.out; omega, by omega, fun h => by omega, fun h => by have := HPV.out; omega, fun _ => by have := HKK.out; omega, fun h => (by cases h), rfl, rfl, rfl, rfl, hC5, hB5, hK5⟩
        case measure => simp [intOf]; omega
      · have hz : j = 0 ∨ u = (4 : Int) - 1 := by omega
        have HT := Lib.hid (pg_takeno wr g q P (4 : Int) n j u hR hC hj hu0 hu1 hz)
        by_cases hjn : j < n
        · have HO := Lib.hid (fun W (kk : Kp wr W) => pg_open W g q P (4 : Int) n j u hR (hC.keep kk) hjn hu0 hu1 hz)
          have hNf : N = (j : Int) * ((4 : Int) - 1) := by rcases Nat.eq_zero_or_pos j with h | h; (have := hN0 h; omega); (have := hN1 h; omega)
          have hLf : L ≤ (j : Int) * (4 : Int) := by rcases Nat.eq_zero_or_pos j with h | h; (have := hL1 h; omega); (have := hL2 h; omega)
          have HKK := Lib.hid hKK
          have HNF := Lib.hid hNf
          clear hKK hNf hN0 hN1 hL1 hL2 hju
          go_wp2_with fail
          refine (HT.out).mono ?_
          rintro e w5 ⟨rfl, hk5⟩
          go_wp2_with fail
          refine (HO.out _ hk5).mono ?_
          rintro e w6 ⟨rfl, hC6, m6⟩
          have hB6 := (hB.keep hk5).mv m6 hG9.out
          have hK6 := Mv.kp (hK.trans hk5) hS9.out m6
          go_wp2_with fail
          go_roundw
          case rel => exact ⟨j + 1, 0, N, L, K + 1, true, by omega, by omega, by omega, fun h => by omega, fun h => by omega, fun h => by have := HNF.out; omega, hL0, fun h => by omega, fun h => by omega, fun _ => by have := HKK.out; omega, fun h => (by cases h), rfl, rfl, rfl, rfl, hC6, hB6, hK6⟩
          case measure => simp [intOf]; omega
        · obtain rfl : j = n := by omega
          have hu9 : u = (4 : Int) - 1 := by omega
          have HO := Lib.hid (fun W (kk : Kp wr W) => pg_openno W g q P (4 : Int) j u hR (hC.keep kk) hu0 hu1)
          have HKK := Lib.hid hKK
          have HU := Lib.hid hu9
          have HN1 := Lib.hid hN1
          have HL2 := Lib.hid hL2
          clear hKK hu9 hN0 hN1 hL1 hL2 hju
          go_wp2_with fail
          refine (HT.out).mono ?_
          rintro e w5 ⟨rfl, hk5⟩
          go_wp2_with fail
          refine (HO.out _ hk5).mono ?_
          rintro e w6 ⟨rfl, hk6⟩
          have hkk := hk5.trans hk6
          go_wp2_with fail
          go_roundw
          case rel => exact ⟨j, u, N, L, K + 1, false, by omega, by omega, by omega, fun h => by omega, fun h => by omega, HN1.out, hL0, fun h => by omega, HL2.out, fun h => (by cases h), fun _ => ⟨rfl, HU.out, by have := HKK.out; omega⟩, rfl, rfl, rfl, rfl, hC.keep hkk, hB.keep hkk, hK.trans hkk⟩
          case measure => simp [intOf]; omega
set_option maxRecDepth 20000 in
set_option maxHeartbeats 6400000 in
theorem pages_walk5 (w : World) (p s r : Int) (bp : -9223372036854775808 ≤ p ∧ p ≤ 9223372036854775807) (bs : -9223372036854775808 ≤ s ∧ s ≤ 9223372036854775807) (br : -9223372036854775808 ≤ r ∧ r ≤ 9223372036854775807)
    (P : Int) (n : Nat) (hP : 32 + p % 33 = P) (hS : 3 + s % 4 = 5) (hn : 4 + r % 4 = (n : Int)) (hR : RightG P 5 n) (hn7 : n ≤ 7) :
    Calls Try.prog 6 #[geo p s r] w fun e w' => e = .returned (.bool true) ∧ Kp w w' := by
  have HGE := Lib.hid (fun w => bgeom_any p s r bp bs br w)
  rw [hP, hS, hn] at HGE
  clear hP hS hn
  obtain ⟨r1, r2, r3, r4, r5, r6⟩ := id hR
  go_enter Try.func6, Try.ntmps6
  go_wp2_with fail
  refine (HGE.out _).mono ?_
  rintro e w1 ⟨rfl, hk1⟩
  have hB := (Bk.new w 23 [.int .i64 p, .int .i64 s, .int .i64 r]).keep hk1
  have hK := (Kp.one w (.cells [.int .i64 p, .int .i64 s, .int .i64 r].toArray 23)).trans hk1
  clear hk1
  obtain ⟨c0, c1, c2⟩ := hB.c3g
  have f0 := hB.free 0
  have f1 := hB.free 1
  have f2 := hB.free 2
  go_wp2_with fail
  obtain ⟨hB2, hK2⟩ := put3 hB hK (Nat.le_refl _) (.int .i64 P) (.int .i64 5) (.int .i64 n)
  refine (cnew_yes P 5 n hR _).mono ?_
  rintro e w2 ⟨g, q, rfl, hg, hq, h0, hk2⟩
  have hB3 := hB2.keep hk2
  have hK3 := hK2.trans hk2
  have hgw : w.heap.size < g ∧ w.heap.size < q := by have := hB2.lt; omega
  obtain ⟨hg1, hq1⟩ := hgw
  clear hB hK c0 c1 c2 f0 f1 f2 hB2 hK2 hk2 hg hq
  go_wp2_with fail
  refine (alive_any _).mono ?_
  rintro e w3 ⟨rfl, hk3⟩
  have hB4 := hB3.keep hk3
  have hK4 := hK3.trans hk3
  have h4 := h0.keep hk3
  clear hB3 hK3 hk3 h0
  have hS9 := Lib.hid (fun b (hb : b ∈ [g, q]) => (by rcases mem2 hb with rfl | rfl <;> omega : w.heap.size ≤ b))
  have hG9 := Lib.hid (fun hb => (by rcases mem2 hb with h | h <;> omega) : w.heap.size ∉ [g, q])
  rw [pg_zero n 5] at h4
  go_wp2_with fail
  go_loopw [4, 5, 6, 7] (fun cn cl cm ck wr => ∃ (j : Nat) (u N L K : Int) (m : Bool), j ≤ n ∧ 0 ≤ u ∧ u ≤ (5 : Int) - 1 ∧ (j = 0 → u = 0) ∧ (j = 0 → N = 0) ∧ (0 < j → N = ((j : Int) - 1) * ((5 : Int) - 1) + u) ∧ -1 ≤ L ∧ (j = 0 → L = -1) ∧ (0 < j → L ≤ ((j : Int) - 1) * (5 : Int) + u) ∧ (m = true → K = N + j) ∧ (m = false → j = n ∧ u = (5 : Int) - 1 ∧ K = N + j + 1) ∧
      cn = .int .i64 N ∧ cl = .int .i64 L ∧ cm = .bool m ∧ ck = .int .i64 K ∧ ChAt wr g q P (5 : Int) (pg n (5 : Int) j u) ((j : Int) - 1) ∧ Bk wr w.heap.size 23 [.int .i64 P, .int .i64 (5 : Int), .int .i64 n] ∧ Kp w wr) (fun _ _ _ k _ => 100 - (intOf k).toNat)
  case atStart => exact ⟨0, 0, 0, -1, 0, true, by omega, by omega, by omega, fun _ => rfl, fun _ => rfl, fun h => by omega, by omega, fun _ => rfl, fun h => by omega, fun _ => by omega, (fun h => by cases h), rfl, rfl, rfl, rfl, h4, hB4, hK4⟩
  case round =>
    obtain ⟨j, u, N, L, K, m, hj, hu0, hu1, hju, hN0, hN1, hL0, hL1, hL2, hK1, hK2, rfl, rfl, rfl, rfl, hC, hB, hK⟩ := hrel
    clear h4 hB4 hK4
    rcases m with _ | _
    · obtain ⟨hjn, hun, hKn⟩ := hK2 rfl
      subst hjn
      clear hK1 hK2 hL1 hL2 hN0 hju
      have hNe := hN1 (by omega)
      have hN2 : N = (j : Int) * 4 := by omega
      subst hN2
      subst hun
      subst hKn
      clear hNe hN1
      have ok := pg_ok P 5 j j ((5 : Int) - 1) hR (Nat.le_refl _) hu0 hu1
      have hlen := pg_len j 5 j ((5 : Int) - 1)
      have HO := Lib.hid (coldest_any wr g q P 5 _ _ hC ok)
      rw [hlen, pg_old j 5 _ _ rfl (by omega) j (by omega)] at HO
      have hfr0 : frees (pg j 5 j ((5 : Int) - 1)) j = 0 := by rw [pg_frees j 5 j _ (Nat.le_refl _)]; omega
      have hav0 : availF 5 (pg j 5 j ((5 : Int) - 1)) ((j : Int) - 1) = 0 := by
        unfold availF; rw [pg_left j 5 j _ (Nat.le_refl _), hlen, hfr0, if_neg (by omega)]; simp
      have hep0 : epo (pg j 5 j ((5 : Int) - 1)) 0 = 1 := by rw [pg_ep j 5 j _ (Nat.le_refl _), if_pos (by omega)]; rfl
      have hepl : epo (pg j 5 j ((5 : Int) - 1)) (j - 1) ≠ 0 := by rw [pg_ep j 5 j _ (Nat.le_refl _), if_pos (by omega)]; omega
      have hcst : ((j - 1 : Nat) : Int) = (j : Int) - 1 := by omega
      have hfr1 : frees ((pg j 5 j ((5 : Int) - 1)).set 0 (0, 0)) j = 1 := by
        have := frees_set (pg j 5 j ((5 : Int) - 1)) 0 (0, 0) (by rw [hlen]; omega) j (by omega)
        rw [hfr0, hep0, if_neg (by omega), if_pos rfl] at this
        omega
      have hep1 : ∀ k, 0 ≤ epo ((pg j 5 j ((5 : Int) - 1)).set 0 (0, 0)) k := by
        intro k
        rw [epo_set _ _ _ _ (by rw [hlen]; omega)]
        split
        · simp
        · exact ok.ep0 k
      have HRS := Lib.hid (fun W => (rslots_any P 5 j hR W).mono (fun e w' hx => (⟨hx.1, hx.2 ▸ Kp.one _ _⟩ : e = .returned (.int .i64 (5 - 1)) ∧ Kp W w')))
      have hwn : IntKind.i64.wrap ((j : Int) - 1) = (j : Int) - 1 := IntWalk.i64_in _ (by omega)
      have hwm : IntKind.i64.wrap ((j : Int) * 4) = (j : Int) * 4 := IntWalk.i64_in _ (by omega)
      generalize pg j 5 j ((5 : Int) - 1) = l at *
      have hKd : decide ((j : Int) * 4 + (j : Int) + 1 < 300) = true := by simp; omega
      have HL := Lib.hid hlen
      have HEP := Lib.hid hep0
      have HEPL := Lib.hid hepl
      have HFR1 := Lib.hid hfr1
      have HFR0 := Lib.hid hfr0
      have HAV0 := Lib.hid hav0
      clear hlen hep0 hepl hfr1 hfr0 hav0
      have HCST := Lib.hid hcst
      clear hcst
      go_wp2_with fail
      refine (HO.out).mono ?_
      rintro e w5 ⟨rfl, hk5⟩
      have hC5 := hC.keep hk5
      have hB5 := hB.keep hk5
      have hK5 := hK.trans hk5
      clear hC hB hK hk5
      have HC := Lib.hid (fun W (kk : Kp w5 W) => (hB5.keep kk).c3g)
      have HF := Lib.hid (fun W (kk : Kp w5 W) => cfree_any W g q P 5 l _ (hC5.keep kk) (by rw [HL.out]; omega) ok.ep0)
      rw [HL.out, HFR0.out] at HF
      have HA := Lib.hid (fun W (kk : Kp w5 W) => cavail_any W g q P 5 l _ (hC5.keep kk) ok)
      rw [HAV0.out] at HA
      have HE := Lib.hid (fun W (kk : Kp w5 W) => cerase_state W g q P 5 l _ (hC5.keep kk) (by rw [HL.out]; omega) (j - 1) (by rw [HL.out]; omega) (Or.inr ⟨HEPL.out, HCST.out.symm⟩))
      rw [HCST.out] at HE
      have HE0 := Lib.hid (fun W (kk : Kp w5 W) => cerase_ok W g q P 5 l _ (hC5.keep kk) (by rw [HL.out]; omega) 0 (by rw [HL.out]; omega) (by rw [HEP.out]; omega) (by omega))
      have HF1 := Lib.hid (fun W (hx : ChAt W g q P 5 (l.set 0 (0, 0)) ((j : Int) - 1)) => cfree_any W g q P 5 _ _ hx (by rw [List.length_set, HL.out]; omega) hep1)
      rw [List.length_set, HL.out, HFR1.out] at HF1
      go_wp2_with fail
      have hInh := fun (x v : Value) => (⟨fun h => h _ ((Kp.refl w5).drew), fun h _ _ => h⟩ : (∀ W, (fun W => Kp w5 W) W → x = v) ↔ x = v)
      dsimp only at hInh
      refine wp_region_head 33 (C := fun W => Kp w5 W) (by kernel_rfl) (by kernel_rfl) ((Kp.refl w5).drew) ?_
      simp only [List.take_succ_cons, List.take_zero, List.drop_succ_cons, List.drop_zero]
      repeat (first | go_big_quiet_step ((intro hW; first | (first | (go_at_call 18; refine (HRS.out _).mono ?_; rintro e w' ⟨rfl, hk9⟩; exact ⟨rfl, hW.trans hk9⟩) | (go_at_call 16; refine (HF.out _ hW).mono ?_; rintro e w' ⟨rfl, hk9⟩; exact ⟨rfl, hW.trans hk9⟩) | (go_at_call 21; refine (HA.out _ hW).mono ?_; rintro e w' ⟨rfl, hk9⟩; exact ⟨rfl, hW.trans hk9⟩) | (go_at_call 15; refine (HE.out _ hW).mono ?_; rintro e w' ⟨rfl, hk9⟩; exact ⟨rfl, hW.trans hk9⟩)) | (with_reducible rfl) | (obtain ⟨c0, c1, c2⟩ := HC.out _ hW; (try go_simp); first | done | with_reducible rfl | exact ⟨rfl, rfl⟩))) | quiet_step ((intro hW; first | (first | (go_at_call 18; refine (HRS.out _).mono ?_; rintro e w' ⟨rfl, hk9⟩; exact ⟨rfl, hW.trans hk9⟩) | (go_at_call 16; refine (HF.out _ hW).mono ?_; rintro e w' ⟨rfl, hk9⟩; exact ⟨rfl, hW.trans hk9⟩) | (go_at_call 21; refine (HA.out _ hW).mono ?_; rintro e w' ⟨rfl, hk9⟩; exact ⟨rfl, hW.trans hk9⟩) | (go_at_call 15; refine (HE.out _ hW).mono ?_; rintro e w' ⟨rfl, hk9⟩; exact ⟨rfl, hW.trans hk9⟩)) | (with_reducible rfl) | (obtain ⟨c0, c1, c2⟩ := HC.out _ hW; (try go_simp); first | done | with_reducible rfl | exact ⟨rfl, rfl⟩))))
      refine wpQuiet_nil ?_
      intro wq hwq
      clear hInh
      go_wp2_with fail
      refine (HE0.out _ hwq).mono ?_
      rintro e w6 ⟨rfl, hC6, m6⟩
      have hK6 := Mv.kp (hK5.trans hwq) hS9.out m6
      go_wp2_with fail
      refine (HF1.out _ hC6).mono ?_
      rintro e w7 ⟨rfl, hk7⟩
      go_wp2_with fail
      go_ret
      exact ⟨rfl, hK6.trans hk7⟩
    · have hKK := hK1 rfl
      clear hK1 hK2
      have hK3 : 0 ≤ K ∧ K ≤ 60 ∧ 0 ≤ N ∧ N ≤ 60 := by rcases Nat.eq_zero_or_pos j with h | h; (have := hN0 h; omega); (have := hN1 h; omega)
      obtain ⟨hK30, hK31, hN30, hN31⟩ := hK3
      have hKd : decide (K < 300) = true := by simp; omega
      by_cases hA : 1 ≤ j ∧ u < (5 : Int) - 1
      · obtain ⟨hj1, hu2⟩ := hA
        have HT := Lib.hid (pg_take wr g q P (5 : Int) n j u hR hC hj1 hj hu0 hu2)
        obtain ⟨pv, hpv⟩ : ∃ pv : Int, pv = ((j - 1 : Nat) : Int) * (5 : Int) + (u + 1) := ⟨_, rfl⟩
        rw [← hpv] at HT
        have hLe := hL2 (by omega)
        have hNe := hN1 (by omega)
        have hd1 : decide (pv ≤ L) = false := by simp; omega
        have hd1' : ¬ (pv ≤ L) := by omega
        have hd2 : (pv % (5 : Int) == 0) = false := by simp; omega
        have hd3 : decide ((5 : Int) * (n : Int) ≤ pv) = false := by simp; omega
        have hp0 : 0 ≤ pv ∧ pv ≤ 100 := by omega
        obtain ⟨hp0, hp1⟩ := hp0
        have HPV := Lib.hid hpv
        have HKK := Lib.hid hKK
        have HNE := Lib.hid hNe
        clear hpv hKK hNe hN0 hN1 hL1 hL2 hju
        go_wp2_with fail
        refine (HT.out).mono ?_
        rintro e w5 ⟨rfl, hC5, m5⟩
        have hB5 := hB.mv m5 hG9.out
        have hK5 := Mv.kp hK hS9.out m5
        clear hC hB hK m5
        obtain ⟨c0, c1, c2⟩ := hB5.c3g
        go_wp2_with fail
        go_roundw
        case rel => exact ⟨j, u + 1, N + 1, pv, K + 1, true, hj, by omega, by omega, fun h => by omega, fun h => by omega, fun h => by have := HNE.out; omega, by omega, fun h => by omega, fun h => by have := HPV.out; omega, fun _ => by have := HKK.out; omega, fun h => (by cases h), rfl, rfl, rfl, rfl, hC5, hB5, hK5⟩
        case measure => simp [intOf]; omega
      · have hz : j = 0 ∨ u = (5 : Int) - 1 := by omega
        have HT := Lib.hid (pg_takeno wr g q P (5 : Int) n j u hR hC hj hu0 hu1 hz)
        by_cases hjn : j < n
        · have HO := Lib.hid (fun W (kk : Kp wr W) => pg_open W g q P (5 : Int) n j u hR (hC.keep kk) hjn hu0 hu1 hz)
          have hNf : N = (j : Int) * ((5 : Int) - 1) := by rcases Nat.eq_zero_or_pos j with h | h; (have := hN0 h; omega); (have := hN1 h; omega)
          have hLf : L ≤ (j : Int) * (5 : Int) := by rcases Nat.eq_zero_or_pos j with h | h; (have := hL1 h; omega); (have := hL2 h; omega)
          have HKK := Lib.hid hKK
          have HNF := Lib.hid hNf
          clear hKK hNf hN0 hN1 hL1 hL2 hju
          go_wp2_with fail
          refine (HT.out).mono ?_
          rintro e w5 ⟨rfl, hk5⟩
          go_wp2_with fail
          refine (HO.out _ hk5).mono ?_
          rintro e w6 ⟨rfl, hC6, m6⟩
          have hB6 := (hB.keep hk5).mv m6 hG9.out
          have hK6 := Mv.kp (hK.trans hk5) hS9.out m6
          go_wp2_with fail
          go_roundw
          case rel => exact ⟨j + 1, 0, N, L, K + 1, true, by omega, by omega, by omega, fun h => by omega, fun h => by omega, fun h => by have := HNF.out; omega, hL0, fun h => by omega, fun h => by omega, fun _ => by have := HKK.out; omega, fun h => (by cases h), rfl, rfl, rfl, rfl, hC6, hB6, hK6⟩
          case measure => simp [intOf]; omega
        · obtain rfl : j = n := by omega
          have hu9 : u = (5 : Int) - 1 := by omega
          have HO := Lib.hid (fun W (kk : Kp wr W) => pg_openno W g q P (5 : Int) j u hR (hC.keep kk) hu0 hu1)
          have HKK := Lib.hid hKK
          have HU := Lib.hid hu9
          have HN1 := Lib.hid hN1
          have HL2 := Lib.hid hL2
          clear hKK hu9 hN0 hN1 hL1 hL2 hju
          go_wp2_with fail
          refine (HT.out).mono ?_
          rintro e w5 ⟨rfl, hk5⟩
          go_wp2_with fail
          refine (HO.out _ hk5).mono ?_
          rintro e w6 ⟨rfl, hk6⟩
          have hkk := hk5.trans hk6
          go_wp2_with fail
          go_roundw
          case rel => exact ⟨j, u, N, L, K + 1, false, by omega, by omega, by omega, fun h => by omega, fun h => by omega, HN1.out, hL0, fun h => by omega, HL2.out, fun h => (by cases h), fun _ => ⟨rfl, HU.out, by have := HKK.out; omega⟩, rfl, rfl, rfl, rfl, hC.keep hkk, hB.keep hkk, hK.trans hkk⟩
          case measure => simp [intOf]; omega
set_option maxRecDepth 20000 in
set_option maxHeartbeats 6400000 in
theorem pages_walk6 (w : World) (p s r : Int) (bp : -9223372036854775808 ≤ p ∧ p ≤ 9223372036854775807) (bs : -9223372036854775808 ≤ s ∧ s ≤ 9223372036854775807) (br : -9223372036854775808 ≤ r ∧ r ≤ 9223372036854775807)
    (P : Int) (n : Nat) (hP : 32 + p % 33 = P) (hS : 3 + s % 4 = 6) (hn : 4 + r % 4 = (n : Int)) (hR : RightG P 6 n) (hn7 : n ≤ 7) :
    Calls Try.prog 6 #[geo p s r] w fun e w' => e = .returned (.bool true) ∧ Kp w w' := by
  have HGE := Lib.hid (fun w => bgeom_any p s r bp bs br w)
  rw [hP, hS, hn] at HGE
  clear hP hS hn
  obtain ⟨r1, r2, r3, r4, r5, r6⟩ := id hR
  go_enter Try.func6, Try.ntmps6
  go_wp2_with fail
  refine (HGE.out _).mono ?_
  rintro e w1 ⟨rfl, hk1⟩
  have hB := (Bk.new w 23 [.int .i64 p, .int .i64 s, .int .i64 r]).keep hk1
  have hK := (Kp.one w (.cells [.int .i64 p, .int .i64 s, .int .i64 r].toArray 23)).trans hk1
  clear hk1
  obtain ⟨c0, c1, c2⟩ := hB.c3g
  have f0 := hB.free 0
  have f1 := hB.free 1
  have f2 := hB.free 2
  go_wp2_with fail
  obtain ⟨hB2, hK2⟩ := put3 hB hK (Nat.le_refl _) (.int .i64 P) (.int .i64 6) (.int .i64 n)
  refine (cnew_yes P 6 n hR _).mono ?_
  rintro e w2 ⟨g, q, rfl, hg, hq, h0, hk2⟩
  have hB3 := hB2.keep hk2
  have hK3 := hK2.trans hk2
  have hgw : w.heap.size < g ∧ w.heap.size < q := by have := hB2.lt; omega
  obtain ⟨hg1, hq1⟩ := hgw
  clear hB hK c0 c1 c2 f0 f1 f2 hB2 hK2 hk2 hg hq
  go_wp2_with fail
  refine (alive_any _).mono ?_
  rintro e w3 ⟨rfl, hk3⟩
  have hB4 := hB3.keep hk3
  have hK4 := hK3.trans hk3
  have h4 := h0.keep hk3
  clear hB3 hK3 hk3 h0
  have hS9 := Lib.hid (fun b (hb : b ∈ [g, q]) => (by rcases mem2 hb with rfl | rfl <;> omega : w.heap.size ≤ b))
  have hG9 := Lib.hid (fun hb => (by rcases mem2 hb with h | h <;> omega) : w.heap.size ∉ [g, q])
  rw [pg_zero n 6] at h4
  go_wp2_with fail
  go_loopw [4, 5, 6, 7] (fun cn cl cm ck wr => ∃ (j : Nat) (u N L K : Int) (m : Bool), j ≤ n ∧ 0 ≤ u ∧ u ≤ (6 : Int) - 1 ∧ (j = 0 → u = 0) ∧ (j = 0 → N = 0) ∧ (0 < j → N = ((j : Int) - 1) * ((6 : Int) - 1) + u) ∧ -1 ≤ L ∧ (j = 0 → L = -1) ∧ (0 < j → L ≤ ((j : Int) - 1) * (6 : Int) + u) ∧ (m = true → K = N + j) ∧ (m = false → j = n ∧ u = (6 : Int) - 1 ∧ K = N + j + 1) ∧
      cn = .int .i64 N ∧ cl = .int .i64 L ∧ cm = .bool m ∧ ck = .int .i64 K ∧ ChAt wr g q P (6 : Int) (pg n (6 : Int) j u) ((j : Int) - 1) ∧ Bk wr w.heap.size 23 [.int .i64 P, .int .i64 (6 : Int), .int .i64 n] ∧ Kp w wr) (fun _ _ _ k _ => 100 - (intOf k).toNat)
  case atStart => exact ⟨0, 0, 0, -1, 0, true, by omega, by omega, by omega, fun _ => rfl, fun _ => rfl, fun h => by omega, by omega, fun _ => rfl, fun h => by omega, fun _ => by omega, (fun h => by cases h), rfl, rfl, rfl, rfl, h4, hB4, hK4⟩
  case round =>
    obtain ⟨j, u, N, L, K, m, hj, hu0, hu1, hju, hN0, hN1, hL0, hL1, hL2, hK1, hK2, rfl, rfl, rfl, rfl, hC, hB, hK⟩ := hrel
    clear h4 hB4 hK4
    rcases m with _ | _
    · obtain ⟨hjn, hun, hKn⟩ := hK2 rfl
      subst hjn
      clear hK1 hK2 hL1 hL2 hN0 hju
      have hNe := hN1 (by omega)
      have hN2 : N = (j : Int) * 5 := by omega
      subst hN2
      subst hun
      subst hKn
      clear hNe hN1
      have ok := pg_ok P 6 j j ((6 : Int) - 1) hR (Nat.le_refl _) hu0 hu1
      have hlen := pg_len j 6 j ((6 : Int) - 1)
      have HO := Lib.hid (coldest_any wr g q P 6 _ _ hC ok)
      rw [hlen, pg_old j 6 _ _ rfl (by omega) j (by omega)] at HO
      have hfr0 : frees (pg j 6 j ((6 : Int) - 1)) j = 0 := by rw [pg_frees j 6 j _ (Nat.le_refl _)]; omega
      have hav0 : availF 6 (pg j 6 j ((6 : Int) - 1)) ((j : Int) - 1) = 0 := by
        unfold availF; rw [pg_left j 6 j _ (Nat.le_refl _), hlen, hfr0, if_neg (by omega)]; simp
      have hep0 : epo (pg j 6 j ((6 : Int) - 1)) 0 = 1 := by rw [pg_ep j 6 j _ (Nat.le_refl _), if_pos (by omega)]; rfl
      have hepl : epo (pg j 6 j ((6 : Int) - 1)) (j - 1) ≠ 0 := by rw [pg_ep j 6 j _ (Nat.le_refl _), if_pos (by omega)]; omega
      have hcst : ((j - 1 : Nat) : Int) = (j : Int) - 1 := by omega
      have hfr1 : frees ((pg j 6 j ((6 : Int) - 1)).set 0 (0, 0)) j = 1 := by
        have := frees_set (pg j 6 j ((6 : Int) - 1)) 0 (0, 0) (by rw [hlen]; omega) j (by omega)
        rw [hfr0, hep0, if_neg (by omega), if_pos rfl] at this
        omega
      have hep1 : ∀ k, 0 ≤ epo ((pg j 6 j ((6 : Int) - 1)).set 0 (0, 0)) k := by
        intro k
        rw [epo_set _ _ _ _ (by rw [hlen]; omega)]
        split
        · simp
        · exact ok.ep0 k
      have HRS := Lib.hid (fun W => (rslots_any P 6 j hR W).mono (fun e w' hx => (⟨hx.1, hx.2 ▸ Kp.one _ _⟩ : e = .returned (.int .i64 (6 - 1)) ∧ Kp W w')))
      have hwn : IntKind.i64.wrap ((j : Int) - 1) = (j : Int) - 1 := IntWalk.i64_in _ (by omega)
      have hwm : IntKind.i64.wrap ((j : Int) * 5) = (j : Int) * 5 := IntWalk.i64_in _ (by omega)
      generalize pg j 6 j ((6 : Int) - 1) = l at *
      have hKd : decide ((j : Int) * 5 + (j : Int) + 1 < 300) = true := by simp; omega
      have HL := Lib.hid hlen
      have HEP := Lib.hid hep0
      have HEPL := Lib.hid hepl
      have HFR1 := Lib.hid hfr1
      have HFR0 := Lib.hid hfr0
      have HAV0 := Lib.hid hav0
      clear hlen hep0 hepl hfr1 hfr0 hav0
      have HCST := Lib.hid hcst
      clear hcst
      go_wp2_with fail
      refine (HO.out).mono ?_
      rintro e w5 ⟨rfl, hk5⟩
      have hC5 := hC.keep hk5
      have hB5 := hB.keep hk5
      have hK5 := hK.trans hk5
      clear hC hB hK hk5
      have HC := Lib.hid (fun W (kk : Kp w5 W) => (hB5.keep kk).c3g)
      have HF := Lib.hid (fun W (kk : Kp w5 W) => cfree_any W g q P 6 l _ (hC5.keep kk) (by rw [HL.out]; omega) ok.ep0)
      rw [HL.out, HFR0.out] at HF
      have HA := Lib.hid (fun W (kk : Kp w5 W) => cavail_any W g q P 6 l _ (hC5.keep kk) ok)
      rw [HAV0.out] at HA
      have HE := Lib.hid (fun W (kk : Kp w5 W) => cerase_state W g q P 6 l _ (hC5.keep kk) (by rw [HL.out]; omega) (j - 1) (by rw [HL.out]; omega) (Or.inr ⟨HEPL.out, HCST.out.symm⟩))
      rw [HCST.out] at HE
      have HE0 := Lib.hid (fun W (kk : Kp w5 W) => cerase_ok W g q P 6 l _ (hC5.keep kk) (by rw [HL.out]; omega) 0 (by rw [HL.out]; omega) (by rw [HEP.out]; omega) (by omega))
      have HF1 := Lib.hid (fun W (hx : ChAt W g q P 6 (l.set 0 (0, 0)) ((j : Int) - 1)) => cfree_any W g q P 6 _ _ hx (by rw [List.length_set, HL.out]; omega) hep1)
      rw [List.length_set, HL.out, HFR1.out] at HF1
      go_wp2_with fail
      have hInh := fun (x v : Value) => (⟨fun h => h _ ((Kp.refl w5).drew), fun h _ _ => h⟩ : (∀ W, (fun W => Kp w5 W) W → x = v) ↔ x = v)
      dsimp only at hInh
      refine wp_region_head 33 (C := fun W => Kp w5 W) (by kernel_rfl) (by kernel_rfl) ((Kp.refl w5).drew) ?_
      simp only [List.take_succ_cons, List.take_zero, List.drop_succ_cons, List.drop_zero]
      repeat (first | go_big_quiet_step ((intro hW; first | (first | (go_at_call 18; refine (HRS.out _).mono ?_; rintro e w' ⟨rfl, hk9⟩; exact ⟨rfl, hW.trans hk9⟩) | (go_at_call 16; refine (HF.out _ hW).mono ?_; rintro e w' ⟨rfl, hk9⟩; exact ⟨rfl, hW.trans hk9⟩) | (go_at_call 21; refine (HA.out _ hW).mono ?_; rintro e w' ⟨rfl, hk9⟩; exact ⟨rfl, hW.trans hk9⟩) | (go_at_call 15; refine (HE.out _ hW).mono ?_; rintro e w' ⟨rfl, hk9⟩; exact ⟨rfl, hW.trans hk9⟩)) | (with_reducible rfl) | (obtain ⟨c0, c1, c2⟩ := HC.out _ hW; (try go_simp); first | done | with_reducible rfl | exact ⟨rfl, rfl⟩))) | quiet_step ((intro hW; first | (first | (go_at_call 18; refine (HRS.out _).mono ?_; rintro e w' ⟨rfl, hk9⟩; exact ⟨rfl, hW.trans hk9⟩) | (go_at_call 16; refine (HF.out _ hW).mono ?_; rintro e w' ⟨rfl, hk9⟩; exact ⟨rfl, hW.trans hk9⟩) | (go_at_call 21; refine (HA.out _ hW).mono ?_; rintro e w' ⟨rfl, hk9⟩; exact ⟨rfl, hW.trans hk9⟩) | (go_at_call 15; refine (HE.out _ hW).mono ?_; rintro e w' ⟨rfl, hk9⟩; exact ⟨rfl, hW.trans hk9⟩)) | (with_reducible rfl) | (obtain ⟨c0, c1, c2⟩ := HC.out _ hW; (try go_simp); first | done | with_reducible rfl | exact ⟨rfl, rfl⟩))))
      refine wpQuiet_nil ?_
      intro wq hwq
      clear hInh
      go_wp2_with fail
      refine (HE0.out _ hwq).mono ?_
      rintro e w6 ⟨rfl, hC6, m6⟩
      have hK6 := Mv.kp (hK5.trans hwq) hS9.out m6
      go_wp2_with fail
      refine (HF1.out _ hC6).mono ?_
      rintro e w7 ⟨rfl, hk7⟩
      go_wp2_with fail
      go_ret
      exact ⟨rfl, hK6.trans hk7⟩
    · have hKK := hK1 rfl
      clear hK1 hK2
      have hK3 : 0 ≤ K ∧ K ≤ 60 ∧ 0 ≤ N ∧ N ≤ 60 := by rcases Nat.eq_zero_or_pos j with h | h; (have := hN0 h; omega); (have := hN1 h; omega)
      obtain ⟨hK30, hK31, hN30, hN31⟩ := hK3
      have hKd : decide (K < 300) = true := by simp; omega
      by_cases hA : 1 ≤ j ∧ u < (6 : Int) - 1
      · obtain ⟨hj1, hu2⟩ := hA
        have HT := Lib.hid (pg_take wr g q P (6 : Int) n j u hR hC hj1 hj hu0 hu2)
        obtain ⟨pv, hpv⟩ : ∃ pv : Int, pv = ((j - 1 : Nat) : Int) * (6 : Int) + (u + 1) := ⟨_, rfl⟩
        rw [← hpv] at HT
        have hLe := hL2 (by omega)
        have hNe := hN1 (by omega)
        have hd1 : decide (pv ≤ L) = false := by simp; omega
        have hd1' : ¬ (pv ≤ L) := by omega
        have hd2 : (pv % (6 : Int) == 0) = false := by simp; omega
        have hd3 : decide ((6 : Int) * (n : Int) ≤ pv) = false := by simp; omega
        have hp0 : 0 ≤ pv ∧ pv ≤ 100 := by omega
        obtain ⟨hp0, hp1⟩ := hp0
        have HPV := Lib.hid hpv
        have HKK := Lib.hid hKK
        have HNE := Lib.hid hNe
        clear hpv hKK hNe hN0 hN1 hL1 hL2 hju
        go_wp2_with fail
        refine (HT.out).mono ?_
        rintro e w5 ⟨rfl, hC5, m5⟩
        have hB5 := hB.mv m5 hG9.out
        have hK5 := Mv.kp hK hS9.out m5
        clear hC hB hK m5
        obtain ⟨c0, c1, c2⟩ := hB5.c3g
        go_wp2_with fail
        go_roundw
        case rel => exact ⟨j, u + 1, N + 1, pv, K + 1, true, hj, by omega, by omega, fun h => by omega, fun h => by omega, fun h => by have := HNE.out; omega, by omega, fun h => by omega, fun h => by have := HPV.out; omega, fun _ => by have := HKK.out; omega, fun h => (by cases h), rfl, rfl, rfl, rfl, hC5, hB5, hK5⟩
        case measure => simp [intOf]; omega
      · have hz : j = 0 ∨ u = (6 : Int) - 1 := by omega
        have HT := Lib.hid (pg_takeno wr g q P (6 : Int) n j u hR hC hj hu0 hu1 hz)
        by_cases hjn : j < n
        · have HO := Lib.hid (fun W (kk : Kp wr W) => pg_open W g q P (6 : Int) n j u hR (hC.keep kk) hjn hu0 hu1 hz)
          have hNf : N = (j : Int) * ((6 : Int) - 1) := by rcases Nat.eq_zero_or_pos j with h | h; (have := hN0 h; omega); (have := hN1 h; omega)
          have hLf : L ≤ (j : Int) * (6 : Int) := by rcases Nat.eq_zero_or_pos j with h | h; (have := hL1 h; omega); (have := hL2 h; omega)
          have HKK := Lib.hid hKK
          have HNF := Lib.hid hNf
          clear hKK hNf hN0 hN1 hL1 hL2 hju
          go_wp2_with fail
          refine (HT.out).mono ?_
          rintro e w5 ⟨rfl, hk5⟩
          go_wp2_with fail
          refine (HO.out _ hk5).mono ?_
          rintro e w6 ⟨rfl, hC6, m6⟩
          have hB6 := (hB.keep hk5).mv m6 hG9.out
          have hK6 := Mv.kp (hK.trans hk5) hS9.out m6
          go_wp2_with fail
          go_roundw
          case rel => exact ⟨j + 1, 0, N, L, K + 1, true, by omega, by omega, by omega, fun h => by omega, fun h => by omega, fun h => by have := HNF.out; omega, hL0, fun h => by omega, fun h => by omega, fun _ => by have := HKK.out; omega, fun h => (by cases h), rfl, rfl, rfl, rfl, hC6, hB6, hK6⟩
          case measure => simp [intOf]; omega
        · obtain rfl : j = n := by omega
          have hu9 : u = (6 : Int) - 1 := by omega
          have HO := Lib.hid (fun W (kk : Kp wr W) => pg_openno W g q P (6 : Int) j u hR (hC.keep kk) hu0 hu1)
          have HKK := Lib.hid hKK
          have HU := Lib.hid hu9
          have HN1 := Lib.hid hN1
          have HL2 := Lib.hid hL2
          clear hKK hu9 hN0 hN1 hL1 hL2 hju
          go_wp2_with fail
          refine (HT.out).mono ?_
          rintro e w5 ⟨rfl, hk5⟩
          go_wp2_with fail
          refine (HO.out _ hk5).mono ?_
          rintro e w6 ⟨rfl, hk6⟩
          have hkk := hk5.trans hk6
          go_wp2_with fail
          go_roundw
          case rel => exact ⟨j, u, N, L, K + 1, false, by omega, by omega, by omega, fun h => by omega, fun h => by omega, HN1.out, hL0, fun h => by omega, HL2.out, fun h => (by cases h), fun _ => ⟨rfl, HU.out, by have := HKK.out; omega⟩, rfl, rfl, rfl, rfl, hC.keep hkk, hB.keep hkk, hK.trans hkk⟩
          case measure => simp [intOf]; omega
theorem ChartPages_walk (w : World) (p s r : Int) (wp : (Lit.int .i64 p).wf = true) (ws : (Lit.int .i64 s).wf = true) (wr : (Lit.int .i64 r).wf = true) :
    Calls Try.prog 6 #[geo p s r] w fun e w' => e = .returned (.bool true) ∧ Kp w w' := by
  have bp := bounds_i64 wp
  have bs := bounds_i64 ws
  have br := bounds_i64 wr
  obtain ⟨P, S, n, hP, hS, hn, hR, hn7, hS6, hP64⟩ := small_geom p s r
  have hS4 : S = 3 ∨ S = 4 ∨ S = 5 ∨ S = 6 := by unfold RightG at hR; omega
  rcases hS4 with rfl | rfl | rfl | rfl
  · exact pages_walk3 w p s r bp bs br P n hP hS hn hR hn7
  · exact pages_walk4 w p s r bp bs br P n hP hS hn hR hn7
  · exact pages_walk5 w p s r bp bs br P n hP hS hn hR hn7
  · exact pages_walk6 w p s r bp bs br P n hP hS hn hR hn7
end Go.Proofs.Ytbcoghfpomnkkaa
