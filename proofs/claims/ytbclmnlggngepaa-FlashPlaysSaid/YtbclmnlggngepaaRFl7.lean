/- The contracts of the reference's device: Erase. -/
import Derived.Test.YtbclmnlggngepaaRFl6
namespace Go.Proofs.Ytbclmnlggngepaa
open Go.RowKit
set_option linter.unusedVariables false

def reraseD (p s r : Int) (d : Dev) (region : Int) : Dev × Int :=
  if d.down = true then (d, 6) else if region < 0 ∨ r ≤ region then (d, 1)
  else if ∃ x ∈ d.row, inReg s region x then (d, 7)
  else if (rcountD d).2 = true then ({ (rcountD d).1 with row := (rcountD d).1.row ++ newRows p (region * s) s.toNat }, 6)
  else ({ (rcountD d).1 with img := doAll p (rcountD d).1.img (newRows p (region * s) s.toNat) }, 0)
section
variable {W : World} {g ib ic : Nat} {p s r : Int} {d : Dev} {v : Value}
theorem blankS_fill (p : Int) : fillS 255 p.toNat = blankS p := rfl
set_option maxRecDepth 20000 in
set_option maxHeartbeats 6400000 in
theorem rerase (h : RfX W g ib ic p s r d v) (ok : DevOk p s r d) (region : Int) :
    Calls Try.prog 42 #[.pointer (some ⟨g, 0, none⟩), .int .i64 region] W (RfPost W g ib ic p s r v (reraseD p s r d region)) := by
  have HCN := Lib.hid (fun W' (k : Kp W W') => rcount (h.keep k) ok.left)
  have HC := Lib.hid (fun W' (k : Kp W W') => (h.keep k).c8)
  have hrl := ok.rl
  obtain ⟨c0, c1, c2, c3, c4, c5, c6, c7⟩ := h.c8
  rcases hdn : d.down with _ | _
  · rw [hdn] at c7
    have hR := ok.right
    have hcases : region < 0 ∨ (0 ≤ region ∧ r ≤ region) ∨ (0 ≤ region ∧ region < r) := by omega
    rcases hcases with hc | ⟨hc1, hc⟩ | ⟨hc1, hc⟩
    · have e1 : reraseD p s r d region = (d, 1) := by unfold reraseD; rw [if_neg (by rw [hdn]; simp), if_pos (Or.inl hc)]
      rw [e1]
      clear e1 hdn HCN
      go_enter Try.func42, Try.ntmps42
      go_wp2_with fail
      go_ret
      exact ⟨rfl, v, h, FlMv.refl _ _ _ _⟩
    · have e1 : reraseD p s r d region = (d, 1) := by unfold reraseD; rw [if_neg (by rw [hdn]; simp), if_pos (Or.inr hc)]
      rw [e1]
      clear e1 hdn HCN
      go_enter Try.func42, Try.ntmps42
      go_wp2_with fail
      go_ret
      exact ⟨rfl, v, h, FlMv.refl _ _ _ _⟩
    · obtain ⟨b1, b2, b3, b4, b5⟩ := reg_bd hR hc1 hc
      have E7 : (∃ x ∈ d.row, inReg s region x) → reraseD p s r d region = (d, 7) := by
        intro hx
        unfold reraseD
        rw [if_neg (by rw [hdn]; simp), if_neg (by omega), if_pos hx]
      have E0 : (¬ ∃ x ∈ d.row, inReg s region x) → reraseD p s r d region = if (rcountD d).2 = true then ({ (rcountD d).1 with row := (rcountD d).1.row ++ newRows p (region * s) s.toNat }, 6)
          else ({ (rcountD d).1 with img := doAll p (rcountD d).1.img (newRows p (region * s) s.toNat) }, 0) := by
        intro hx
        unfold reraseD
        rw [if_neg (by rw [hdn]; simp), if_neg (by omega), if_neg hx]
      obtain ⟨si, sr⟩ := rcountD_same d
      have hlen := ok.len
      unfold RCountPost at HCN
      generalize rcountD d = cd at *
      obtain ⟨c, cb⟩ := cd
      generalize reraseD p s r d region = er at *
      have H7 := Lib.hid E7
      have H0 := Lib.hid E0
      have HSI := Lib.hid si
      have HSR := Lib.hid sr
      have HLN := Lib.hid hlen
      have HRW := Lib.hid h.rows
      clear E7 E0 hdn si sr hlen ok
      have q1 : IntKind.i64.wrap (region * s) = region * s := IntWalk.i64_in _ (by omega)
      have q2 : IntKind.i64.wrap (region * s + s) = region * s + s := IntWalk.i64_in _ (by omega)
      have hINR : ∀ x : Int × ByteArray, inReg s region x ↔ region * s ≤ x.1 ∧ x.1 < region * s + s := fun x => Iff.rfl
      have HIN := Lib.hid hINR
      clear hINR
      generalize hfr : region * s = fr at *
      have q3 : IntKind.i64.wrap (region * s) = fr := by rw [hfr]; exact q1
      have HFR := Lib.hid hfr
      clear hfr
      obtain ⟨A, cc, hv, -⟩ := HRW.out
      have HV := Lib.hid hv
      go_enter Try.func42, Try.ntmps42
      go_wp2_with fail
      have HRO := Lib.hid (fun W' (k : Kp W W') => (h.keep k).rows)
      rw [hv] at c4
      clear hv HRW
      go_wp2_with fail
      go_loopw [6] (fun i wr => ∃ k : Nat, k ≤ d.row.length ∧ i = .int .i64 k ∧ Kp W wr ∧ ∀ j (hj : j < d.row.length), j < k → ¬ inReg s region d.row[j]) (fun i _ => d.row.length - (intOf i).toNat)
      case atStart => exact ⟨0, by omega, rfl, Kp.refl _, fun j hj h0 => absurd h0 (by omega)⟩
      case round =>
        obtain ⟨k, hk, rfl, hkr, hno⟩ := hrel
        have HNO := Lib.hid hno
        clear hno c0 c1 c2 c3 c4 c5 c6 c7
        have HC1 := Lib.hid (fun W' (k : Kp wr W') => HC.out _ (hkr.trans k))
        obtain ⟨c0, c1, c2, c3, c4, c5, c6, c7⟩ := HC.out _ hkr
        rw [HV.out] at c4
        by_cases hlt : k < d.row.length
        · obtain ⟨A', cc', hv', hrw⟩ := HRO.out _ hkr
          have hAA : A' = A := by rw [HV.out] at hv'; injection hv' with e1; exact e1.symm
          subst hAA
          obtain ⟨q, hq, e1, e2⟩ := hrw k hlt
          subst hq
          clear hv' hrw
          have hin := HIN.out d.row[k]
          have hmem := List.getElem_mem hlt
          have HME := Lib.hid hmem
          clear hmem
          generalize hx : d.row[k] = x at *
          obtain ⟨pg, bb⟩ := x
          have HX := Lib.hid hx
          clear hx
          dsimp only at e1 e2 hin
          have HNB := Lib.hid (fun W' (kk : Kp wr W') => And.intro (kk.cell e1) (HC1.out _ kk))
          have dl : (k : Int) < (d.row.length : Int) := by omega
          clear e2
          have hcs : (pg < fr) ∨ (fr ≤ pg ∧ fr + s ≤ pg) ∨ (fr ≤ pg ∧ pg < fr + s) := by omega
          rcases hcs with hq1 | ⟨hq1, hq2⟩ | ⟨hq1, hq2⟩
          · have d1 : decide (fr ≤ pg) = false := by simp; omega
            have HNI : Hid (¬ inReg s region (pg, bb)) := Lib.hid (fun hh => by have := hin.1 hh; omega)
            clear hin
            go_wp2_with fail
            clear e1 c0 c1 c2 c3 c4 c5 c6 c7
            have hInh := fun (x v : Value) => (⟨fun h => h _ ((Kp.refl _).drew), fun h _ _ => h⟩ : (∀ Wz9, (fun W' => Kp wr W') Wz9 → x = v) ↔ x = v)
            dsimp only at hInh
            refine wp_region_quietC (C := fun W' => Kp wr W') (by kernel_rfl) (by kernel_rfl) ((Kp.refl _).drew) ?_
            repeat (first | go_big_quiet_step ((intro hW; first | fail | (with_reducible rfl) | (obtain ⟨n0, c0, c1, c2, c3, c4, c5, c6, c7⟩ := HNB.out _ hW; rw [HV.out] at c4; (try go_simp); first | done | with_reducible rfl | exact ⟨rfl, rfl⟩))) | quiet_step ((intro hW; first | fail | (with_reducible rfl) | (obtain ⟨n0, c0, c1, c2, c3, c4, c5, c6, c7⟩ := HNB.out _ hW; rw [HV.out] at c4; (try go_simp); first | done | with_reducible rfl | exact ⟨rfl, rfl⟩))))
            refine wpQuiet_nil ?_
            intro wq hwq
            clear hInh
            go_wp2_with fail
            go_roundw
            case rel => exact ⟨k + 1, by omega, by go_num, hkr.trans hwq, fun j hj hjk => by
              rcases Nat.lt_or_ge j k with h9 | h9
              · exact HNO.out j hj h9
              · have : j = k := by omega
                subst this
                rw [HX.out]
                exact HNI.out⟩
            case measure => simp [intOf]; omega
          · have d1 : decide (fr ≤ pg) = true := by simpa using hq1
            have d2 : decide (pg < fr + s) = false := by simp; omega
            have HNI : Hid (¬ inReg s region (pg, bb)) := Lib.hid (fun hh => by have := hin.1 hh; omega)
            clear hin
            go_wp2_with fail
            clear e1 c0 c1 c2 c3 c4 c5 c6 c7
            have hInh := fun (x v : Value) => (⟨fun h => h _ ((Kp.refl _).drew), fun h _ _ => h⟩ : (∀ Wz9, (fun W' => Kp wr W') Wz9 → x = v) ↔ x = v)
            dsimp only at hInh
            refine wp_region_quietC (C := fun W' => Kp wr W') (by kernel_rfl) (by kernel_rfl) ((Kp.refl _).drew) ?_
            repeat (first | go_big_quiet_step ((intro hW; first | fail | (with_reducible rfl) | (obtain ⟨n0, c0, c1, c2, c3, c4, c5, c6, c7⟩ := HNB.out _ hW; rw [HV.out] at c4; (try go_simp); first | done | with_reducible rfl | exact ⟨rfl, rfl⟩))) | quiet_step ((intro hW; first | fail | (with_reducible rfl) | (obtain ⟨n0, c0, c1, c2, c3, c4, c5, c6, c7⟩ := HNB.out _ hW; rw [HV.out] at c4; (try go_simp); first | done | with_reducible rfl | exact ⟨rfl, rfl⟩))))
            refine wpQuiet_nil ?_
            intro wq hwq
            clear hInh
            go_wp2_with fail
            go_roundw
            case rel => exact ⟨k + 1, by omega, by go_num, hkr.trans hwq, fun j hj hjk => by
              rcases Nat.lt_or_ge j k with h9 | h9
              · exact HNO.out j hj h9
              · have : j = k := by omega
                subst this
                rw [HX.out]
                exact HNI.out⟩
            case measure => simp [intOf]; omega
          · have d1 : decide (fr ≤ pg) = true := by simpa using hq1
            have d2 : decide (pg < fr + s) = true := by simpa using hq2
            have HYI : Hid (inReg s region (pg, bb)) := Lib.hid (hin.2 ⟨hq1, hq2⟩)
            clear hin
            go_wp2_with fail
            clear e1 c0 c1 c2 c3 c4 c5 c6 c7
            have hInh := fun (x v : Value) => (⟨fun h => h _ ((Kp.refl _).drew), fun h _ _ => h⟩ : (∀ Wz9, (fun W' => Kp wr W') Wz9 → x = v) ↔ x = v)
            dsimp only at hInh
            refine wp_region_quietC (C := fun W' => Kp wr W') (by kernel_rfl) (by kernel_rfl) ((Kp.refl _).drew) ?_
            repeat (first | go_big_quiet_step ((intro hW; first | fail | (with_reducible rfl) | (obtain ⟨n0, c0, c1, c2, c3, c4, c5, c6, c7⟩ := HNB.out _ hW; rw [HV.out] at c4; (try go_simp); first | done | with_reducible rfl | exact ⟨rfl, rfl⟩))) | quiet_step ((intro hW; first | fail | (with_reducible rfl) | (obtain ⟨n0, c0, c1, c2, c3, c4, c5, c6, c7⟩ := HNB.out _ hW; rw [HV.out] at c4; (try go_simp); first | done | with_reducible rfl | exact ⟨rfl, rfl⟩))))
            refine wpQuiet_nil ?_
            intro wq hwq
            clear hInh
            go_wp2_with fail
            go_ret
            have hkf := hkr.trans hwq
            rw [H7.out ⟨_, HME.out, HYI.out⟩]
            exact ⟨rfl, v, h.keep hkf, by first | exact FlMv.of hkf | (rw [HV.out]; exact FlMv.of hkf)⟩
        · have hno : ¬ ∃ x ∈ d.row, inReg s region x := by
            rintro ⟨x, hx, hin⟩
            obtain ⟨j, hj, rfl⟩ := List.mem_iff_getElem.1 hx
            exact HNO.out j hj (by omega) hin
          have HE := Lib.hid (H0.out hno)
          clear hno H0 H7 HNO HIN
          have hp0 : 0 ≤ p := by have := hR; unfold RightG at this; omega
          go_wp2_with fail
          refine (HCN.out _ hkr).mono ?_
          rintro e w2 ⟨rfl, hf2, hm2⟩
          have hM2 := (FlMv.of (v := v) (g := g) (ib := ib) hkr).trans hm2
          clear c0 c1 c2 c3 c4 c5 c6 c7
          obtain ⟨c0, c1, c2, c3, c4, c5, c6, c7⟩ := hf2.c8
          clear hm2 HCN HC HC1 HRO hkr
          have hzf : ∀ k : Nat, (k : Int) ≤ s → IntKind.i64.wrap (fr + (k : Int)) = fr + (k : Int) := fun k hk => IntWalk.i64_in _ (by omega)
          have HZF := Lib.hid hzf
          clear hzf
          rcases cb with _ | _
          · rw [if_neg (by simp)] at HE
            go_wp2_with fail
            go_loopw [8] (fun i wr => ∃ k : Nat, (k : Int) ≤ s ∧ i = .int .i64 (fr + (k : Int)) ∧ RfX wr g ib ic p s r { c with img := doAll p c.img (newRows p fr k) } v ∧ FlMv W wr g ib v v) (fun i _ => (fr + s - intOf i).toNat)
            case atStart => exact ⟨0, by omega, by simp, hf2, hM2⟩
            case round =>
              obtain ⟨k, hk, rfl, hfr, hMr⟩ := hrel
              clear hf2 hM2 c0 c1 c2 c3 c4 c5 c6 c7 hlt
              obtain ⟨c0, c1, c2, c3, c4, c5, c6, c7⟩ := hfr.c8
              by_cases hlt : (k : Int) < s
              · have HBL := Lib.hid (fun W => fill_any 255 p (by omega) (by unfold RightG at hR; omega) W)
                rw [blankS_fill] at HBL
                have hl2 : ((doAll p c.img (newRows p fr k)).length : Int) = p * s * r := by
                  rw [doAll_len hR _ _ (by rw [HSI.out]; exact HLN.out) (newRows_mem hp0 (by omega) (by omega)), HSI.out]
                  exact HLN.out
                have hbsz : ((blankS p).size : Int) = p := by rw [blankS_size]; omega
                have HCR := Lib.hid (fun W' (kk : Kp wr W') => (hfr.keep kk).c8)
                have HDO := Lib.hid (fun W' (kk : Kp wr W') => rdoneA (hfr.keep kk) hR hl2 (fr + (k : Int)) (by omega) (by omega) (blankS p) hbsz)
                have HMQ := Lib.hid (fun W' (kk : Kp wr W') => hMr.trans (FlMv.of (v := v) (g := g) (ib := ib) kk))
                have HST : Hid (doAll p c.img (newRows p fr (k + 1)) = doD p (doAll p c.img (newRows p fr k)) (fr + (k : Int)) (blankS p)) := Lib.hid (by rw [newRows_succ, doAll_app])
                have q9 : IntKind.i64.wrap (fr + (k : Int) + 1) = fr + (k : Int) + 1 := IntWalk.i64_in _ (by omega)
                have d9 : decide (fr + (k : Int) < fr + s) = true := by simp; omega
                clear hl2 hbsz
                generalize blankS p = bl at *
                go_wp2_with fail
                refine wp_region_relH (R := Kp) (C := fun W' => Kp wr W') 14 (by kernel_rfl) (by kernel_rfl) (Kp.refl wr).drew (fun _ _ h k => h.trans k) Kp.refl (fun _ _ _ h k => h.trans k) ?_
                simp only [List.take_succ_cons, List.take_zero, List.drop_succ_cons, List.drop_zero]
                clear c0 c1 c2 c3 c4 c5 c6 c7
                repeat (refine wpRel_step (fun K hK => ?_); apply rel_eq; (case ob => (intro f W hW hd; (obtain ⟨c0, c1, c2, c3, c4, c5, c6, c7⟩ := HCR.out _ hW); (try simp [deps, factOf, Region.binds] at hd); unfold relOp; go_simp; (first | exact ⟨Kp.refl _, rfl⟩ | exact Kp.refl _ | (refine ⟨Kp.refl _, ?_⟩; (go_at_call 16; refine (HBL.out _).mono ?_; rintro e w' ⟨rfl, hk9⟩; exact ⟨rfl, hk9⟩))))); go_simp; refine hK _ _ ?_; clear hK K)
                refine wpRel_nil ?_
                intro f W' hW hall
                have h0 : f 0 = .pointer (some ⟨g, 0, none⟩) := allF_get hall 0 _ rfl
                have h8 : f 8 = .agg #[.int .i64 (fr + (k : Int)), .string bl] := allF_get hall 8 _ rfl
                have h13 : f 13 = .int .i64 p := allF_get hall 13 _ rfl
                clear hall HCR
                dsimp only
                rw [h0, h8, h13]
                have HD5 := Lib.hid (HDO.out _ hW)
                have HM5 := Lib.hid (HMQ.out _ hW)
                clear h0 h8 h13 HDO HMQ
                go_wp2_with fail
                refine (HD5.out).mono ?_
                rintro e w5 ⟨rfl, hf5, hm5⟩
                have hM6 := HM5.out.trans hm5
                go_wp2_with fail
                go_roundw
                case rel => exact ⟨k + 1, by omega, by go_num, by rw [HST.out]; exact hf5, hM6⟩
                case measure => simp [intOf]; omega
              · have hke : k = s.toNat := by omega
                subst hke
                have d9 : decide (fr + ((s.toNat : Nat) : Int) < fr + s) = false := by simp; omega
                go_wp2_with fail
                go_ret
                rw [HE.out]
                exact ⟨rfl, _, hfr, hMr⟩
          · rw [if_pos rfl] at HE
            go_wp2_with fail
            go_loopw [8] (fun i wr => ∃ (k : Nat) (v' : Value), (k : Int) ≤ s ∧ i = .int .i64 (fr + (k : Int)) ∧ RfX wr g ib ic p s r { c with row := c.row ++ newRows p fr k } v' ∧ FlMv W wr g ib v v') (fun i _ => (fr + s - intOf i).toNat)
            case atStart => exact ⟨0, v, by omega, by simp, by rw [show newRows p fr 0 = [] from rfl, List.append_nil]; exact hf2, hM2⟩
            case round =>
              obtain ⟨k, v', hk, rfl, hfr, hMr⟩ := hrel
              clear hf2 hM2 c0 c1 c2 c3 c4 c5 c6 c7 hlt
              obtain ⟨c0, c1, c2, c3, c4, c5, c6, c7⟩ := hfr.c8
              by_cases hlt : (k : Int) < s
              · have HBL := Lib.hid (fun W => fill_any 255 p (by omega) (by unfold RightG at hR; omega) W)
                rw [blankS_fill] at HBL
                have HCR := Lib.hid (fun W' (kk : Kp wr W') => (hfr.keep kk).c8)
                have HOW := Lib.hid (fun W' (kk : Kp wr W') => (hfr.keep kk).own)
                have hnl : (c.row ++ newRows p fr k).length ≤ 100010 := by rw [List.length_append, newRows_len, HSR.out]; omega
                have HNL := Lib.hid hnl
                have HPU := Lib.hid (fun W' (kk : Kp wr W') w' v9 a1 a2 a3 => hfr.push kk (x := (fr + (k : Int), blankS p)) (w' := w') (v' := v9) a1 a2 a3)
                have HST : Hid ((c.row ++ newRows p fr k) ++ [(fr + (k : Int), blankS p)] = c.row ++ newRows p fr (k + 1)) := Lib.hid (by rw [newRows_succ, List.append_assoc])
                have q9 : IntKind.i64.wrap (fr + (k : Int) + 1) = fr + (k : Int) + 1 := IntWalk.i64_in _ (by omega)
                have d9 : decide (fr + (k : Int) < fr + s) = true := by simp; omega
                clear hnl
                generalize blankS p = bl at *
                go_wp2_with fail
                refine wp_region_relF (R := Kp) (C := fun W' => Kp wr W') 14 rfl rfl rfl (by kernel_rfl) (by kernel_rfl) (fun _ _ _ h => h) (Kp.refl wr).drew (fun _ _ h k => h.trans k) Kp.refl (fun _ _ _ h k => h.trans k) ?_
                simp only [List.take_succ_cons, List.take_zero, List.drop_succ_cons, List.drop_zero]
                clear c0 c1 c2 c3 c4 c5 c6 c7
                repeat (refine wpRel_step (fun K hK => ?_); apply rel_eq; (case ob => (intro f W hW hd; (obtain ⟨c0, c1, c2, c3, c4, c5, c6, c7⟩ := HCR.out _ hW); (try simp [deps, factOf, Region.binds] at hd); unfold relOp; go_simp; (first | exact ⟨Kp.refl _, rfl⟩ | exact Kp.refl _ | (refine ⟨Kp.refl _, ?_⟩; (go_at_call 16; refine (HBL.out _).mono ?_; rintro e w' ⟨rfl, hk9⟩; exact ⟨rfl, hk9⟩))))); go_simp; refine hK _ _ ?_; clear hK K)
                refine wpRel_step (fun K hK => ?_)
                apply rel_fact (fun v W => ∃ q, v = .slice (some ⟨q, 0, none⟩) 1 1 ∧ Bk W q 86 [.int .i64 (fr + (k : Int)), .string bl]) (fun v W W' hr ⟨q, h1, h2⟩ => ⟨q, h1, h2.keep hr⟩)
                case ob =>
                  intro f W hW hd
                  skip
                  (try simp [deps, factOf, Region.binds] at hd)
                  unfold relOp
                  go_simp
                  exact ⟨Kp.one _ _, Bk.new _ _ _⟩
                go_simp
                refine hK _ _ ?_
                clear hK K
                refine wpRel_nil ?_
                intro f W' hW hall
                have h0 : f 0 = .pointer (some ⟨g, 0, none⟩) := allF_get hall 0 _ rfl
                have h4 : f 4 = v' := allF_get hall 4 _ rfl
                obtain ⟨q, h13, hq⟩ := allF_get hall 13 _ rfl
                clear hall
                dsimp only
                rw [h0, h4, h13]
                have hown3 := HOW.out _ hW
                have hnl := HNL.out
                refine wpList_app0 rfl _ _ _ rfl (.agg #[.int .i64 0, .string ⟨#[]⟩]) 24 Try.underlying71 info_wait rfl (by decide) (by decide) rfl hown3 (some ⟨q, 0, none⟩) 1 1 [.int .i64 (fr + (k : Int)), .string bl] rfl rfl (src_bk hq) (by simp [Value.oneCell']) (by omega) ?_
                intro v1 w4 hown1 hg1 hat1
                obtain ⟨A1, c1, rfl⟩ := own_slice hown1
                obtain ⟨z1, z2, z3, z4⟩ := HPU.out _ hW w4 _ hown1 hg1 hat1
                have f4 := z1 4
                rw [HST.out] at z3
                have hll : (c.row ++ newRows p fr k).length = c.row.length + (newRows p fr k).length := List.length_append
                rw [hll] at z3 z4
                have hM9 := Lib.hid (hMr.trans z4)
                have HZ3 := Lib.hid z3
                clear hll z1 z3 z4 hg1 hat1 hown1 hown3 hnl HPU HST HNL HOW HCR HBL
                go_wp2_with fail
                go_roundw
                case rel => exact ⟨k + 1, _, by omega, by go_num, HZ3.out, hM9.out⟩
                case measure => simp [intOf]; omega
              · have hke : k = s.toNat := by omega
                subst hke
                have d9 : decide (fr + ((s.toNat : Nat) : Int) < fr + s) = false := by simp; omega
                go_wp2_with fail
                go_ret
                rw [HE.out]
                exact ⟨rfl, _, hfr, hMr⟩
  · rw [hdn] at c7
    have e1 : reraseD p s r d region = (d, 6) := by unfold reraseD; rw [if_pos hdn]
    rw [e1]
    clear e1 hdn HCN
    go_enter Try.func42, Try.ntmps42
    go_wp2_with fail
    go_ret
    exact ⟨rfl, v, h, FlMv.refl _ _ _ _⟩
end
end Go.Proofs.Ytbclmnlggngepaa
