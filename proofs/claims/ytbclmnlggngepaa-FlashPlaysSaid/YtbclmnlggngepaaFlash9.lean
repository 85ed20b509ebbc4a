/- The contracts of package flash: Erase. -/
import Derived.Test.YtbclmnlggngepaaFlash8
import Derived.Test.YtbclmnlggngepaaRel2
namespace Go.Proofs.Ytbclmnlggngepaa
open Go.RowKit
set_option linter.unusedVariables false

def newRows (p fr : Int) (k : Nat) : Rw := (List.range k).map fun (i : Nat) => (fr + (i : Int), blankS p)
theorem newRows_succ (p fr : Int) (k : Nat) : newRows p fr (k + 1) = newRows p fr k ++ [(fr + (k : Int), blankS p)] := by
  unfold newRows
  rw [List.range_succ, List.map_append]
  rfl
theorem newRows_len (p fr : Int) (k : Nat) : (newRows p fr k).length = k := by simp [newRows]
theorem doAll_app (p : Int) (img : List Nat) (a : Rw) (x : Int × ByteArray) : doAll p img (a ++ [x]) = doD p (doAll p img a) x.1 x.2 := by
  unfold doAll
  rw [List.foldl_append]
  rfl
theorem blankS_size (p : Int) : (blankS p).size = p.toNat := fillS_size _ _
theorem newRows_mem {p s r fr : Int} {k : Nat} (hp : 0 ≤ p) (h0 : 0 ≤ fr) (h1 : fr + k ≤ s * r) : ∀ x ∈ newRows p fr k, 0 ≤ x.1 ∧ x.1 < s * r ∧ (x.2.size : Int) = p := by
  intro x hx
  simp only [newRows, List.mem_map, List.mem_range] at hx
  obtain ⟨i, hi, rfl⟩ := hx
  refine ⟨by dsimp only; omega, by dsimp only; omega, ?_⟩
  dsimp only
  rw [blankS_size]
  omega
def inReg (s region : Int) (x : Int × ByteArray) : Prop := region * s ≤ x.1 ∧ x.1 < region * s + s
instance (s region : Int) (x : Int × ByteArray) : Decidable (inReg s region x) := by unfold inReg; infer_instance
def eraseD (p s r : Int) (d : Dev) (region : Int) : Dev × Int :=
  if d.down = true then (d, 6) else if region < 0 ∨ r ≤ region then (d, 1)
  else if ∃ x ∈ d.row, inReg s region x then (d, 7)
  else if (countD d).2 = true then ({ (countD d).1 with row := (countD d).1.row ++ newRows p (region * s) s.toNat }, 6)
  else ({ (countD d).1 with img := doAll p (countD d).1.img (newRows p (region * s) s.toNat) }, 0)
theorem src_bk {W : World} {q : Nat} {t : TypeId} {cs : List Value} (h : Bk W q t cs) : Src W (some ⟨q, 0, none⟩) cs := by
  intro _
  refine ⟨q, 0, rfl, fun j hj => ?_⟩
  rw [Nat.zero_add, h.cell j, List.getElem?_eq_getElem hj]
theorem reg_bd {p s r region : Int} (hR : RightG p s r) (h0 : 0 ≤ region) (h1 : region < r) : 0 ≤ region * s ∧ region * s + s ≤ s * r ∧ s * r ≤ 120 ∧ 3 ≤ s ∧ s ≤ 10 := by
  have h2 := (mul_sr hR).2.1
  obtain ⟨r1, r2, r3, r4, r5, r6⟩ := hR
  refine ⟨Int.mul_nonneg h0 (by omega), ?_, h2, by omega, by omega⟩
  have h3 : (region + 1) * s ≤ r * s := Int.mul_le_mul_of_nonneg_right (by omega) (by omega)
  rw [Int.add_mul, Int.one_mul, Int.mul_comm r s] at h3
  exact h3
section
variable {W : World} {g ib ic : Nat} {p s r : Int} {d : Dev} {v : Value}
set_option maxRecDepth 20000 in
set_option maxHeartbeats 3200000 in
theorem ferase (h : FlAt W g ib ic p s r d v) (ok : DevOk p s r d) (region : Int) :
    Calls Try.prog 22 #[.pointer (some ⟨g, 0, none⟩), .int .i64 region] W (FlPost W g ib ic p s r v (eraseD p s r d region)) := by
  have HD := Lib.hid (fdown h)
  have HCN := Lib.hid (fun W' (k : Kp W W') => fcount (h.keep k) ok.left)
  have HC := Lib.hid (fun W' (k : Kp W W') => (h.keep k).c8)
  have hrl := ok.rl
  rcases hdn : d.down with _ | _
  · rw [hdn] at HD
    have hR := ok.right
    have hcases : region < 0 ∨ (0 ≤ region ∧ r ≤ region) ∨ (0 ≤ region ∧ region < r) := by omega
    rcases hcases with hc | ⟨hc1, hc⟩ | ⟨hc1, hc⟩
    · have e1 : eraseD p s r d region = (d, 1) := by unfold eraseD; rw [if_neg (by rw [hdn]; simp), if_pos (Or.inl hc)]
      rw [e1]
      clear e1 hdn HCN
      go_enter Try.func22, Try.ntmps22
      go_wp2_with fail
      refine (HD.out).mono ?_
      rintro e w1 ⟨rfl, hk1⟩
      go_wp2_with fail
      go_ret
      exact ⟨rfl, v, h.keep hk1, FlMv.of hk1⟩
    · have e1 : eraseD p s r d region = (d, 1) := by unfold eraseD; rw [if_neg (by rw [hdn]; simp), if_pos (Or.inr hc)]
      rw [e1]
      clear e1 hdn HCN
      go_enter Try.func22, Try.ntmps22
      go_wp2_with fail
      refine (HD.out).mono ?_
      rintro e w1 ⟨rfl, hk1⟩
      obtain ⟨c0, c1, c2, c3, c4, c5, c6, c7⟩ := HC.out _ hk1
      go_wp2_with fail
      go_ret
      exact ⟨rfl, v, h.keep hk1, FlMv.of hk1⟩
    · obtain ⟨b1, b2, b3, b4, b5⟩ := reg_bd hR hc1 hc
      have E7 : (∃ x ∈ d.row, inReg s region x) → eraseD p s r d region = (d, 7) := by
        intro hx
        unfold eraseD
        rw [if_neg (by rw [hdn]; simp), if_neg (by omega), if_pos hx]
      have E0 : (¬ ∃ x ∈ d.row, inReg s region x) → eraseD p s r d region = if (countD d).2 = true then ({ (countD d).1 with row := (countD d).1.row ++ newRows p (region * s) s.toNat }, 6)
          else ({ (countD d).1 with img := doAll p (countD d).1.img (newRows p (region * s) s.toNat) }, 0) := by
        intro hx
        unfold eraseD
        rw [if_neg (by rw [hdn]; simp), if_neg (by omega), if_neg hx]
      obtain ⟨si, sr⟩ := countD_same d
      have hlen := ok.len
      unfold CountPost at HCN
      generalize countD d = cd at *
      obtain ⟨c, cb⟩ := cd
      generalize eraseD p s r d region = er at *
      have H7 := Lib.hid E7
      have H0 := Lib.hid E0
      have HSI := Lib.hid si
      have HSR := Lib.hid sr
      have HLN := Lib.hid hlen
      have HRW := Lib.hid h.rows
      clear E7 E0 hdn si sr hlen ok
      have q1 : IntKind.i64.wrap (region * s) = region * s := IntWalk.i64_in _ (by omega)
      have q2 : IntKind.i64.wrap (region * s + s) = region * s + s := IntWalk.i64_in _ (by omega)
      have hINR : ∀ x : Int × ByteArray, inReg s region x ↔ region * s ≤ x.1 ∧ x.1 < region * s + s := fun x => Iff.rfl
      have HIN := Lib.hid hINR
      clear hINR
      generalize hfr : region * s = fr at *
      have q3 : IntKind.i64.wrap (region * s) = fr := by rw [hfr]; exact q1
      have HFR := Lib.hid hfr
      clear hfr
      obtain ⟨A, cc, hv, -⟩ := HRW.out
      have HV := Lib.hid hv
      go_enter Try.func22, Try.ntmps22
      go_wp2_with fail
      refine (HD.out).mono ?_
      rintro e w1 ⟨rfl, hk1⟩
      obtain ⟨c0, c1, c2, c3, c4, c5, c6, c7⟩ := HC.out _ hk1
      have HRO := Lib.hid (fun W' (k : Kp w1 W') => (h.keep (hk1.trans k)).rows)
      rw [hv] at c4
      clear hv HRW
      go_wp2_with fail
      go_loopw [37] (fun i wr => ∃ k : Nat, k ≤ d.row.length ∧ i = .int .i64 k ∧ Kp w1 wr ∧ ∀ j (hj : j < d.row.length), j < k → ¬ inReg s region d.row[j]) (fun i _ => d.row.length - (intOf i).toNat)
      case atStart => exact ⟨0, by omega, rfl, Kp.refl _, fun j hj h0 => absurd h0 (by omega)⟩
      case round =>
        obtain ⟨k, hk, rfl, hkr, hno⟩ := hrel
        have HNO := Lib.hid hno
        clear hno c0 c1 c2 c3 c4 c5 c6 c7
        have HC1 := Lib.hid (fun W' (k : Kp w1 W') => HC.out _ (hk1.trans k))
        by_cases hlt : k < d.row.length
        · obtain ⟨A', cc', hv', hrw⟩ := HRO.out _ hkr
          have hAA : A' = A := by rw [HV.out] at hv'; injection hv' with e1; exact e1.symm
          subst hAA
          obtain ⟨q, hq, e1, e2⟩ := hrw k hlt
          subst hq
          clear hv' hrw
          have hin := HIN.out d.row[k]
          have hmem := List.getElem_mem hlt
          have HME := Lib.hid hmem
          clear hmem
          generalize hx : d.row[k] = x at *
          obtain ⟨pg, bb⟩ := x
          have HX := Lib.hid hx
          clear hx
          dsimp only at e1 e2 hin
          have hNB := Bk.new wr 67 [.int .i64 pg, .string bb]
          have HNB := Lib.hid (fun W' (kk : Kp (wr.alloc (.cells #[.int .i64 pg, .string bb] 67)) W') => And.intro ((hNB.keep kk).cell 0) (HC1.out _ ((hkr.trans (Kp.one _ _)).trans kk)))
          clear hNB
          have dl : (k : Int) < (d.row.length : Int) := by omega
          have hcs : (pg < fr) ∨ (fr ≤ pg ∧ fr + s ≤ pg) ∨ (fr ≤ pg ∧ pg < fr + s) := by omega
          rcases hcs with hq1 | ⟨hq1, hq2⟩ | ⟨hq1, hq2⟩
          · have d1 : decide (fr ≤ pg) = false := by simp; omega
            have HNI : Hid (¬ inReg s region (pg, bb)) := Lib.hid (fun hh => by have := hin.1 hh; omega)
            clear hin
            go_wp2_with fail
            have hInh := fun (x v : Value) => (⟨fun h => h _ ((Kp.refl _).drew), fun h _ _ => h⟩ : (∀ Wz9, (fun W' => Kp (wr.alloc (.cells #[.int .i64 pg, .string bb] 67)) W') Wz9 → x = v) ↔ x = v)
            dsimp only at hInh
            refine wp_region_quietC (C := fun W' => Kp (wr.alloc (.cells #[.int .i64 pg, .string bb] 67)) W') (by kernel_rfl) (by kernel_rfl) ((Kp.refl _).drew) ?_
            repeat (first | go_big_quiet_step ((intro hW; first | fail | (with_reducible rfl) | (obtain ⟨n0, c0, c1, c2, c3, c4, c5, c6, c7⟩ := HNB.out _ hW; (try go_simp); first | done | with_reducible rfl | exact ⟨rfl, rfl⟩))) | quiet_step ((intro hW; first | fail | (with_reducible rfl) | (obtain ⟨n0, c0, c1, c2, c3, c4, c5, c6, c7⟩ := HNB.out _ hW; (try go_simp); first | done | with_reducible rfl | exact ⟨rfl, rfl⟩))))
            refine wpQuiet_nil ?_
            intro wq hwq
            clear hInh
            go_wp2_with fail
            go_roundw
            case rel => exact ⟨k + 1, by omega, by go_num, (hkr.trans (Kp.one _ _)).trans hwq, fun j hj hjk => by
              rcases Nat.lt_or_ge j k with h9 | h9
              · exact HNO.out j hj h9
              · have : j = k := by omega
                subst this
                rw [HX.out]
                exact HNI.out⟩
            case measure => simp [intOf]; omega
          · have d1 : decide (fr ≤ pg) = true := by simpa using hq1
            have d2 : decide (pg < fr + s) = false := by simp; omega
            have HNI : Hid (¬ inReg s region (pg, bb)) := Lib.hid (fun hh => by have := hin.1 hh; omega)
            clear hin
            go_wp2_with fail
            have hInh := fun (x v : Value) => (⟨fun h => h _ ((Kp.refl _).drew), fun h _ _ => h⟩ : (∀ Wz9, (fun W' => Kp (wr.alloc (.cells #[.int .i64 pg, .string bb] 67)) W') Wz9 → x = v) ↔ x = v)
            dsimp only at hInh
            refine wp_region_quietC (C := fun W' => Kp (wr.alloc (.cells #[.int .i64 pg, .string bb] 67)) W') (by kernel_rfl) (by kernel_rfl) ((Kp.refl _).drew) ?_
            repeat (first | go_big_quiet_step ((intro hW; first | fail | (with_reducible rfl) | (obtain ⟨n0, c0, c1, c2, c3, c4, c5, c6, c7⟩ := HNB.out _ hW; (try go_simp); first | done | with_reducible rfl | exact ⟨rfl, rfl⟩))) | quiet_step ((intro hW; first | fail | (with_reducible rfl) | (obtain ⟨n0, c0, c1, c2, c3, c4, c5, c6, c7⟩ := HNB.out _ hW; (try go_simp); first | done | with_reducible rfl | exact ⟨rfl, rfl⟩))))
            refine wpQuiet_nil ?_
            intro wq hwq
            clear hInh
            go_wp2_with fail
            go_roundw
            case rel => exact ⟨k + 1, by omega, by go_num, (hkr.trans (Kp.one _ _)).trans hwq, fun j hj hjk => by
              rcases Nat.lt_or_ge j k with h9 | h9
              · exact HNO.out j hj h9
              · have : j = k := by omega
                subst this
                rw [HX.out]
                exact HNI.out⟩
            case measure => simp [intOf]; omega
          · have d1 : decide (fr ≤ pg) = true := by simpa using hq1
            have d2 : decide (pg < fr + s) = true := by simpa using hq2
            have HYI : Hid (inReg s region (pg, bb)) := Lib.hid (hin.2 ⟨hq1, hq2⟩)
            clear hin
            go_wp2_with fail
            have hInh := fun (x v : Value) => (⟨fun h => h _ ((Kp.refl _).drew), fun h _ _ => h⟩ : (∀ Wz9, (fun W' => Kp (wr.alloc (.cells #[.int .i64 pg, .string bb] 67)) W') Wz9 → x = v) ↔ x = v)
            dsimp only at hInh
            refine wp_region_quietC (C := fun W' => Kp (wr.alloc (.cells #[.int .i64 pg, .string bb] 67)) W') (by kernel_rfl) (by kernel_rfl) ((Kp.refl _).drew) ?_
            repeat (first | go_big_quiet_step ((intro hW; first | fail | (with_reducible rfl) | (obtain ⟨n0, c0, c1, c2, c3, c4, c5, c6, c7⟩ := HNB.out _ hW; (try go_simp); first | done | with_reducible rfl | exact ⟨rfl, rfl⟩))) | quiet_step ((intro hW; first | fail | (with_reducible rfl) | (obtain ⟨n0, c0, c1, c2, c3, c4, c5, c6, c7⟩ := HNB.out _ hW; (try go_simp); first | done | with_reducible rfl | exact ⟨rfl, rfl⟩))))
            refine wpQuiet_nil ?_
            intro wq hwq
            clear hInh
            go_wp2_with fail
            go_ret
            have hkf := hk1.trans ((hkr.trans (Kp.one _ _)).trans hwq)
            rw [H7.out ⟨_, HME.out, HYI.out⟩]
            exact ⟨rfl, v, h.keep hkf, FlMv.of hkf⟩
        · have hno : ¬ ∃ x ∈ d.row, inReg s region x := by
            rintro ⟨x, hx, hin⟩
            obtain ⟨j, hj, rfl⟩ := List.mem_iff_getElem.1 hx
            exact HNO.out j hj (by omega) hin
          have HE := Lib.hid (H0.out hno)
          clear hno H0 H7 HNO HIN
          have hK := hk1.trans hkr
          have hp0 : 0 ≤ p := by have := hR; unfold RightG at this; omega
          go_wp2_with fail
          refine (HCN.out _ hK).mono ?_
          rintro e w2 ⟨rfl, hf2, hm2⟩
          have hM2 := (FlMv.of (v := v) (g := g) (ib := ib) hK).trans hm2
          obtain ⟨c0, c1, c2, c3, c4, c5, c6, c7⟩ := hf2.c8
          clear hm2 HCN HC HC1 HRO HD hk1 hkr
          rcases cb with _ | _
          · rw [if_neg (by simp)] at HE
            go_wp2_with fail
            go_loopw [65] (fun i wr => ∃ k : Nat, (k : Int) ≤ s ∧ i = .int .i64 k ∧ FlAt wr g ib ic p s r { c with img := doAll p c.img (newRows p fr k) } v ∧ FlMv W wr g ib v v) (fun i _ => s.toNat - (intOf i).toNat)
            case atStart => exact ⟨0, by omega, rfl, hf2, hM2⟩
            case round =>
              obtain ⟨k, hk, rfl, hfr, hMr⟩ := hrel
              clear hf2 hM2 c0 c1 c2 c3 c4 c5 c6 c7 hK hlt
              by_cases hlt : (k : Int) < s
              · have HBL := Lib.hid (fblank hfr hR)
                have hl2 : ((doAll p c.img (newRows p fr k)).length : Int) = p * s * r := by
                  rw [doAll_len hR _ _ (by rw [HSI.out]; exact HLN.out) (newRows_mem hp0 (by omega) (by omega)), HSI.out]
                  exact HLN.out
                have hbsz : ((blankS p).size : Int) ≤ p := by rw [blankS_size]; omega
                have HDO := Lib.hid (fun W' (kk : Kp wr W') => fdo (hfr.keep kk) hR hl2 (fr + (k : Int)) (by omega) (by omega) (blankS p) hbsz)
                have HMQ := Lib.hid (fun W' (kk : Kp wr W') => hMr.trans (FlMv.of (v := v) (g := g) (ib := ib) kk))
                have HST : Hid (doAll p c.img (newRows p fr (k + 1)) = doD p (doAll p c.img (newRows p fr k)) (fr + (k : Int)) (blankS p)) := Lib.hid (by rw [newRows_succ, doAll_app])
                have q9 : IntKind.i64.wrap (fr + (k : Int)) = fr + (k : Int) := IntWalk.i64_in _ (by omega)
                clear hl2 hbsz
                generalize blankS p = bl at *
                go_wp2_with fail
                refine (HBL.out).mono ?_
                rintro e w5 ⟨rfl, hk5⟩
                go_wp2_with fail
                refine (HDO.out _ hk5).mono ?_
                rintro e w6 ⟨rfl, hf6, hm6⟩
                have hM6 := (HMQ.out _ hk5).trans hm6
                go_wp2_with fail
                go_roundw
                case rel => exact ⟨k + 1, by omega, by go_num, by rw [HST.out]; exact hf6, hM6⟩
                case measure => simp [intOf]; omega
              · have hke : k = s.toNat := by omega
                subst hke
                go_wp2_with fail
                go_ret
                rw [HE.out]
                exact ⟨rfl, _, hfr, hMr⟩
          · rw [if_pos rfl] at HE
            go_wp2_with fail
            go_loopw [65] (fun i wr => ∃ (k : Nat) (v' : Value), (k : Int) ≤ s ∧ i = .int .i64 k ∧ FlAt wr g ib ic p s r { c with row := c.row ++ newRows p fr k } v' ∧ FlMv W wr g ib v v') (fun i _ => s.toNat - (intOf i).toNat)
            case atStart => exact ⟨0, v, by omega, rfl, by rw [show newRows p fr 0 = [] from rfl, List.append_nil]; exact hf2, hM2⟩
            case round =>
              obtain ⟨k, v', hk, rfl, hfr, hMr⟩ := hrel
              clear hf2 hM2 c0 c1 c2 c3 c4 c5 c6 c7 hK hlt
              by_cases hlt : (k : Int) < s
              · have HBL := Lib.hid (fun W' (kk : Kp wr W') => fblank (hfr.keep kk) hR)
                have HCR := Lib.hid (fun W' (kk : Kp wr W') => (hfr.keep kk).c8)
                have HOW := Lib.hid (fun W' (kk : Kp wr W') => (hfr.keep kk).own)
                have hnl : (c.row ++ newRows p fr k).length ≤ 100010 := by rw [List.length_append, newRows_len, HSR.out]; omega
                have HNL := Lib.hid hnl
                have HPU := Lib.hid (fun W' (kk : Kp wr W') w' v9 a1 a2 a3 => hfr.push kk (x := (fr + (k : Int), blankS p)) (w' := w') (v' := v9) a1 a2 a3)
                have HST : Hid ((c.row ++ newRows p fr k) ++ [(fr + (k : Int), blankS p)] = c.row ++ newRows p fr (k + 1)) := Lib.hid (by rw [newRows_succ, List.append_assoc])
                have q9 : IntKind.i64.wrap (fr + (k : Int)) = fr + (k : Int) := IntWalk.i64_in _ (by omega)
                have hp1 := hR
                clear hnl
                generalize blankS p = bl at *
                go_wp2_with fail
                refine wp_region_relF (R := Kp) (C := fun W' => Kp wr W') 12 rfl rfl rfl (by kernel_rfl) (by kernel_rfl) (fun _ _ _ h => h) (Kp.refl wr).drew (fun _ _ h k => h.trans k) Kp.refl (fun _ _ _ h k => h.trans k) ?_
                simp only [List.take_succ_cons, List.take_zero, List.drop_succ_cons, List.drop_zero]
                repeat (refine wpRel_step (fun K hK => ?_); apply rel_eq; (case ob => (intro f W hW hd; (obtain ⟨c0, c1, c2, c3, c4, c5, c6, c7⟩ := HCR.out _ hW); (try simp [deps, factOf, Region.binds] at hd); unfold relOp; go_simp; (first | exact ⟨Kp.refl _, rfl⟩ | exact Kp.refl _ | (refine ⟨Kp.refl _, ?_⟩; (go_at_call 38; refine (HBL.out _ hW).mono ?_; rintro e w' ⟨rfl, hk9⟩; exact ⟨rfl, hk9⟩))))); go_simp; refine hK _ _ ?_; clear hK K)
                refine wpRel_step (fun K hK => ?_)
                apply rel_fact (fun v W => ∃ q, v = .slice (some ⟨q, 0, none⟩) 1 1 ∧ Bk W q 67 [.int .i64 (fr + (k : Int)), .string bl]) (fun v W W' hr ⟨q, h1, h2⟩ => ⟨q, h1, h2.keep hr⟩)
                case ob =>
                  intro f W hW hd
                  skip
                  (try simp [deps, factOf, Region.binds] at hd)
                  unfold relOp
                  go_simp
                  exact ⟨Kp.one _ _, Bk.new _ _ _⟩
                go_simp
                refine hK _ _ ?_
                clear hK K
                refine wpRel_nil ?_
                intro f W' hW hall
                have h69 : f 0 = .pointer (some ⟨g, 0, none⟩) := allF_get hall 0 _ rfl
                have h73 : f 4 = v' := allF_get hall 4 _ rfl
                obtain ⟨q, h80, hq⟩ := allF_get hall 11 _ rfl
                clear hall
                dsimp only
                rw [h69, h73, h80]
                have hown3 := HOW.out _ hW
                have hnl := HNL.out
                refine wpList_app0 rfl _ _ _ rfl (.agg #[.int .i64 0, .string ⟨#[]⟩]) 24 Try.underlying63 info_write rfl (by decide) (by decide) rfl hown3 (some ⟨q, 0, none⟩) 1 1 [.int .i64 (fr + (k : Int)), .string bl] rfl rfl (src_bk hq) (by simp [Value.oneCell']) (by omega) ?_
                intro v1 w4 hown1 hg1 hat1
                obtain ⟨A1, c1, rfl⟩ := own_slice hown1
                obtain ⟨z1, z2, z3, z4⟩ := HPU.out _ hW w4 _ hown1 hg1 hat1
                have f4 := z1 4
                rw [HST.out] at z3
                have hll : (c.row ++ newRows p fr k).length = c.row.length + (newRows p fr k).length := List.length_append
                rw [hll] at z3 z4
                have hM9 := Lib.hid (hMr.trans z4)
                have HZ3 := Lib.hid z3
                clear hll z1 z3 z4 hg1 hat1 hown1 hown3 hnl HPU HST HNL HOW HCR HBL
                go_wp2_with fail
                go_roundw
                case rel => exact ⟨k + 1, _, by omega, by go_num, HZ3.out, hM9.out⟩
                case measure => simp [intOf]; omega
              · have hke : k = s.toNat := by omega
                subst hke
                go_wp2_with fail
                go_ret
                rw [HE.out]
                exact ⟨rfl, _, hfr, hMr⟩
  · rw [hdn] at HD
    have e1 : eraseD p s r d region = (d, 6) := by unfold eraseD; rw [if_pos hdn]
    rw [e1]
    clear e1 hdn HCN
    go_enter Try.func22, Try.ntmps22
    go_wp2_with fail
    refine (HD.out).mono ?_
    rintro e w1 ⟨rfl, hk1⟩
    go_wp2_with fail
    go_ret
    exact ⟨rfl, v, h.keep hk1, FlMv.of hk1⟩
end
end Go.Proofs.Ytbclmnlggngepaa
