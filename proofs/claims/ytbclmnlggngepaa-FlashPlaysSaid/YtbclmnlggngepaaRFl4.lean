/- The contracts of the reference's device: Crash, Rot. -/
import Derived.Test.YtbclmnlggngepaaRFl3
namespace Go.Proofs.Ytbclmnlggngepaa
open Go.RowKit
set_option linter.unusedVariables false

theorem crK_stay (p : Int) (img : List Nat) (row : Rw) (mask : List Int) (k : Nat) (h : mask.length ≤ k) : ∀ j, crK p img row mask (k + j) = crK p img row mask k
  | 0 => rfl
  | j + 1 => by
    rw [← Nat.add_assoc, crK]
    have e : mask.getD (k + j) 0 = 0 := by rw [List.getD_eq_getElem?_getD, List.getElem?_eq_none (by omega)]; rfl
    rw [e]
    split
    · rw [crOne, if_pos (by omega)]
      exact crK_stay p img row mask k h j
    · exact crK_stay p img row mask k h j
theorem tornK_nat {p m : Int} (hp : 32 ≤ p) (hm : 2 ≤ m) : ((tornK p m).toNat : Int) = 1 + (m - 2).tmod (p - 1) := by
  obtain ⟨t1, t2, t3⟩ := tornK_bd (p := p) (m := m) hp hm
  omega
section
variable {W : World} {g ib ic : Nat} {p s r : Int} {d : Dev} {v : Value}
set_option maxRecDepth 20000 in
set_option maxHeartbeats 6400000 in
theorem rcrash (h : RfX W g ib ic p s r d v) (ok : DevOk p s r d) (A : Option Addr) (cM : Nat) (mask : List Int) (hM : NumsAt .i64 W A mask) (hA : 0 < mask.length → ∀ q, A = some q → q.block ∉ foot g ib v) (hmw : ∀ x ∈ mask, -9223372036854775808 ≤ x ∧ x ≤ 9223372036854775807) :
    Calls Try.prog 44 #[.pointer (some ⟨g, 0, none⟩), .slice A mask.length cM] W fun e w' => e = .returned (.tuple #[]) ∧ ∃ v', RfX w' g ib ic p s r (crashD p d mask) v' ∧ FlMv W w' g ib v v' := by
  have hrl := ok.rl
  have hR := ok.right
  have hml := hM.1
  have HLN := Lib.hid ok.len
  have HRS := Lib.hid ok.rows
  have hp32 : 32 ≤ p ∧ p ≤ 128 := by have := ok.right; unfold RightG at this; omega
  clear ok
  obtain ⟨c0, c1, c2, c3, c4, c5, c6, c7⟩ := h.c8
  obtain ⟨B, cc, hv, -⟩ := h.rows
  have HV := Lib.hid hv
  rw [hv] at c4
  clear hv
  have HM := Lib.hid (fun W' (k : FlMv W W' g ib v v) => hM.mv k.1 hA)
  have HMW := Lib.hid hmw
  clear hM hA hmw
  go_enter Try.func44, Try.ntmps44
  go_wp2_with fail
  go_loopw [4] (fun i wr => ∃ k : Nat, k ≤ d.row.length ∧ k ≤ mask.length ∧ i = .int .i64 k ∧ RfX wr g ib ic p s r { d with img := crK p d.img d.row mask k } v ∧ FlMv W wr g ib v v) (fun i _ => d.row.length - (intOf i).toNat)
  case atStart => exact ⟨0, by omega, by omega, rfl, h, FlMv.refl _ _ _ _⟩
  case round =>
    obtain ⟨k, hk, hk2, rfl, hfr, hMr⟩ := hrel
    clear h c0 c1 c2 c3 c4 c5 c6 c7
    obtain ⟨c0, c1, c2, c3, c4, c5, c6, c7⟩ := hfr.c8
    rw [HV.out] at c4
    by_cases hgo : k < d.row.length ∧ k < mask.length
    · obtain ⟨hlt, hmk⟩ := hgo
      obtain ⟨A', cc', hv', hrw⟩ := hfr.rows
      have hAA : A' = B := by rw [HV.out] at hv'; injection hv' with e1; exact e1.symm
      subst hAA
      obtain ⟨q, hq, e1, e2⟩ := hrw k hlt
      have hmem := HRS.out d.row[k] (List.getElem_mem hlt)
      have hl2 : ((crK p d.img d.row mask k).length : Int) = p * s * r := by
        rw [crK_len hR _ _ _ HLN.out HRS.out]
        exact HLN.out
      subst hq
      clear hv' hrw
      have HST := Lib.hid (crK_step p d.img d.row mask k hlt)
      have hgd : mask.getD k 0 = mask[k] := by rw [List.getD_eq_getElem?_getD, List.getElem?_eq_getElem hmk]; rfl
      rw [hgd] at HST
      clear hgd
      have HMO := Lib.hid (fun W' (kk : Kp wr W') => hMr.trans (FlMv.of (v := v) (g := g) (ib := ib) kk))
      have dl : decide ((k : Int) < (d.row.length : Int)) = true := by simp; omega
      have dm : decide ((k : Int) < (mask.length : Int)) = true := by simp; omega
      have hkl : (k : Int) < (mask.length : Int) := by omega
      have hkd : (k : Int) < (d.row.length : Int) := by omega
      have HME := Lib.hid hmem
      clear hmem
      generalize hx : d.row[k] = x at *
      obtain ⟨pg, bb⟩ := x
      clear hx
      have hbbs : bb.size ≤ 9223372036854775807 := by have := HME.out.2.2; dsimp only at this; omega
      have HBS := Lib.hid hbbs
      have HDO := Lib.hid (fun W' (kk : Kp wr W') n hn hp => rdone (hfr.keep kk) hR hl2 pg HME.out.1 HME.out.2.1 bb n hn hp HBS.out)
      have HDA := Lib.hid (fun W' (kk : Kp wr W') => rdoneA (hfr.keep kk) hR hl2 pg HME.out.1 HME.out.2.1 bb HME.out.2.2)
      clear hl2 hbbs
      dsimp only at e1 e2
      have HE := Lib.hid (fun W' (kk : Kp wr W') => (And.intro (kk.cell e1) (kk.cell e2)))
      have HCR := Lib.hid (fun W' (kk : Kp wr W') => (hfr.keep kk).c8)
      have HMB := Lib.hid (HMW.out _ (List.getElem_mem hmk))
      obtain ⟨mb, mo, rfl, hmc⟩ := (HM.out _ hMr).2 (by omega)
      have hmk1 := hmc k hmk
      have HMK := Lib.hid (fun W' (kk : Kp wr W') => kk.cell hmk1)
      clear hmc
      generalize mask[k] = m at *
      have hcases : m < 1 ∨ m = 1 ∨ 2 ≤ m := by omega
      rcases hcases with hm | hm | hm
      · have e3 : crOne p (crK p d.img d.row mask k) (pg, bb) m = crK p d.img d.row mask k := if_pos hm
        rw [e3] at HST
        have d2 : (m == 1) = false := by simp; omega
        have d3 : decide (1 < m) = false := by simp; omega
        clear e3
        go_wp2_with fail
        go_roundw
        case rel => exact ⟨k + 1, by omega, by omega, by go_num, by rw [HST.out]; exact hfr, hMr⟩
        case measure => simp [intOf]; omega
      · subst hm
        have e3 : crOne p (crK p d.img d.row mask k) (pg, bb) 1 = doD p (crK p d.img d.row mask k) pg bb := by unfold crOne; rw [if_neg (by omega), if_pos rfl]
        rw [e3] at HST
        clear e3
        go_wp2_with fail
        refine wp_region_relH (R := Kp) (C := fun W' => Kp wr W') 13 (by kernel_rfl) (by kernel_rfl) (Kp.refl wr).drew (fun _ _ h k => h.trans k) Kp.refl (fun _ _ _ h k => h.trans k) ?_
        simp only [List.take_succ_cons, List.take_zero, List.drop_succ_cons, List.drop_zero]
        clear c0 c1 c2 c3 c4 c5 c6 c7 e1 e2 hmk1
        repeat (refine wpRel_step (fun K hK => ?_); apply rel_eq; (case ob => (intro f W hW hd; (obtain ⟨c0, c1, c2, c3, c4, c5, c6, c7⟩ := HCR.out _ hW; rw [HV.out] at c4; obtain ⟨e1, e2⟩ := HE.out _ hW); (try simp [deps, factOf, Region.binds] at hd); unfold relOp; go_simp; (first | exact ⟨Kp.refl _, rfl⟩ | exact Kp.refl _ | (refine ⟨Kp.refl _, ?_⟩; fail)))); go_simp; refine hK _ _ ?_; clear hK K)
        refine wpRel_nil ?_
        intro f W' hW hall
        have h0 : f 0 = .pointer (some ⟨g, 0, none⟩) := allF_get hall 0 _ rfl
        have h7 : f 7 = .agg #[.int .i64 pg, .string bb] := allF_get hall 7 _ rfl
        have h12 : f 12 = .int .i64 p := allF_get hall 12 _ rfl
        clear hall
        dsimp only
        rw [h0, h7, h12]
        have HD5 := Lib.hid (HDA.out _ hW)
        have HM5 := Lib.hid (HMO.out _ hW)
        clear h0 h7 h12 HDO HDA HCR HE HMK
        go_wp2_with fail
        refine (HD5.out).mono ?_
        rintro e w5 ⟨rfl, hf5, hm5⟩
        have hM6 := HM5.out.trans hm5
        go_wp2_with fail
        go_roundw
        case rel => exact ⟨k + 1, by omega, by omega, by go_num, by rw [HST.out]; exact hf5, hM6⟩
        case measure => simp [intOf]; omega
      · obtain ⟨t1, t2, t3⟩ := tornK_bd (p := p) (m := m) hp32.1 hm
        have htn := tornK_nat (p := p) (m := m) hp32.1 hm
        have e3 : crOne p (crK p d.img d.row mask k) (pg, bb) m = doD p (crK p d.img d.row mask k) pg (bb.extract 0 (tornK p m).toNat) := by unfold crOne; rw [if_neg (by omega), if_neg (by omega)]
        rw [e3] at HST
        have hbs : (bb.size : Int) = p := HME.out.2.2
        have hm9 := HMB.out
        have HDT := Lib.hid (fun W' (kk : Kp wr W') => HDO.out W' kk (tornK p m).toNat (by omega) (by omega))
        rw [htn] at HDT
        rw [t3] at t1 t2
        have d2 : (m == 1) = false := by simp; omega
        have d3 : decide (1 < m) = true := by simp; omega
        have q1 : IntKind.i64.wrap (m - 2) = m - 2 := IntWalk.i64_in _ (by omega)
        have q2 : IntKind.i64.wrap (p - 1) = p - 1 := IntWalk.i64_in _ (by omega)
        have q3 : IntKind.i64.wrap ((m - 2).tmod (p - 1)) = (m - 2).tmod (p - 1) := IntWalk.i64_in _ (by omega)
        have q4 : IntKind.i64.wrap (1 + (m - 2).tmod (p - 1)) = 1 + (m - 2).tmod (p - 1) := IntWalk.i64_in _ (by omega)
        have hp0 : (p - 1 == 0) = false := by simp; omega
        have hp1 : ¬ (p - 1 = 0) := by omega
        have hp2 : ¬ (p = 1) := by omega
        clear e3 t3 htn hbs hm9 t1 t2
        go_wp2_with fail
        refine wp_region_relH (R := Kp) (C := fun W' => Kp wr W') 21 (by kernel_rfl) (by kernel_rfl) (Kp.refl wr).drew (fun _ _ h k => h.trans k) Kp.refl (fun _ _ _ h k => h.trans k) ?_
        simp only [List.take_succ_cons, List.take_zero, List.drop_succ_cons, List.drop_zero]
        clear c0 c1 c2 c3 c4 c5 c6 c7 e1 e2 hmk1
        repeat (refine wpRel_step (fun K hK => ?_); apply rel_eq; (case ob => (intro f W hW hd; (obtain ⟨c0, c1, c2, c3, c4, c5, c6, c7⟩ := HCR.out _ hW; rw [HV.out] at c4; obtain ⟨e1, e2⟩ := HE.out _ hW; have m1 := HMK.out _ hW); (try simp [deps, factOf, Region.binds] at hd); unfold relOp; go_simp; (first | exact ⟨Kp.refl _, rfl⟩ | exact Kp.refl _ | (refine ⟨Kp.refl _, ?_⟩; fail)))); go_simp; refine hK _ _ ?_; clear hK K)
        refine wpRel_nil ?_
        intro f W' hW hall
        have h0 : f 0 = .pointer (some ⟨g, 0, none⟩) := allF_get hall 0 _ rfl
        have h7 : f 7 = .agg #[.int .i64 pg, .string bb] := allF_get hall 7 _ rfl
        have h20 : f 20 = .int .i64 (1 + (m - 2).tmod (p - 1)) := allF_get hall 20 _ rfl
        clear hall
        dsimp only
        rw [h0, h7, h20]
        have HD5 := Lib.hid (HDT.out _ hW)
        have HM5 := Lib.hid (HMO.out _ hW)
        clear h0 h7 h20 HDO HDA HDT HCR HE HMK q1 q2 q3 q4
        generalize (1 + (m - 2).tmod (p - 1)) = nn at *
        go_wp2_with fail
        refine (HD5.out).mono ?_
        rintro e w5 ⟨rfl, hf5, hm5⟩
        have hM6 := HM5.out.trans hm5
        go_wp2_with fail
        go_roundw
        case rel => exact ⟨k + 1, by omega, by omega, by go_num, by rw [HST.out]; exact hf5, hM6⟩
        case measure => simp [intOf]; omega
    · have hend : crK p d.img d.row mask d.row.length = crK p d.img d.row mask k := by
        by_cases hke : k = d.row.length
        · rw [hke]
        · have := crK_stay p d.img d.row mask k (by omega) (d.row.length - k)
          rw [show k + (d.row.length - k) = d.row.length by omega] at this
          exact this
      have HEND := Lib.hid hend
      clear hend
      have f4 := hfr.fr 4
      have f5 := hfr.fr 5
      have f7 := hfr.fr 7
      have HF := Lib.hid hfr.setUp
      by_cases hke : k < d.row.length
      · have dl : decide ((k : Int) < (d.row.length : Int)) = true := by simp; omega
        have dm : decide ((k : Int) < (mask.length : Int)) = false := by simp; omega
        go_wp2_with fail
        exact bodyPost_end (v := .tuple #[]) (by simp [results, Try.results44]) rfl ⟨rfl, _, by unfold crashD; rw [HEND.out]; exact HF.out, hMr.setUp2⟩
      · have dl : decide ((k : Int) < (d.row.length : Int)) = false := by simp; omega
        go_wp2_with fail
        exact bodyPost_end (v := .tuple #[]) (by simp [results, Try.results44]) rfl ⟨rfl, _, by unfold crashD; rw [HEND.out]; exact HF.out, hMr.setUp2⟩
def RRotPost (W : World) (g ib ic : Nat) (p s r : Int) (v : Value) (dc : Dev × Int) (e : Ending) (w' : World) : Prop := e = .returned (.int .i64 dc.2) ∧ RfX w' g ib ic p s r dc.1 v ∧ FlMv W w' g ib v v
set_option maxRecDepth 20000 in
set_option maxHeartbeats 1600000 in
theorem rrot (h : RfX W g ib ic p s r d v) (ok : DevOk p s r d) (page a x : Int) (hx : 0 ≤ x ∧ x ≤ 255) (ha9 : a ≤ 9223372036854775807) :
    Calls Try.prog 46 #[.pointer (some ⟨g, 0, none⟩), .int .i64 page, .int .i64 a, .int .u8 x] W (RRotPost W g ib ic p s r v (rotD p s r d page a x)) := by
  have HPP := Lib.hid (rpages h ok.right)
  have HC := Lib.hid (fun W' (k : Kp W W') => (h.keep k).c8)
  obtain ⟨r1, r2, r3, r4, r5, r6⟩ := id ok.right
  have hcases : page < 0 ∨ (0 ≤ page ∧ s * r ≤ page) ∨ (0 ≤ page ∧ page < s * r ∧ a < 0) ∨ (0 ≤ page ∧ page < s * r ∧ 0 ≤ a ∧ p ≤ a) ∨ (0 ≤ page ∧ page < s * r ∧ 0 ≤ a ∧ a < p) := by omega
  rcases hcases with hc | ⟨hc1, hc⟩ | ⟨hc1, hc2, hc⟩ | ⟨hc1, hc2, hc3, hc⟩ | ⟨hc1, hc2, hc3, hc⟩
  · have e1 : rotD p s r d page a x = (d, 1) := if_pos (Or.inl hc)
    rw [e1]
    clear e1
    go_enter Try.func46, Try.ntmps46
    go_wp2_with fail
    go_ret
    exact ⟨rfl, h, FlMv.refl _ _ _ _⟩
  · have e1 : rotD p s r d page a x = (d, 1) := if_pos (Or.inr (Or.inl hc))
    have hd : decide (s * r ≤ page) = true := by simpa using hc
    rw [e1]
    clear e1
    go_enter Try.func46, Try.ntmps46
    go_wp2_with fail
    refine (HPP.out).mono ?_
    rintro e w1 ⟨rfl, hk1⟩
    go_wp2_with fail
    go_ret
    exact ⟨rfl, h.keep hk1, FlMv.of hk1⟩
  · have e1 : rotD p s r d page a x = (d, 1) := if_pos (Or.inr (Or.inr (Or.inl hc)))
    have hd : decide (s * r ≤ page) = false := by simp; omega
    rw [e1]
    clear e1
    go_enter Try.func46, Try.ntmps46
    go_wp2_with fail
    refine (HPP.out).mono ?_
    rintro e w1 ⟨rfl, hk1⟩
    go_wp2_with fail
    go_ret
    exact ⟨rfl, h.keep hk1, FlMv.of hk1⟩
  · have e1 : rotD p s r d page a x = (d, 1) := if_pos (Or.inr (Or.inr (Or.inr hc)))
    have hd : decide (s * r ≤ page) = false := by simp; omega
    have hd2 : decide (p ≤ a) = true := by simpa using hc
    rw [e1]
    clear e1
    go_enter Try.func46, Try.ntmps46
    go_wp2_with fail
    refine (HPP.out).mono ?_
    rintro e w1 ⟨rfl, hk1⟩
    obtain ⟨c0, c1, c2, c3, c4, c5, c6, c7⟩ := HC.out _ hk1
    go_wp2_with fail
    go_ret
    exact ⟨rfl, h.keep hk1, FlMv.of hk1⟩
  · obtain ⟨X, rfl⟩ : ∃ X : Nat, x = X := ⟨x.toNat, by omega⟩
    obtain ⟨b1, b2, b3, b4, b5⟩ := page_bd ok.right hc1 hc2
    have hlen := ok.len
    have ho : (page * p + a).toNat < d.img.length := by omega
    have e1 : rotD p s r d page a (X : Int) = ({ d with img := d.img.set (page * p + a).toNat (d.img.getD (page * p + a).toNat 0 ^^^ X) }, 0) := by unfold rotD; rw [if_neg (by omega), Int.toNat_natCast]
    have hd : decide (s * r ≤ page) = false := by simp; omega
    have hd2 : decide (p ≤ a) = false := by simp; omega
    have q1 : IntKind.i64.wrap (page * p) = page * p := IntWalk.i64_in _ (by omega)
    have q2 : IntKind.i64.wrap (page * p + a) = page * p + a := IntWalk.i64_in _ (by omega)
    have z1 : 0 ≤ page * p + a := by omega
    have z2 : page * p + a < (d.img.length : Int) := by omega
    have hby : d.img.getD (page * p + a).toNat 0 < 256 := by
      rw [List.getD_eq_getElem?_getD, List.getElem?_eq_getElem ho]
      exact ok.byt _ (List.getElem_mem ho)
    have HX := Lib.hid (u8_xor_nat _ _ hby (show X < 256 by omega))
    have HB := Lib.hid (fun W' (k : Kp W W') => (h.keep k).byte _ ho)
    rw [e1]
    clear e1 b3 hlen
    go_enter Try.func46, Try.ntmps46
    go_wp2_with fail
    refine (HPP.out).mono ?_
    rintro e w1 ⟨rfl, hk1⟩
    obtain ⟨c0, c1, c2, c3, c4, c5, c6, c7⟩ := HC.out _ hk1
    have HC1 := Lib.hid (fun W' (k : Kp w1 W') => HC.out _ (hk1.trans k))
    have HB1 := Lib.hid (fun W' (k : Kp w1 W') => HB.out _ (hk1.trans k))
    generalize hyy : d.img.getD (page * p + a).toNat 0 = y at *
    have HY := Lib.hid hyy
    clear hyy
    go_wp2_with fail
    refine wp_region_relH (R := Kp) (C := fun W' => Kp w1 W') 18 (by kernel_rfl) (by kernel_rfl) (Kp.refl w1).drew (fun _ _ h k => h.trans k) Kp.refl (fun _ _ _ h k => h.trans k) ?_
    simp only [List.take_succ_cons, List.take_zero, List.drop_succ_cons, List.drop_zero]
    clear c0 c1 c2 c3 c4 c5 c6 c7
    repeat (refine wpRel_step (fun K hK => ?_); apply rel_eq; (case ob => (intro f W hW hd; (obtain ⟨c0, c1, c2, c3, c4, c5, c6, c7⟩ := HC1.out _ hW; obtain ⟨y1, y2⟩ := HB1.out _ hW); (try simp [deps, factOf, Region.binds] at hd); unfold relOp; go_simp; (first | exact ⟨Kp.refl _, rfl⟩ | exact Kp.refl _ | (refine ⟨Kp.refl _, ?_⟩; fail)))); go_simp; refine hK _ _ ?_; clear hK K)
    refine wpRel_nil ?_
    intro f W' hW hall
    have h16 : f 16 = .int .u8 ((y ^^^ X : Nat) : Int) := (allF_get hall 16 _ rfl).trans (by rw [HX.out])
    have h17 : f 17 = .pointer (some ⟨ib, (page * p + a).toNat, none⟩) := allF_get hall 17 _ rfl
    clear hall HC HC1
    dsimp only
    rw [h16, h17]
    obtain ⟨y1, y2⟩ := HB1.out _ hW
    have hres := (h.keep (hk1.trans hW)).setImg1 (page * p + a).toNat (y ^^^ X) ho
    go_wp2_with fail
    go_ret
    exact ⟨rfl, hres, ⟨(Mv.of (hk1.trans hW)).set (by simp [foot]) _, fun k hk => Or.inl hk⟩⟩
end
end Go.Proofs.Ytbclmnlggngepaa
