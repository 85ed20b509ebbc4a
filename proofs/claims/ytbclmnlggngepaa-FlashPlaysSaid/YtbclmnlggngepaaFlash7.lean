/- The contracts of package flash: Crash. -/
import Derived.Test.YtbclmnlggngepaaFlash6
import Derived.Test.YtbclmnlggngepaaOpenN
namespace Go.Proofs.Ytbclmnlggngepaa
open Go.RowKit
set_option linter.unusedVariables false

/-- A torn page: so many of its first bytes. -/
def tornK (p m : Int) : Int := 1 + (m - 2) % (p - 1)
def crOne (p : Int) (img : List Nat) (x : Int × ByteArray) (m : Int) : List Nat :=
  if m < 1 then img else if m = 1 then doD p img x.1 x.2 else doD p img x.1 (x.2.extract 0 (tornK p m).toNat)
def crK (p : Int) (img : List Nat) (row : Rw) (mask : List Int) : Nat → List Nat
  | 0 => img
  | k + 1 => match row[k]? with | some x => crOne p (crK p img row mask k) x (mask.getD k 0) | none => crK p img row mask k
def crashD (p : Int) (d : Dev) (mask : List Int) : Dev := { d with img := crK p d.img d.row mask d.row.length, row := [], down := false, set := false }
theorem crK_step (p : Int) (img : List Nat) (row : Rw) (mask : List Int) (k : Nat) (h : k < row.length) : crK p img row mask (k + 1) = crOne p (crK p img row mask k) row[k] (mask.getD k 0) := by
  rw [crK, List.getElem?_eq_getElem h]
theorem extract_le (b : ByteArray) (n : Nat) : (b.extract 0 n).size ≤ b.size := by
  rw [ByteArray.size_extract]; omega
theorem nb_extract_lt (b : ByteArray) : ∀ n ∈ nb b, n < 256 := nb_lt b
theorem crOne_len {p s r : Int} {img : List Nat} {x : Int × ByteArray} (hR : RightG p s r) (hl : (img.length : Int) = p * s * r) (hx : 0 ≤ x.1 ∧ x.1 < s * r ∧ (x.2.size : Int) = p) (m : Int) : (crOne p img x m).length = img.length := by
  unfold crOne
  split
  · rfl
  · split
    · exact doD_len hR hl hx.1 hx.2.1 (by omega)
    · exact doD_len hR hl hx.1 hx.2.1 (by have := extract_le x.2 (tornK p m).toNat; omega)
theorem crK_len {p s r : Int} (hR : RightG p s r) (img : List Nat) (row : Rw) (mask : List Int) (hl : (img.length : Int) = p * s * r) (hr : ∀ x ∈ row, 0 ≤ x.1 ∧ x.1 < s * r ∧ (x.2.size : Int) = p) : ∀ k, (crK p img row mask k).length = img.length
  | 0 => rfl
  | k + 1 => by
    have ih := crK_len hR img row mask hl hr k
    rw [crK]
    by_cases h : k < row.length
    · rw [List.getElem?_eq_getElem h]
      show (crOne _ _ _ _).length = _
      rw [crOne_len hR (by rw [ih]; exact hl) (hr _ (List.getElem_mem h)), ih]
    · rw [List.getElem?_eq_none (by omega)]
      exact ih
theorem crOne_mem {p : Int} {img : List Nat} {x : Int × ByteArray} (m : Int) (h : ∀ n ∈ img, n < 256) : ∀ n ∈ crOne p img x m, n < 256 := by
  unfold crOne
  split
  · exact h
  · split
    · exact doD_mem h
    · exact doD_mem h
theorem crK_mem {p : Int} (img : List Nat) (row : Rw) (mask : List Int) (h : ∀ n ∈ img, n < 256) : ∀ k, ∀ n ∈ crK p img row mask k, n < 256
  | 0 => h
  | k + 1 => by
    have ih := crK_mem (p := p) img row mask h k
    rw [crK]
    split
    · exact crOne_mem _ ih
    · exact ih
theorem NumsAt.mv {S : List Nat} {w w' : World} {k : IntKind} {A : Option Addr} {xs : List Int} (h : NumsAt k w A xs) (m : Mv S w w') (hA : 0 < xs.length → ∀ q, A = some q → q.block ∉ S) : NumsAt k w' A xs :=
  ⟨h.1, fun hn => by
    obtain ⟨b, off, e, hc⟩ := h.2 hn
    refine ⟨b, off, e, fun j hj => ?_⟩
    have := hc j hj
    rw [← this]
    exact World.cell?_of_block (m.block b (World.block_lt_of_cell? _ _ this) (hA hn _ e))⟩
section
variable {W : World} {g ib ic : Nat} {p s r : Int} {d : Dev} {v : Value}
theorem FlAt.setUp (h : FlAt W g ib ic p s r d v) : FlAt (((W.setCell ⟨g, 4, none⟩ (.slice none 0 0)).setCell ⟨g, 5, none⟩ (.bool false)).setCell ⟨g, 6, none⟩ (.bool false)) g ib ic p s r { d with row := [], down := false, set := false } (.slice none 0 0) := by
  have h1 := h.setNil
  refine ⟨(h1.box.put 5 (.bool false)).put 6 (.bool false), (h1.img.far (p := ⟨g, 5, none⟩) (Ne.symm h.ne) _).far (p := ⟨g, 6, none⟩) (Ne.symm h.ne) _, World.ownsRow_nil _ _ _ _, h.ne, h.capok, ?_⟩
  intro k hk
  simp [Value.ownBlock] at hk
theorem FlMv.setUp {W' : World} (k : FlMv W W' g ib v v) : FlMv W (((W'.setCell ⟨g, 4, none⟩ (.slice none 0 0)).setCell ⟨g, 5, none⟩ (.bool false)).setCell ⟨g, 6, none⟩ (.bool false)) g ib v (.slice none 0 0) := by
  refine ⟨((k.1.set (by simp [foot]) _).set (by simp [foot]) _).set (by simp [foot]) _, ?_⟩
  intro x hx
  simp [Value.ownBlock] at hx
theorem tornK_bd {p m : Int} (hp : 32 ≤ p) (hm : 2 ≤ m) : 1 ≤ tornK p m ∧ tornK p m ≤ p - 1 ∧ tornK p m = 1 + (m - 2).tmod (p - 1) := by
  unfold tornK
  have h1 := Int.emod_nonneg (m - 2) (show p - 1 ≠ 0 by omega)
  have h2 := Int.emod_lt_of_pos (m - 2) (show 0 < p - 1 by omega)
  rw [Int.tmod_eq_emod_of_nonneg (by omega)]
  omega
set_option maxRecDepth 20000 in
set_option maxHeartbeats 1600000 in
theorem fcrash (h : FlAt W g ib ic p s r d v) (ok : DevOk p s r d) (A : Option Addr) (cM : Nat) (mask : List Int) (hM : NumsAt .i64 W A mask) (hA : 0 < mask.length → ∀ q, A = some q → q.block ∉ foot g ib v) (hmw : ∀ x ∈ mask, -9223372036854775808 ≤ x ∧ x ≤ 9223372036854775807) :
    Calls Try.prog 23 #[.pointer (some ⟨g, 0, none⟩), .slice A mask.length cM] W fun e w' => e = .returned (.tuple #[]) ∧ ∃ v', FlAt w' g ib ic p s r (crashD p d mask) v' ∧ FlMv W w' g ib v v' := by
  have hrl := ok.rl
  have hR := ok.right
  have hml := hM.1
  have HLN := Lib.hid ok.len
  have HRS := Lib.hid ok.rows
  have hp32 : 32 ≤ p ∧ p ≤ 128 := by have := ok.right; unfold RightG at this; omega
  clear ok
  obtain ⟨c0, c1, c2, c3, c4, c5, c6, c7⟩ := h.c8
  obtain ⟨B, cc, hv, -⟩ := h.rows
  have HV := Lib.hid hv
  rw [hv] at c4
  clear hv
  have HM := Lib.hid (fun W' (k : FlMv W W' g ib v v) => hM.mv k.1 hA)
  have HMW := Lib.hid hmw
  clear hM hA hmw
  go_enter Try.func23, Try.ntmps23
  go_wp2_with fail
  go_loopw [14] (fun i wr => ∃ k : Nat, k ≤ d.row.length ∧ i = .int .i64 k ∧ FlAt wr g ib ic p s r { d with img := crK p d.img d.row mask k } v ∧ FlMv W wr g ib v v) (fun i _ => d.row.length - (intOf i).toNat)
  case atStart => exact ⟨0, by omega, rfl, h, FlMv.refl _ _ _ _⟩
  case round =>
    obtain ⟨k, hk, rfl, hfr, hMr⟩ := hrel
    clear h c0 c1 c2 c3 c4 c5 c6 c7
    by_cases hlt : k < d.row.length
    · obtain ⟨A', cc', hv', hrw⟩ := hfr.rows
      have hAA : A' = B := by rw [HV.out] at hv'; injection hv' with e1; exact e1.symm
      subst hAA
      obtain ⟨q, hq, e1, e2⟩ := hrw k hlt
      have hmem := HRS.out d.row[k] (List.getElem_mem hlt)
      have hl2 : ((crK p d.img d.row mask k).length : Int) = p * s * r := by
        rw [crK_len hR _ _ _ HLN.out HRS.out]
        exact HLN.out
      subst hq
      clear hv' hrw
      have HST := Lib.hid (crK_step p d.img d.row mask k hlt)
      have HMO := Lib.hid (fun O => hMr.trans (FlMv.of (v := v) (g := g) (ib := ib) (Kp.one wr O)))
      have HKO := Lib.hid (fun O => hfr.keep (Kp.one wr O))
      have dl : decide ((k : Int) < (d.row.length : Int)) = true := by simp; omega
      have HME := Lib.hid hmem
      clear hmem
      generalize hx : d.row[k] = x at *
      obtain ⟨pg, bb⟩ := x
      have HDO := Lib.hid (fun O b' (hb' : (b'.size : Int) ≤ p) => fdo (hfr.keep (Kp.one wr O)) hR hl2 pg HME.out.1 HME.out.2.1 b' hb')
      have HX := Lib.hid hx
      have HL2 := Lib.hid hl2
      clear hl2 hx
      dsimp only at e1 e2
      have hmc : (mask.length ≤ k ∧ mask.getD k 0 = 0 ∧ decide ((k : Int) < (mask.length : Int)) = false) ∨ (∃ hk2 : k < mask.length, mask.getD k 0 = mask[k] ∧ decide ((k : Int) < (mask.length : Int)) = true) := by
        by_cases hk2 : k < mask.length
        · exact Or.inr ⟨hk2, by rw [List.getD_eq_getElem?_getD, List.getElem?_eq_getElem hk2]; rfl, by simp; omega⟩
        · exact Or.inl ⟨by omega, by rw [List.getD_eq_getElem?_getD, List.getElem?_eq_none (by omega)]; rfl, by simp; omega⟩
      rcases hmc with ⟨hk2, hg, dm⟩ | ⟨hk2, hg, dm⟩
      · rw [hg] at HST
        have hk3 : (mask.length : Int) ≤ (k : Int) := by omega
        clear hg hk2 dm
        go_wp2_with fail
        go_roundw
        case rel => exact ⟨k + 1, by omega, by go_num, by rw [HST.out]; exact HKO.out _, HMO.out _⟩
        case measure => simp [intOf]; omega
      · rw [hg] at HST
        have HMB := Lib.hid (HMW.out _ (List.getElem_mem hk2))
        obtain ⟨mb, mo, rfl, hmc⟩ := (HM.out _ hMr).2 (by omega)
        have hmk := hmc k hk2
        have hmk2 : ∀ O, (wr.alloc O).cell? ⟨mb, mo + k, none⟩ = some (.int .i64 mask[k]) := fun O => (Kp.one wr O).cell hmk
        clear hg hmc hmk
        have hkl : (k : Int) < (mask.length : Int) := by omega
        clear dm
        generalize mask[k] = m at *
        have hcases : m < 1 ∨ m = 1 ∨ 2 ≤ m := by omega
        rcases hcases with hm | hm | hm
        · have e3 : crOne p (crK p d.img d.row mask k) (pg, bb) m = crK p d.img d.row mask k := if_pos hm
          rw [e3] at HST
          have d2 : decide (m < 1) = true := by simpa using hm
          clear e3
          go_wp2_with fail
          go_roundw
          case rel => exact ⟨k + 1, by omega, by go_num, by rw [HST.out]; exact HKO.out _, HMO.out _⟩
          case measure => simp [intOf]; omega
        · subst hm
          have e3 : crOne p (crK p d.img d.row mask k) (pg, bb) 1 = doD p (crK p d.img d.row mask k) pg bb := by unfold crOne; rw [if_neg (by omega), if_pos rfl]
          rw [e3] at HST
          have hbs : (bb.size : Int) ≤ p := by have := HME.out.2.2; dsimp only at this; omega
          have HBS := Lib.hid hbs
          clear e3 hbs
          go_wp2_with fail
          refine (HDO.out _ _ HBS.out).mono ?_
          rintro e w5 ⟨rfl, hf5, hm5⟩
          go_wp2_with fail
          go_roundw
          case rel => exact ⟨k + 1, by omega, by go_num, by rw [HST.out]; exact hf5, (HMO.out _).trans hm5⟩
          case measure => simp [intOf]; omega
        · obtain ⟨t1, t2, t3⟩ := tornK_bd (p := p) (m := m) hp32.1 hm
          have e3 : crOne p (crK p d.img d.row mask k) (pg, bb) m = doD p (crK p d.img d.row mask k) pg (bb.extract 0 (1 + (m - 2).tmod (p - 1)).toNat) := by unfold crOne; rw [if_neg (by omega), if_neg (by omega), t3]
          rw [e3] at HST
          have hbs : (bb.size : Int) = p := HME.out.2.2
          have hm9 := HMB.out
          rw [t3] at t1 t2
          have d2 : decide (m < 1) = false := by simp; omega
          have d3 : (m == 1) = false := by simp; omega
          have q1 : IntKind.i64.wrap (m - 2) = m - 2 := IntWalk.i64_in _ (by omega)
          have q2 : IntKind.i64.wrap (p - 1) = p - 1 := IntWalk.i64_in _ (by omega)
          have q3 : IntKind.i64.wrap ((m - 2).tmod (p - 1)) = (m - 2).tmod (p - 1) := IntWalk.i64_in _ (by omega)
          have q4 : IntKind.i64.wrap (1 + (m - 2).tmod (p - 1)) = 1 + (m - 2).tmod (p - 1) := IntWalk.i64_in _ (by omega)
          clear e3 t3
          have hp0 : (p - 1 == 0) = false := by simp; omega
          have hp1 : ¬ (p - 1 = 0) := by omega
          have hp2 : ¬ (p = 1) := by omega
          have hbe : ((bb.extract 0 (1 + (m - 2).tmod (p - 1)).toNat).size : Int) ≤ p := by have := extract_le bb (1 + (m - 2).tmod (p - 1)).toNat; omega
          have HBE := Lib.hid hbe
          clear hbe
          have hb3 : 0 ≤ 1 + (m - 2).tmod (p - 1) := by omega
          have hb2 : 1 + (m - 2).tmod (p - 1) ≤ (bb.size : Int) := by omega
          have hNB := Bk.new wr 67 [.int .i64 pg, .string bb]
          have HCW := Lib.hid (fun W' (kk : Kp (wr.alloc (.cells #[.int .i64 pg, .string bb] 67)) W') => And.intro (((HKO.out _).keep kk).c8) (And.intro ((hNB.keep kk).cell 0) ((hNB.keep kk).cell 1)))
          have HDD := Lib.hid (fun W' (kk : Kp (wr.alloc (.cells #[.int .i64 pg, .string bb] 67)) W') => fdo ((HKO.out _).keep kk) hR HL2.out pg HME.out.1 HME.out.2.1 (bb.extract 0 (1 + (m - 2).tmod (p - 1)).toNat) HBE.out)
          have HMQ := Lib.hid (fun W' (kk : Kp (wr.alloc (.cells #[.int .i64 pg, .string bb] 67)) W') => (HMO.out (.cells #[.int .i64 pg, .string bb] 67)).trans (FlMv.of (v := v) (g := g) (ib := ib) kk))
          clear hNB hbs hm9
          go_wp2_with fail
          refine wp_region_relH (R := Kp) (C := fun W' => Kp (wr.alloc (.cells #[.int .i64 pg, .string bb] 67)) W') 16 (by kernel_rfl) (by kernel_rfl) (Kp.refl _).drew (fun _ _ h k => h.trans k) Kp.refl (fun _ _ _ h k => h.trans k) ?_
          simp only [List.take_succ_cons, List.take_zero, List.drop_succ_cons, List.drop_zero]
          repeat (refine wpRel_step (fun K hK => ?_); apply rel_eq; (case ob => (intro f W hW hd; (obtain ⟨⟨c0, c1, c2, c3, c4, c5, c6, c7⟩, b0, b1⟩ := HCW.out _ hW); (try simp [deps, factOf, Region.binds] at hd); unfold relOp; go_simp; (first | exact ⟨Kp.refl _, rfl⟩ | exact Kp.refl _ | (refine ⟨Kp.refl _, ?_⟩; fail)))); go_simp; refine hK _ _ ?_; clear hK K)
          refine wpRel_nil ?_
          intro f W' hW hall
          have h27 : f 0 = .pointer (some ⟨g, 0, none⟩) := allF_get hall 0 _ rfl
          have h29 : f 2 = .int .i64 pg := allF_get hall 2 _ rfl
          have h42 : f 15 = .string (bb.extract 0 (1 + (m - 2).tmod (p - 1)).toNat) := allF_get hall 15 _ rfl
          clear hall
          dsimp only
          rw [h27, h29, h42]
          have HD5 := Lib.hid (HDD.out _ hW)
          have hM6 := Lib.hid (HMQ.out _ hW)
          clear h27 h29 h42 HDD HMQ HBE HDO HCW hb2 hb3 q1 q2 q3 q4 t1 t2
          generalize (bb.extract 0 (1 + (m - 2).tmod (p - 1)).toNat) = b5 at *
          go_wp2_with fail
          refine (HD5.out).mono ?_
          rintro e w5 ⟨rfl, hf5, hm5⟩
          have hM5 := hM6.out.trans hm5
          go_wp2_with fail
          go_roundw
          case rel => exact ⟨k + 1, by omega, by go_num, by rw [HST.out]; exact hf5, hM5⟩
          case measure => simp [intOf]; omega
    · have hke : k = d.row.length := by omega
      subst hke
      have f4 := hfr.fr 4
      have f5 := hfr.fr 5
      have f6 := hfr.fr 6
      obtain ⟨c0, c1, c2, c3, c4, c5, c6, c7⟩ := hfr.c8
      have HF := Lib.hid hfr.setUp
      go_wp2_with fail
      exact bodyPost_end (v := .tuple #[]) (by simp [results, Try.results23]) rfl ⟨rfl, _, HF.out, hMr.setUp⟩
end
end Go.Proofs.Ytbclmnlggngepaa
