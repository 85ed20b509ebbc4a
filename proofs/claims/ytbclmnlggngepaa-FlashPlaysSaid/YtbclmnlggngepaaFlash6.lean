/- The contracts of package flash: Flush. -/
import Derived.Test.YtbclmnlggngepaaFlash5
namespace Go.Proofs.Ytbclmnlggngepaa
open Go.RowKit
set_option linter.unusedVariables false

def doAll (p : Int) (img : List Nat) (row : Rw) : List Nat := row.foldl (fun im x => doD p im x.1 x.2) img
theorem doD_len {p s r : Int} {img : List Nat} {page : Int} {b : ByteArray} (hR : RightG p s r) (hl : (img.length : Int) = p * s * r) (h0 : 0 ≤ page) (h1 : page < s * r) (hb : (b.size : Int) ≤ p) : (doD p img page b).length = img.length := by
  obtain ⟨b1, b2, b3, b4, b5⟩ := page_bd hR h0 h1
  exact spliceN_len _ _ _ (by rw [nb_len]; omega)
theorem doD_mem {p : Int} {img : List Nat} {page : Int} {b : ByteArray} (h : ∀ n ∈ img, n < 256) : ∀ n ∈ doD p img page b, n < 256 := spliceN_mem _ _ _ h (nb_lt b)
theorem doAll_take (p : Int) (img : List Nat) (row : Rw) (k : Nat) (h : k < row.length) : doAll p img (row.take (k + 1)) = doD p (doAll p img (row.take k)) row[k].1 row[k].2 := by
  unfold doAll
  rw [List.take_succ_eq_append_getElem h, List.foldl_append]
  rfl
theorem doAll_len {p s r : Int} (hR : RightG p s r) : ∀ (row : Rw) (img : List Nat), (img.length : Int) = p * s * r → (∀ x ∈ row, 0 ≤ x.1 ∧ x.1 < s * r ∧ (x.2.size : Int) = p) → (doAll p img row).length = img.length
  | [], _, _, _ => rfl
  | x :: row, img, hl, hr => by
    have h1 := hr x (List.mem_cons_self ..)
    have e := doD_len (page := x.1) (b := x.2) hR hl h1.1 h1.2.1 (by omega)
    show (doAll p (doD p img x.1 x.2) row).length = _
    rw [doAll_len hR row _ (by rw [e]; exact hl) (fun y hy => hr y (List.mem_cons_of_mem _ hy)), e]
theorem doAll_mem {p : Int} : ∀ (row : Rw) (img : List Nat), (∀ n ∈ img, n < 256) → ∀ n ∈ doAll p img row, n < 256
  | [], _, h => h
  | x :: row, img, h => doAll_mem row (doD p img x.1 x.2) (doD_mem h)
def flushD (p : Int) (d : Dev) : Dev × Int :=
  if d.down = true then (d, 6) else if (countD d).2 = true then ((countD d).1, 6) else ({ (countD d).1 with img := doAll p (countD d).1.img (countD d).1.row, row := [] }, 0)
theorem countD_same (d : Dev) : (countD d).1.img = d.img ∧ (countD d).1.row = d.row := by
  unfold countD
  split
  · exact ⟨rfl, rfl⟩
  · split <;> exact ⟨rfl, rfl⟩
section
variable {W : World} {g ib ic : Nat} {p s r : Int} {d : Dev} {v : Value}
/-- Nothing is pending any more. -/
theorem FlAt.setNil (h : FlAt W g ib ic p s r d v) : FlAt (W.setCell ⟨g, 4, none⟩ (.slice none 0 0)) g ib ic p s r { d with row := [] } (.slice none 0 0) := by
  refine ⟨h.box.put 4 _, h.img.far (p := ⟨g, 4, none⟩) (Ne.symm h.ne) _, World.ownsRow_nil _ _ _ _, h.ne, h.capok, ?_⟩
  intro k hk
  simp [Value.ownBlock] at hk
theorem FlMv.setNil {W' : World} (k : FlMv W W' g ib v v) : FlMv W (W'.setCell ⟨g, 4, none⟩ (.slice none 0 0)) g ib v (.slice none 0 0) := by
  refine ⟨k.1.set (by simp [foot]) _, ?_⟩
  intro x hx
  simp [Value.ownBlock] at hx
set_option maxRecDepth 20000 in
set_option maxHeartbeats 1600000 in
theorem fflush (h : FlAt W g ib ic p s r d v) (ok : DevOk p s r d) :
    Calls Try.prog 25 #[.pointer (some ⟨g, 0, none⟩)] W (FlPost W g ib ic p s r v (flushD p d)) := by
  have HD := Lib.hid (fdown h)
  have HCN := Lib.hid (fun W' (k : Kp W W') => fcount (h.keep k) ok.left)
  have hrl := ok.rl
  obtain ⟨si, sr⟩ := countD_same d
  rcases hdn : d.down with _ | _
  · rw [hdn] at HD
    have e1 : flushD p d = if (countD d).2 = true then ((countD d).1, 6) else ({ (countD d).1 with img := doAll p (countD d).1.img (countD d).1.row, row := [] }, 0) := by unfold flushD; rw [if_neg (by rw [hdn]; simp)]
    rw [e1]
    clear e1 hdn
    have hok := ok
    unfold CountPost at HCN
    generalize countD d = cd at *
    obtain ⟨c, cb⟩ := cd
    have hrows := ok.rows
    have hlen := ok.len
    dsimp only at si sr HCN ⊢
    rw [← sr] at hrows hrl
    rw [← si] at hlen
    have hR := ok.right
    clear si sr hok ok
    rcases cb with _ | _
    · rw [if_neg (by simp)]
      have HLN := Lib.hid hlen
      have HRS := Lib.hid hrows
      clear hlen hrows
      go_enter Try.func25, Try.ntmps25
      go_wp2_with fail
      refine (HD.out).mono ?_
      rintro e w1 ⟨rfl, hk1⟩
      go_wp2_with fail
      refine (HCN.out _ hk1).mono ?_
      rintro e w2 ⟨rfl, hf2, hm2⟩
      obtain ⟨c0, c1, c2, c3, c4, c5, c6, c7⟩ := hf2.c8
      obtain ⟨A, cc, hv, -⟩ := hf2.rows
      have hM2 := (FlMv.of (v := v) (g := g) (ib := ib) hk1).trans hm2
      have HV := Lib.hid hv
      rw [hv] at c4
      clear hv
      clear hm2 HCN HD h
      go_wp2_with fail
      go_loopw [16] (fun i wr => ∃ k : Nat, k ≤ c.row.length ∧ i = .int .i64 k ∧ FlAt wr g ib ic p s r { c with img := doAll p c.img (c.row.take k) } v ∧ FlMv W wr g ib v v) (fun i _ => c.row.length - (intOf i).toNat)
      case atStart => exact ⟨0, by omega, rfl, by rw [List.take_zero]; exact hf2, hM2⟩
      case round =>
        obtain ⟨k, hk, rfl, hfr, hMr⟩ := hrel
        clear hf2 hM2 hk1 c0 c1 c2 c3 c4 c5 c6 c7
        by_cases hlt : k < c.row.length
        · obtain ⟨A', cc', hv', hrw⟩ := hfr.rows
          have hAA : A' = A := by rw [HV.out] at hv'; injection hv' with e1; exact e1.symm
          subst hAA
          obtain ⟨q, hq, e1, e2⟩ := hrw k hlt
          have hmem := HRS.out c.row[k] (List.getElem_mem hlt)
          have hl2 : ((doAll p c.img (c.row.take k)).length : Int) = p * s * r := by
            rw [doAll_len hR _ _ HLN.out (fun x hx => HRS.out x (List.mem_of_mem_take hx))]
            exact HLN.out
          subst hq
          clear hv' hrw
          have HDO := Lib.hid (fun O => fdo (hfr.keep (Kp.one wr O)) hR hl2 c.row[k].1 hmem.1 hmem.2.1 c.row[k].2 (by have := hmem.2.2; omega))
          have HST := Lib.hid (doAll_take p c.img c.row k hlt)
          clear hl2
          have hMo := fun O => hMr.trans (FlMv.of (v := v) (g := g) (ib := ib) (Kp.one wr O))
          have HMO := Lib.hid hMo
          have dl : decide ((k : Int) < (c.row.length : Int)) = true := by simp; omega
          clear hMo hmem
          generalize hx1 : c.row[k].1 = pg at *
          generalize hx2 : c.row[k].2 = bb at *
          go_wp2_with fail
          refine (HDO.out _).mono ?_
          rintro e w5 ⟨rfl, hf5, hm5⟩
          go_wp2_with fail
          go_roundw
          case rel => exact ⟨k + 1, by omega, by go_num, by rw [HST.out]; exact hf5, (HMO.out _).trans hm5⟩
          case measure => simp [intOf]; omega
        · have hke : k = c.row.length := by omega
          subst hke
          rw [List.take_length] at hfr
          have f4 := hfr.fr 4
          have c4 := hfr.c8.2.2.2.2.1
          have HF := Lib.hid hfr.setNil
          go_wp2_with fail
          go_ret
          exact ⟨rfl, _, HF.out, hMr.setNil⟩
    · rw [if_pos rfl]
      clear hlen hrows
      go_enter Try.func25, Try.ntmps25
      go_wp2_with fail
      refine (HD.out).mono ?_
      rintro e w1 ⟨rfl, hk1⟩
      go_wp2_with fail
      refine (HCN.out _ hk1).mono ?_
      rintro e w2 ⟨rfl, hf2, hm2⟩
      go_wp2_with fail
      go_ret
      exact ⟨rfl, v, hf2, (FlMv.of hk1).trans hm2⟩
  · rw [hdn] at HD
    have e1 : flushD p d = (d, 6) := by unfold flushD; rw [if_pos hdn]
    rw [e1]
    clear e1 hdn HCN
    go_enter Try.func25, Try.ntmps25
    go_wp2_with fail
    refine (HD.out).mono ?_
    rintro e w1 ⟨rfl, hk1⟩
    go_wp2_with fail
    go_ret
    exact ⟨rfl, v, h.keep hk1, FlMv.of hk1⟩
end
end Go.Proofs.Ytbclmnlggngepaa
