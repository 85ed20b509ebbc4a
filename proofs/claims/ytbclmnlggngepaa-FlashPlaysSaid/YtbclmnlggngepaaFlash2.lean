/- The contracts of package flash: what reads. -/
import Derived.Test.YtbclmnlggngepaaFlash
namespace Go.Proofs.Ytbclmnlggngepaa
open Go.RowKit
set_option linter.unusedVariables false

/-- What holds of a device. -/
structure DevOk (p s r : Int) (d : Dev) : Prop where
  right : RightG p s r
  len : (d.img.length : Int) = p * s * r
  byt : ∀ n ∈ d.img, n < 256
  rows : ∀ x ∈ d.row, 0 ≤ x.1 ∧ x.1 < s * r ∧ (x.2.size : Int) = p
  left : d.set = true → 0 ≤ d.left ∧ d.left ≤ 9223372036854775807
  rl : d.row.length ≤ 100000
/-- What is pending of a page: of several the last. -/
def pend (row : Rw) (page : Int) : Option ByteArray := row.foldl (fun acc x => if x.1 = page then some x.2 else acc) none
theorem pend_nil (page : Int) : pend [] page = none := rfl
theorem pend_snoc (row : Rw) (x : Int × ByteArray) (page : Int) : pend (row ++ [x]) page = if x.1 = page then some x.2 else pend row page := by
  simp [pend, List.foldl_append]
/-- A page of an image. -/
def pgN (img : List Nat) (p page : Nat) : List Nat := (img.drop (page * p)).take p
def heldD (d : Dev) (p : Int) (page : Int) : ByteArray := (pend d.row page).getD (strN (pgN d.img p.toNat page.toNat))
def blankS (p : Int) : ByteArray := fillS 255 p.toNat
def readD (p s r : Int) (d : Dev) (page : Int) : ByteArray × Int :=
  if d.down = true then (⟨#[]⟩, 6) else if page < 0 ∨ s * r ≤ page then (⟨#[]⟩, 1) else (heldD d p page, 0)
def countD (d : Dev) : Dev × Bool :=
  if d.set = false then (d, false) else if d.left = 0 then ({ d with down := true, set := false }, true) else ({ d with left := d.left - 1 }, false)

section
variable {W : World} {g ib ic : Nat} {p s r : Int} {d : Dev} {v : Value}
set_option maxHeartbeats 400000 in
theorem fdown (h : FlAt W g ib ic p s r d v) : Calls Try.prog 17 #[.pointer (some ⟨g, 0, none⟩)] W fun e w' => e = .returned (.bool d.down) ∧ Kp W w' := by
  obtain ⟨c0, c1, c2, c3, c4, c5, c6, c7⟩ := h.c8
  go_enter Try.func17, Try.ntmps17
  go_wp2_with fail
  go_ret
  exact ⟨rfl, Kp.refl _⟩
set_option maxHeartbeats 400000 in
theorem fpending (h : FlAt W g ib ic p s r d v) : Calls Try.prog 18 #[.pointer (some ⟨g, 0, none⟩)] W fun e w' => e = .returned (.int .i64 d.row.length) ∧ Kp W w' := by
  obtain ⟨c0, c1, c2, c3, c4, c5, c6, c7⟩ := h.c8
  obtain ⟨A, cc, rfl, _⟩ := h.rows
  go_enter Try.func18, Try.ntmps18
  go_wp2_with fail
  go_ret
  exact ⟨rfl, Kp.refl _⟩
set_option maxHeartbeats 400000 in
theorem fimage (h : FlAt W g ib ic p s r d v) : Calls Try.prog 15 #[.pointer (some ⟨g, 0, none⟩)] W fun e w' => e = .returned (.string (strN d.img)) ∧ Kp W w' := by
  obtain ⟨c0, c1, c2, c3, c4, c5, c6, c7⟩ := h.c8
  have hcv := h.img.conv (n := d.img.length) (c := ic) (by simp)
  go_enter Try.func15, Try.ntmps15
  go_wp2_with fail
  go_ret
  exact ⟨rfl, Kp.refl _⟩
set_option maxHeartbeats 400000 in
theorem fgeom (h : FlAt W g ib ic p s r d v) : Calls Try.prog 30 #[.pointer (some ⟨g, 0, none⟩)] W fun e w' => e = .returned (geo p s r) ∧ Kp W w' := by
  have hb := h.box
  have c0 := fun O => (hb.keep (Kp.one W O)).cell 0
  have c1 := fun O => (hb.keep (Kp.one W O)).cell 1
  have c2 := fun O => (hb.keep (Kp.one W O)).cell 2
  go_enter Try.func30, Try.ntmps30
  go_wp2_with fail
  refine bodyPost_ret (v := geo p s r) (by simp [results, Try.results30, go_sem]) rfl ⟨rfl, ?_⟩
  (repeat (first | with_reducible exact Kp.refl _ | with_reducible assumption | with_reducible refine Kp.alloc ?_ _ | with_reducible refine Kp.drew ?_ | with_reducible refine Kp.drewN ?_ _ | exact Kp.refl _ | assumption | refine Kp.alloc ?_ _ | refine Kp.drew ?_ | refine Kp.drewN ?_ _ | refine Kp.trans ?_ (by assumption)))
set_option maxHeartbeats 800000 in
theorem fpages (h : FlAt W g ib ic p s r d v) (hR : RightG p s r) : Calls Try.prog 41 #[.pointer (some ⟨g, 0, none⟩)] W fun e w' => e = .returned (.int .i64 (s * r)) ∧ Kp W w' := by
  have HC := Lib.hid (fun W' (k : Kp W W') => (h.keep k).c8)
  have hm := mul_sr hR
  have hw : IntKind.i64.wrap (s * r) = s * r := IntWalk.i64_in _ (by omega)
  clear hm
  go_enter Try.func41, Try.ntmps41
  go_wp2_with fail
  have hInh := fun (x v : Value) => (⟨fun h => h _ ((Kp.refl W).drew), fun h _ _ => h⟩ : (∀ Wz9, (fun W' => Kp W W') Wz9 → x = v) ↔ x = v)
  dsimp only at hInh
  refine wp_region_quietC (C := fun W' => Kp W W') (by kernel_rfl) (by kernel_rfl) ((Kp.refl W).drew) ?_
  repeat (first | go_big_quiet_step ((intro hW; first | fail | (with_reducible rfl) | (obtain ⟨c0, c1, c2, c3, c4, c5, c6, c7⟩ := HC.out _ hW; (try go_simp); first | done | with_reducible rfl | exact ⟨rfl, rfl⟩))) | quiet_step ((intro hW; first | fail | (with_reducible rfl) | (obtain ⟨c0, c1, c2, c3, c4, c5, c6, c7⟩ := HC.out _ hW; (try go_simp); first | done | with_reducible rfl | exact ⟨rfl, rfl⟩))))
  refine wpQuiet_nil ?_
  intro wq hwq
  clear hInh
  go_wp2_with fail
  go_ret
  exact ⟨rfl, hwq⟩
theorem repF (c : Nat) : (⟨(Lib.repeatL [255] c).toArray⟩ : ByteArray) = fillS 255 c := by
  apply ByteArray.ext
  apply Array.toList_inj.1
  unfold fillS
  rw [strOfNums_data]
  simp
  induction c with
  | zero => rfl
  | succ c ih => rw [Lib.repeatL, ih]; rfl
theorem repK (N : Int) (h0 : 0 ≤ N) (h1 : N ≤ 140737488351232) (w : World) : Calls Try.prog 36 #[.string ⟨#[255]⟩, .int .i64 N] w fun e w' => e = .returned (.string (fillS 255 N.toNat)) ∧ Kp w w' := by
  have := Try.strings_Repeat ⟨#[255]⟩ N.toNat w (by omega) (by show 1 * _ ≤ _; omega)
  rw [Int.toNat_of_nonneg h0] at this
  exact this.mono fun e w' ⟨h1, h2⟩ => ⟨by rw [h1, ← repF], h2⟩
set_option maxHeartbeats 400000 in
theorem fblank (h : FlAt W g ib ic p s r d v) (hR : RightG p s r) : Calls Try.prog 38 #[.pointer (some ⟨g, 0, none⟩)] W fun e w' => e = .returned (.string (blankS p)) ∧ Kp W w' := by
  obtain ⟨c0, c1, c2, c3, c4, c5, c6, c7⟩ := h.c8
  obtain ⟨r1, r2, r3, r4, r5, r6⟩ := hR
  go_enter Try.func38, Try.ntmps38
  go_wp2_with fail
  refine (repK p (by omega) (by omega) _).mono ?_
  rintro e w' ⟨rfl, hk⟩
  go_wp2_with fail
  go_ret
  exact ⟨rfl, hk⟩
/-- A row's part, searched from its end. -/
theorem pend_take (row : Rw) (page : Int) (k : Nat) (h : k < row.length) : pend (row.take (k + 1)) page = if row[k].1 = page then some row[k].2 else pend (row.take k) page := by
  rw [List.take_succ_eq_append_getElem h, pend_snoc]
def pendV (row : Rw) (page : Int) : ByteArray × Bool := match pend row page with | some b => (b, true) | none => (⟨#[]⟩, false)
set_option maxHeartbeats 1600000 in
theorem fpend (h : FlAt W g ib ic p s r d v) (hl : d.row.length ≤ 1000000) (page : Int) : Calls Try.prog 40 #[.pointer (some ⟨g, 0, none⟩), .int .i64 page] W fun e w' => e = .returned (.tuple #[.string (pendV d.row page).1, .bool (pendV d.row page).2]) ∧ Kp W w' := by
  obtain ⟨c0, c1, c2, c3, c4, c5, c6, c7⟩ := h.c8
  obtain ⟨A, cc, rfl, hrow⟩ := h.rows
  have HR := Lib.hid hrow
  clear hrow
  go_enter Try.func40, Try.ntmps40
  go_wp2_with fail
  go_loop [6] (fun i => ∃ k : Nat, k ≤ d.row.length ∧ i = .int .i64 ((k : Int) - 1) ∧ pend d.row page = pend (d.row.take k) page) (fun i => ((intOf i) + 1).toNat)
  case atStart => exact ⟨d.row.length, Nat.le_refl _, rfl, by rw [List.take_length]⟩
  case round =>
    obtain ⟨k, hk, rfl, hpd⟩ := hrel
    rcases k with _ | k
    · rw [List.take_zero, pend_nil] at hpd
      have hpv : pendV d.row page = (⟨#[]⟩, false) := by unfold pendV; rw [hpd]
      have HP := Lib.hid hpv
      clear hpd hpv
      go_wp2_with fail
      go_ret2
      exact ⟨by rw [HP.out]; rfl, Kp.refl _⟩
    · have hkl : k < d.row.length := by omega
      have hkl2 : (k : Int) < (d.row.length : Int) := by omega
      obtain ⟨q, rfl, e1, e2⟩ := HR.out k hkl
      rw [pend_take _ _ _ hkl] at hpd
      have hcast : (((k + 1 : Nat) : Int) - 1) = (k : Int) := by omega
      rw [hcast]
      by_cases hpg : d.row[k].1 = page
      · rw [if_pos hpg] at hpd
        have hpv : pendV d.row page = (d.row[k].2, true) := by unfold pendV; rw [hpd]
        have HP := Lib.hid hpv
        have hb : (d.row[k].1 == page) = true := by simp [hpg]
        clear hpd hpv hcast hpg
        go_wp2_with fail
        go_ret2
        exact ⟨by rw [HP.out]; rfl, Kp.refl _⟩
      · rw [if_neg hpg] at hpd
        have HP := Lib.hid hpd
        have hb : (d.row[k].1 == page) = false := by simp [hpg]
        clear hpd hcast hpg
        go_wp2_with fail
        go_round
        case rel => exact ⟨k, by omega, rfl, HP.out⟩
        case measure => simp [intOf]
end
end Go.Proofs.Ytbclmnlggngepaa
