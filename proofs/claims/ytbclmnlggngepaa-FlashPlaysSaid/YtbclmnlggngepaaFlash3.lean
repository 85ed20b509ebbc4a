/- The contracts of package flash: Read, count, do. -/
import Derived.Test.YtbclmnlggngepaaFlash2
namespace Go.Proofs.Ytbclmnlggngepaa
open Go.RowKit
set_option linter.unusedVariables false

/-- Where a page lies. -/
theorem page_bd {p s r page : Int} (hR : RightG p s r) (h0 : 0 ≤ page) (h1 : page < s * r) : 0 ≤ page * p ∧ page * p + p ≤ p * s * r ∧ (page + 1) * p = page * p + p ∧ page ≤ 119 ∧ p * s * r ≤ 15360 := by
  obtain ⟨m1, m2, m3, m4⟩ := mul3 hR
  have h2 := (mul_sr hR).2.1
  obtain ⟨r1, r2, r3, r4, r5, r6⟩ := hR
  refine ⟨Int.mul_nonneg h0 (by omega), ?_, by rw [Int.add_mul, Int.one_mul], by omega, m4⟩
  have h3 : (page + 1) * p ≤ (s * r) * p := Int.mul_le_mul_of_nonneg_right (by omega) (by omega)
  rw [Int.add_mul, Int.one_mul] at h3
  rw [Int.mul_assoc, Int.mul_comm p (s * r)]
  exact h3
theorem pgN_len (img : List Nat) (p page : Nat) (h : page * p + p ≤ img.length) : (pgN img p page).length = p := by
  unfold pgN
  rw [List.length_take, List.length_drop]
  omega
theorem own_set {W : World} {e : TypeId} {size n : Nat} {v : Value} {xs : List Value} (h : W.ownsRow 0 e size v n xs) {p : Addr} (hp : ∀ k, v.ownBlock = some k → k ≠ p.block) (u : Value) : (W.setCell p u).ownsRow 0 e size v n xs := by
  rcases h with ⟨hl, ⟨e1, e2⟩ | ⟨q, cap, cur, e1, e2, e3, e4⟩⟩
  · exact ⟨hl, Or.inl ⟨e1, e2⟩⟩
  · refine ⟨hl, Or.inr ⟨q, cap, cur, e1, e2, ?_, e4⟩⟩
    rw [Below.heap_setCell W p u q (hp q (by rw [e1]; rfl))]
    exact e3
section
variable {W : World} {g ib ic : Nat} {p s r : Int} {d : Dev} {v : Value}
theorem pgN_ints (img : List Nat) (p page : Nat) : ((ints img).drop (page * p)).take p = ints (pgN img p page) := by
  unfold pgN ints
  rw [← List.map_drop, ← List.map_take]
theorem img_conv {c : Nat} (h : FlAt W g ib ic p s r d v) (ok : DevOk p s r d) (page : Int) (h0 : 0 ≤ page) (h1 : page < s * r) :
    (convert 53 9 (.slice (some ⟨ib, (page * p).toNat, none⟩) (((page + 1) * p).toNat - (page * p).toNat) c)).run Try.prog W = .ok (.string (strN (pgN d.img p.toNat page.toNat))) W := by
  obtain ⟨b1, b2, b3, b4, b5⟩ := page_bd ok.right h0 h1
  have hlen := ok.len
  have hp := ok.right.1
  have e1 : (page * p).toNat = page.toNat * p.toNat := by rw [Int.toNat_mul h0 (by omega)]
  have e2 : ((page + 1) * p).toNat - (page * p).toNat = p.toNat := by omega
  have := h.img.convAt (o := (page * p).toNat) (n := p.toNat) (c := c) (by rw [List.length_map]; omega)
  rw [e2, this]
  congr 2
  unfold strN
  congr 1
  have := pgN_ints d.img p.toNat page.toNat
  rw [← e1] at this
  exact this
set_option maxRecDepth 20000 in
set_option maxHeartbeats 1600000 in
theorem fread_img (h : FlAt W g ib ic p s r d v) (ok : DevOk p s r d) (page : Int) (h0 : 0 ≤ page) (h1 : page < s * r) (hd : d.down = false) (hp : pend d.row page = none) :
    Calls Try.prog 26 #[.pointer (some ⟨g, 0, none⟩), .int .i64 page] W fun e w' => e = .returned (.tuple #[.string (strN (pgN d.img p.toNat page.toNat)), .int .i64 0]) ∧ Kp W w' := by
  have hrl := ok.rl
  have hlen := ok.len
  obtain ⟨b1, b2, b3, b4, b5⟩ := page_bd ok.right h0 h1
  obtain ⟨r1, r2, r3, r4, r5, r6⟩ := id ok.right
  have HD := Lib.hid (fdown h)
  rw [hd] at HD
  have HPG := Lib.hid (fpages h ok.right)
  have HPE := Lib.hid (fun W' (k : Kp W W') => fpend (h.keep k) (by omega) page)
  have hpv : pendV d.row page = (⟨#[]⟩, false) := by unfold pendV; rw [hp]
  rw [hpv] at HPE
  have HPP := Lib.hid (fun W' (k : Kp W W') => fpages (h.keep k) ok.right)
  have hcap := h.capok
  have HC := Lib.hid (fun W' (k : Kp W W') => (h.keep k).c8)
  have q1 : IntKind.i64.wrap (page * p) = page * p := IntWalk.i64_in _ (by omega)
  have q2 : IntKind.i64.wrap (page + 1) = page + 1 := IntWalk.i64_in _ (by omega)
  have q3 : IntKind.i64.wrap ((page + 1) * p) = (page + 1) * p := IntWalk.i64_in _ (by omega)
  have z1 : page * p ≤ (page + 1) * p := by omega
  have z2 : 0 ≤ (page + 1) * p := by omega
  have z3 : (page + 1) * p ≤ (d.img.length : Int) := by omega
  have z4 : (page + 1) * p ≤ (ic : Int) := by omega
  have z5 : page * p ≤ (ic : Int) := by omega
  have z6 : max ((page + 1) * p) 0 = (page + 1) * p := by omega
  have z7 : ¬ (ic = (page * p).toNat) := by omega
  have HI := Lib.hid (fun W' (k : Kp W W') => img_conv (c := ic - (page * p).toNat) (h.keep k) ok page h0 h1)
  clear hp hpv hd b3
  go_enter Try.func26, Try.ntmps26
  go_wp2_with fail
  refine (HD.out).mono ?_
  rintro e w1 ⟨rfl, hk1⟩
  go_wp2_with fail
  refine (HPP.out _ hk1).mono ?_
  rintro e w2 ⟨rfl, hk2⟩
  go_wp2_with fail
  refine (HPE.out _ (hk1.trans hk2)).mono ?_
  rintro e w3 ⟨rfl, hk3⟩
  have hK3 := (hk1.trans hk2).trans hk3
  have HC3 := Lib.hid (fun W' (k : Kp w3 W') => HC.out _ (hK3.trans k))
  have HI3 := Lib.hid (fun W' (k : Kp w3 W') => HI.out _ (hK3.trans k))
  go_wp2_with fail
  refine wp_region_rel (R := Kp) (C := fun W' => Kp w3 W') (by kernel_rfl) (by kernel_rfl) (Kp.refl w3).drew (fun _ _ h k => h.trans k) Kp.refl (fun _ _ _ h k => h.trans k) ?_
  repeat (refine wpRel_step (fun K hK => ?_); apply rel_eq; (case ob => (intro f W hW hd; (obtain ⟨c0, c1, c2, c3, c4, c5, c6, c7⟩ := HC3.out _ hW); (try simp [deps, factOf, Region.binds] at hd); unfold relOp; go_simp; (first | exact ⟨Kp.refl _, rfl⟩ | exact Kp.refl _ | (refine ⟨Kp.refl _, ?_⟩; fail)))); go_simp; refine hK _ _ ?_; clear hK K)
  refine wpRel_step (fun K hK => ?_)
  apply rel_fact (fun v _ => v = .string (strN (pgN d.img p.toNat page.toNat))) (fun _ _ _ _ h => h)
  case ob =>
    intro f W hW hd
    have hcv := HI3.out _ hW
    (try simp [deps, factOf, Region.binds] at hd)
    unfold relOp
    go_simp
    first | exact ⟨Kp.refl _, rfl⟩ | exact Kp.refl _
  go_simp
  refine hK _ _ ?_
  clear hK K
  repeat (refine wpRel_step (fun K hK => ?_); apply rel_eq; (case ob => (intro f W hW hd; (obtain ⟨c0, c1, c2, c3, c4, c5, c6, c7⟩ := HC3.out _ hW); (try simp [deps, factOf, Region.binds] at hd); unfold relOp; go_simp; (first | exact ⟨Kp.refl _, rfl⟩ | exact Kp.refl _ | (refine ⟨Kp.refl _, ?_⟩; fail)))); go_simp; refine hK _ _ ?_; clear hK K)
  refine wpRel_nil ?_
  intro f W' hW hall
  have h21 : f 21 = .string (strN (pgN d.img p.toNat page.toNat)) := allF_get hall 21 _ rfl
  have h22 : f 22 = .int .i64 0 := allF_get hall 22 _ rfl
  clear hall
  dsimp only
  rw [h21, h22]
  go_wp2_with fail
  go_ret2
  exact ⟨rfl, hK3.trans hW⟩
theorem pend_or (row : Rw) (page : Int) : (pend row page = none ∧ pendV row page = (⟨#[]⟩, false)) ∨ ∃ b, pend row page = some b ∧ pendV row page = (b, true) := by
  unfold pendV
  cases pend row page with
  | none => exact Or.inl ⟨rfl, rfl⟩
  | some b => exact Or.inr ⟨b, rfl, rfl⟩
set_option maxHeartbeats 1600000 in
theorem fread_any (h : FlAt W g ib ic p s r d v) (ok : DevOk p s r d) (page : Int) :
    Calls Try.prog 26 #[.pointer (some ⟨g, 0, none⟩), .int .i64 page] W fun e w' => e = .returned (.tuple #[.string (readD p s r d page).1, .int .i64 (readD p s r d page).2]) ∧ Kp W w' := by
  have hrl := ok.rl
  have HD := Lib.hid (fdown h)
  have HPP := Lib.hid (fun W' (k : Kp W W') => fpages (h.keep k) ok.right)
  have HPE := Lib.hid (fun W' (k : Kp W W') => fpend (h.keep k) (by omega) page)
  rcases hd : d.down with _ | _
  · rw [hd] at HD
    have hcases : page < 0 ∨ (0 ≤ page ∧ s * r ≤ page) ∨ (0 ≤ page ∧ page < s * r) := by omega
    rcases hcases with hc | ⟨hc1, hc⟩ | ⟨hc1, hc⟩
    · have e1 : readD p s r d page = (⟨#[]⟩, 1) := by unfold readD; rw [if_neg (by rw [hd]; simp), if_pos (Or.inl hc)]
      rw [e1]
      clear e1 hd HPE
      go_enter Try.func26, Try.ntmps26
      go_wp2_with fail
      refine (HD.out).mono ?_
      rintro e w1 ⟨rfl, hk1⟩
      go_wp2_with fail
      go_ret2
      exact ⟨rfl, hk1⟩
    · have e1 : readD p s r d page = (⟨#[]⟩, 1) := by unfold readD; rw [if_neg (by rw [hd]; simp), if_pos (Or.inr hc)]
      rw [e1]
      clear e1 hd HPE
      have hdec : decide (s * r ≤ page) = true := by simpa using hc
      go_enter Try.func26, Try.ntmps26
      go_wp2_with fail
      refine (HD.out).mono ?_
      rintro e w1 ⟨rfl, hk1⟩
      go_wp2_with fail
      refine (HPP.out _ hk1).mono ?_
      rintro e w2 ⟨rfl, hk2⟩
      go_wp2_with fail
      go_ret2
      exact ⟨rfl, hk1.trans hk2⟩
    · have e1 : readD p s r d page = (heldD d p page, 0) := by unfold readD; rw [if_neg (by rw [hd]; simp), if_neg (by omega)]
      rcases pend_or d.row page with ⟨hp, hpv⟩ | ⟨b, hp, hpv⟩
      · have e2 : heldD d p page = strN (pgN d.img p.toNat page.toNat) := by unfold heldD; rw [hp]; rfl
        rw [e1, e2]
        exact fread_img h ok page hc1 hc hd hp
      · have e2 : heldD d p page = b := by unfold heldD; rw [hp]; rfl
        rw [e1, e2]
        rw [hpv] at HPE
        have hdec : decide (s * r ≤ page) = false := by simp; omega
        clear e1 e2 hp hpv hd
        go_enter Try.func26, Try.ntmps26
        go_wp2_with fail
        refine (HD.out).mono ?_
        rintro e w1 ⟨rfl, hk1⟩
        go_wp2_with fail
        refine (HPP.out _ hk1).mono ?_
        rintro e w2 ⟨rfl, hk2⟩
        go_wp2_with fail
        refine (HPE.out _ (hk1.trans hk2)).mono ?_
        rintro e w3 ⟨rfl, hk3⟩
        go_wp2_with fail
        go_ret2
        exact ⟨rfl, (hk1.trans hk2).trans hk3⟩
  · rw [hd] at HD
    have e1 : readD p s r d page = (⟨#[]⟩, 6) := by unfold readD; rw [if_pos hd]
    rw [e1]
    clear e1 hd HPE
    go_enter Try.func26, Try.ntmps26
    go_wp2_with fail
    refine (HD.out).mono ?_
    rintro e w1 ⟨rfl, hk1⟩
    go_wp2_with fail
    go_ret2
    exact ⟨rfl, hk1⟩

/-! count -/
theorem FlAt.setDown (h : FlAt W g ib ic p s r d v) : FlAt ((W.setCell ⟨g, 5, none⟩ (.bool true)).setCell ⟨g, 6, none⟩ (.bool false)) g ib ic p s r { d with down := true, set := false } v := by
  refine ⟨(h.box.put 5 (.bool true)).put 6 (.bool false), (h.img.far (p := ⟨g, 5, none⟩) (Ne.symm h.ne) _).far (p := ⟨g, 6, none⟩) (Ne.symm h.ne) _, ?_, h.ne, h.capok, h.vne⟩
  have := own_set (own_set h.own (p := ⟨g, 5, none⟩) (fun k hk => (h.vne k hk).1) (.bool true)) (p := ⟨g, 6, none⟩) (fun k hk => (h.vne k hk).1) (.bool false)
  exact this
theorem FlAt.setLeft (h : FlAt W g ib ic p s r d v) (n : Int) : FlAt (W.setCell ⟨g, 7, none⟩ (.int .i64 n)) g ib ic p s r { d with left := n } v :=
  ⟨h.box.put 7 (.int .i64 n), h.img.far (p := ⟨g, 7, none⟩) (Ne.symm h.ne) _, own_set h.own (p := ⟨g, 7, none⟩) (fun k hk => (h.vne k hk).1) _, h.ne, h.capok, h.vne⟩
/-- What 'count' leaves. -/
def CountPost (W : World) (g ib ic : Nat) (p s r : Int) (d : Dev) (v : Value) (e : Ending) (w' : World) : Prop :=
  e = .returned (.bool (countD d).2) ∧ FlAt w' g ib ic p s r (countD d).1 v ∧ FlMv W w' g ib v v
set_option maxHeartbeats 800000 in
theorem fcount (h : FlAt W g ib ic p s r d v) (hl : d.set = true → 0 ≤ d.left ∧ d.left ≤ 9223372036854775807) :
    Calls Try.prog 37 #[.pointer (some ⟨g, 0, none⟩)] W (CountPost W g ib ic p s r d v) := by
  obtain ⟨c0, c1, c2, c3, c4, c5, c6, c7⟩ := h.c8
  have f5 := h.fr 5
  have f6 := h.fr 6
  have f7 := h.fr 7
  rcases hs : d.set with _ | _
  · rw [hs] at c6
    have e1 : countD d = (d, false) := by unfold countD; rw [if_pos hs]
    have HE := Lib.hid e1
    clear e1 hs hl
    go_enter Try.func37, Try.ntmps37
    go_wp2_with fail
    go_ret
    exact ⟨by rw [HE.out]; rfl, by rw [HE.out]; exact h, FlMv.refl _ _ _ _⟩
  · rw [hs] at c6
    obtain ⟨l0, l1⟩ := hl hs
    by_cases hz : d.left = 0
    · have e1 : countD d = ({ d with down := true, set := false }, true) := by unfold countD; rw [if_neg (by rw [hs]; simp), if_pos hz]
      have HE := Lib.hid e1
      rw [hz] at c7
      clear e1 hs hl hz
      go_enter Try.func37, Try.ntmps37
      go_wp2_with fail
      go_ret
      exact ⟨by rw [HE.out]; rfl, by rw [HE.out]; exact h.setDown, ⟨((Mv.refl W).set (by simp [foot]) _).set (by simp [foot]) _, fun k hk => Or.inl hk⟩⟩
    · have e1 : countD d = ({ d with left := d.left - 1 }, false) := by unfold countD; rw [if_neg (by rw [hs]; simp), if_neg hz]
      have HE := Lib.hid e1
      have hb : (d.left == 0) = false := by simp [hz]
      have hw : IntKind.i64.wrap (d.left - 1) = d.left - 1 := IntWalk.i64_in _ (by omega)
      clear e1 hs hl hz
      go_enter Try.func37, Try.ntmps37
      go_wp2_with fail
      go_ret
      exact ⟨by rw [HE.out]; rfl, by rw [HE.out]; exact h.setLeft _, ⟨(Mv.refl W).set (by simp [foot]) _, fun k hk => Or.inl hk⟩⟩
end
end Go.Proofs.Ytbclmnlggngepaa
