/- The contracts of the reference's device: what reads, blows, Fuse. -/
import Derived.Test.YtbclmnlggngepaaRFl
namespace Go.Proofs.Ytbclmnlggngepaa
open Go.RowKit
set_option linter.unusedVariables false

def rcountD (d : Dev) : Dev × Bool :=
  if d.set = false then (d, false) else if d.left = 0 then ({ d with down := true }, true) else ({ d with left := d.left - 1 }, false)
theorem rcountD_same (d : Dev) : (rcountD d).1.img = d.img ∧ (rcountD d).1.row = d.row := by
  unfold rcountD
  split
  · exact ⟨rfl, rfl⟩
  · split <;> exact ⟨rfl, rfl⟩
section
variable {W : World} {g ib ic : Nat} {p s r : Int} {d : Dev} {v : Value}
set_option maxHeartbeats 400000 in
theorem rimage (h : RfX W g ib ic p s r d v) : Calls Try.prog 49 #[.pointer (some ⟨g, 0, none⟩)] W fun e w' => e = .returned (.string (strN d.img)) ∧ Kp W w' := by
  obtain ⟨c0, c1, c2, c3, c4, c5, c6, c7⟩ := h.c8
  have hcv := h.img.conv (n := d.img.length) (c := ic) (by simp)
  go_enter Try.func49, Try.ntmps49
  go_wp2_with fail
  go_ret
  exact ⟨rfl, Kp.refl _⟩
set_option maxHeartbeats 800000 in
theorem rpages (h : RfX W g ib ic p s r d v) (hR : RightG p s r) : Calls Try.prog 58 #[.pointer (some ⟨g, 0, none⟩)] W fun e w' => e = .returned (.int .i64 (s * r)) ∧ Kp W w' := by
  have HC := Lib.hid (fun W' (k : Kp W W') => (h.keep k).c8)
  have hm := mul_sr hR
  have hw : IntKind.i64.wrap (s * r) = s * r := IntWalk.i64_in _ (by omega)
  clear hm
  go_enter Try.func58, Try.ntmps58
  go_wp2_with fail
  have hInh := fun (x v : Value) => (⟨fun h => h _ ((Kp.refl W).drew), fun h _ _ => h⟩ : (∀ Wz9, (fun W' => Kp W W') Wz9 → x = v) ↔ x = v)
  dsimp only at hInh
  refine wp_region_quietC (C := fun W' => Kp W W') (by kernel_rfl) (by kernel_rfl) ((Kp.refl W).drew) ?_
  repeat (first | go_big_quiet_step ((intro hW; first | fail | (with_reducible rfl) | (obtain ⟨c0, c1, c2, c3, c4, c5, c6, c7⟩ := HC.out _ hW; (try go_simp); first | done | with_reducible rfl | exact ⟨rfl, rfl⟩))) | quiet_step ((intro hW; first | fail | (with_reducible rfl) | (obtain ⟨c0, c1, c2, c3, c4, c5, c6, c7⟩ := HC.out _ hW; (try go_simp); first | done | with_reducible rfl | exact ⟨rfl, rfl⟩))))
  refine wpQuiet_nil ?_
  intro wq hwq
  clear hInh
  go_wp2_with fail
  go_ret
  exact ⟨rfl, hwq⟩
def rfuseD (d : Dev) (n : Int) : Dev := { d with set := decide (0 ≤ n), left := max n 0 }
set_option maxHeartbeats 400000 in
theorem rfuse (h : RfX W g ib ic p s r d v) (n : Int) :
    Calls Try.prog 45 #[.pointer (some ⟨g, 0, none⟩), .int .i64 n] W fun e w' => e = .returned (.tuple #[]) ∧ RfX w' g ib ic p s r (rfuseD d n) v ∧ FlMv W w' g ib v v := by
  obtain ⟨c0, c1, c2, c3, c4, c5, c6, c7⟩ := h.c8
  have f5 := h.fr 5
  have f6 := h.fr 6
  go_enter Try.func45, Try.ntmps45
  go_wp2_with fail
  exact bodyPost_end (v := .tuple #[]) (by simp [results, Try.results45]) rfl ⟨rfl, h.setFuse _ _, ⟨((Mv.refl W).set (by simp [foot]) _).set (by simp [foot]) _, fun k hk => Or.inl hk⟩⟩
def RCountPost (W : World) (g ib ic : Nat) (p s r : Int) (d : Dev) (v : Value) (e : Ending) (w' : World) : Prop :=
  e = .returned (.bool (rcountD d).2) ∧ RfX w' g ib ic p s r (rcountD d).1 v ∧ FlMv W w' g ib v v
set_option maxHeartbeats 800000 in
theorem rcount (h : RfX W g ib ic p s r d v) (hl : d.set = true → 0 ≤ d.left ∧ d.left ≤ 9223372036854775807) :
    Calls Try.prog 56 #[.pointer (some ⟨g, 0, none⟩)] W (RCountPost W g ib ic p s r d v) := by
  obtain ⟨c0, c1, c2, c3, c4, c5, c6, c7⟩ := h.c8
  have f5 := h.fr 5
  have f6 := h.fr 6
  have f7 := h.fr 7
  rcases hs : d.set with _ | _
  · rw [hs] at c5
    have e1 : rcountD d = (d, false) := by unfold rcountD; rw [if_pos hs]
    have HE := Lib.hid e1
    clear e1 hs hl
    go_enter Try.func56, Try.ntmps56
    go_wp2_with fail
    go_ret
    exact ⟨by rw [HE.out]; rfl, by rw [HE.out]; exact h, FlMv.refl _ _ _ _⟩
  · rw [hs] at c5
    obtain ⟨l0, l1⟩ := hl hs
    by_cases hz : d.left = 0
    · have e1 : rcountD d = ({ d with down := true }, true) := by unfold rcountD; rw [if_neg (by rw [hs]; simp), if_pos hz]
      have HE := Lib.hid e1
      rw [hz] at c6
      clear e1 hs hl hz
      go_enter Try.func56, Try.ntmps56
      go_wp2_with fail
      go_ret
      exact ⟨by rw [HE.out]; rfl, by rw [HE.out]; exact h.setDown, ⟨(Mv.refl W).set (by simp [foot]) _, fun k hk => Or.inl hk⟩⟩
    · have e1 : rcountD d = ({ d with left := d.left - 1 }, false) := by unfold rcountD; rw [if_neg (by rw [hs]; simp), if_neg hz]
      have HE := Lib.hid e1
      have hb : (d.left == 0) = false := by simp [hz]
      have hw : IntKind.i64.wrap (d.left - 1) = d.left - 1 := IntWalk.i64_in _ (by omega)
      clear e1 hs hl hz
      go_enter Try.func56, Try.ntmps56
      go_wp2_with fail
      go_ret
      exact ⟨by rw [HE.out]; rfl, by rw [HE.out]; exact h.setLeft _, ⟨(Mv.refl W).set (by simp [foot]) _, fun k hk => Or.inl hk⟩⟩
set_option maxHeartbeats 1600000 in
theorem rwaits (h : RfX W g ib ic p s r d v) (hl : d.row.length ≤ 1000000) (page : Int) : Calls Try.prog 60 #[.pointer (some ⟨g, 0, none⟩), .int .i64 page] W fun e w' => e = .returned (.bool (pendV d.row page).2) ∧ Kp W w' := by
  obtain ⟨c0, c1, c2, c3, c4, c5, c6, c7⟩ := h.c8
  obtain ⟨A, cc, rfl, hrow⟩ := h.rows
  have HR := Lib.hid hrow
  clear hrow
  go_enter Try.func60, Try.ntmps60
  go_wp2_with fail
  go_loop [5] (fun i => ∃ k : Nat, k ≤ d.row.length ∧ i = .int .i64 k ∧ pend (d.row.take k) page = none) (fun i => d.row.length - (intOf i).toNat)
  case atStart => exact ⟨0, Nat.zero_le _, rfl, by rw [List.take_zero]; rfl⟩
  case round =>
    obtain ⟨k, hk, rfl, hpd⟩ := hrel
    by_cases hkl : k < d.row.length
    · have hkl2 : (k : Int) < (d.row.length : Int) := by omega
      obtain ⟨q, rfl, e1, e2⟩ := HR.out k hkl
      by_cases hpg : d.row[k].1 = page
      · have hpv : (pendV d.row page).2 = true := by
          have hs : ∀ (a : ByteArray) (l : Rw), ∃ b, l.foldl (fun acc x => if x.1 = page then some x.2 else acc) (some a) = some b := by
            intro a l
            induction l generalizing a with
            | nil => exact ⟨a, rfl⟩
            | cons x l ih => rw [List.foldl_cons]; split <;> exact ih _
          have hsp : pend d.row page = (d.row.drop (k + 1)).foldl (fun acc x => if x.1 = page then some x.2 else acc) (pend (d.row.take (k + 1)) page) := by
            unfold pend
            rw [← List.foldl_append, List.take_append_drop]
          rw [pend_take _ _ _ hkl, if_pos hpg] at hsp
          obtain ⟨b, hb⟩ := hs d.row[k].2 (d.row.drop (k + 1))
          unfold pendV
          rw [hsp, hb]
        have HP := Lib.hid hpv
        have hb : (d.row[k].1 == page) = true := by simp [hpg]
        clear hpd hpv hpg
        go_wp2_with fail
        go_ret
        exact ⟨by rw [HP.out]; rfl, Kp.refl _⟩
      · have hpd2 : pend (d.row.take (k + 1)) page = none := by rw [pend_take _ _ _ hkl, if_neg hpg]; exact hpd
        have HP := Lib.hid hpd2
        have hb : (d.row[k].1 == page) = false := by simp [hpg]
        clear hpd hpg hpd2
        go_wp2_with fail
        go_round
        case rel => exact ⟨k + 1, by omega, by go_num, HP.out⟩
        case measure => simp [intOf]; omega
    · obtain rfl : k = d.row.length := by omega
      rw [List.take_length] at hpd
      have hpv : (pendV d.row page).2 = false := by unfold pendV; rw [hpd]
      have HP := Lib.hid hpv
      clear hpd hpv
      go_wp2_with fail
      go_ret
      exact ⟨by rw [HP.out]; rfl, Kp.refl _⟩
set_option maxRecDepth 20000 in
set_option maxHeartbeats 1600000 in
theorem rheld (h : RfX W g ib ic p s r d v) (ok : DevOk p s r d) (page : Int) (h0 : 0 ≤ page) (h1 : page < s * r) :
    Calls Try.prog 59 #[.pointer (some ⟨g, 0, none⟩), .int .i64 page] W fun e w' => e = .returned (.string (heldD d p page)) ∧ Kp W w' := by
  have hrl := ok.rl
  have hlen := ok.len
  obtain ⟨b1, b2, b3, b4, b5⟩ := page_bd ok.right h0 h1
  obtain ⟨r1, r2, r3, r4, r5, r6⟩ := id ok.right
  have hcap := h.capok
  have HC := Lib.hid (fun W' (k : Kp W W') => (h.keep k).c8)
  have q1 : IntKind.i64.wrap (page * p) = page * p := IntWalk.i64_in _ (by omega)
  have q2 : IntKind.i64.wrap (page + 1) = page + 1 := IntWalk.i64_in _ (by omega)
  have q3 : IntKind.i64.wrap ((page + 1) * p) = (page + 1) * p := IntWalk.i64_in _ (by omega)
  have z1 : page * p ≤ (page + 1) * p := by omega
  have z2 : 0 ≤ (page + 1) * p := by omega
  have z3 : (page + 1) * p ≤ (d.img.length : Int) := by omega
  have z4 : (page + 1) * p ≤ (ic : Int) := by omega
  have z5 : page * p ≤ (ic : Int) := by omega
  have z6 : max ((page + 1) * p) 0 = (page + 1) * p := by omega
  have z7 : ¬ (ic = (page * p).toNat) := by omega
  have HI := Lib.hid (fun W' (k : Kp W W') => ximg_conv (c := ic - (page * p).toNat) (h.keep k) ok page h0 h1)
  have HRO := Lib.hid (fun W' (k : Kp W W') => (h.keep k).rows)
  clear b3
  go_enter Try.func59, Try.ntmps59
  go_wp2_with fail
  refine wp_region_rel (R := Kp) (C := fun W' => Kp W W') (by kernel_rfl) (by kernel_rfl) (Kp.refl W).drew (fun _ _ h k => h.trans k) Kp.refl (fun _ _ _ h k => h.trans k) ?_
  repeat (refine wpRel_step (fun K hK => ?_); apply rel_eq; (case ob => (intro f W hW hd; (obtain ⟨c0, c1, c2, c3, c4, c5, c6, c7⟩ := HC.out _ hW); (try simp [deps, factOf, Region.binds] at hd); unfold relOp; go_simp; (first | exact ⟨Kp.refl _, rfl⟩ | exact Kp.refl _ | (refine ⟨Kp.refl _, ?_⟩; fail)))); go_simp; refine hK _ _ ?_; clear hK K)
  refine wpRel_step (fun K hK => ?_)
  apply rel_fact (fun v _ => v = .string (strN (pgN d.img p.toNat page.toNat))) (fun _ _ _ _ h => h)
  case ob =>
    intro f W hW hd
    have hcv := HI.out _ hW
    (try simp [deps, factOf, Region.binds] at hd)
    unfold relOp
    go_simp
    first | exact ⟨Kp.refl _, rfl⟩ | exact Kp.refl _
  go_simp
  refine hK _ _ ?_
  clear hK K
  repeat (refine wpRel_step (fun K hK => ?_); apply rel_eq; (case ob => (intro f W hW hd; (obtain ⟨c0, c1, c2, c3, c4, c5, c6, c7⟩ := HC.out _ hW); (try simp [deps, factOf, Region.binds] at hd); unfold relOp; go_simp; (first | exact ⟨Kp.refl _, rfl⟩ | exact Kp.refl _ | (refine ⟨Kp.refl _, ?_⟩; fail)))); go_simp; refine hK _ _ ?_; clear hK K)
  refine wpRel_nil ?_
  intro f W' hW hall
  have h21 : f 21 = .string (strN (pgN d.img p.toNat page.toNat)) := allF_get hall 21 _ rfl
  clear hall
  dsimp only
  rw [h21]
  obtain ⟨c0, c1, c2, c3, c4, c5, c6, c7⟩ := HC.out _ hW
  obtain ⟨A, cc, hv, hrow⟩ := HRO.out _ hW
  rw [hv] at c4
  have HR := Lib.hid hrow
  have HHD : Hid (heldD d p page = (pend d.row page).getD (strN (pgN d.img p.toNat page.toNat))) := Lib.hid rfl
  generalize strN (pgN d.img p.toNat page.toNat) = base at *
  clear hrow hv HI HC HRO h21
  go_wp2_with fail
  go_loop [5, 6] (fun b i => ∃ k : Nat, k ≤ d.row.length ∧ i = .int .i64 k ∧ b = .string ((pend (d.row.take k) page).getD base)) (fun _ i => d.row.length - (intOf i).toNat)
  case atStart => exact ⟨0, Nat.zero_le _, rfl, by rw [List.take_zero]; rfl⟩
  case round =>
    obtain ⟨k, hk, rfl, rfl⟩ := hrel
    by_cases hkl : k < d.row.length
    · have hkl2 : (k : Int) < (d.row.length : Int) := by omega
      obtain ⟨q, rfl, e1, e2⟩ := HR.out k hkl
      have hps := pend_take d.row page k hkl
      by_cases hpg : d.row[k].1 = page
      · rw [if_pos hpg] at hps
        have HP := Lib.hid hps
        have hb : (d.row[k].1 == page) = true := by simp [hpg]
        clear hps hpg
        generalize hx : d.row[k].2 = x at *
        go_wp2_with fail
        go_round
        case rel => exact ⟨k + 1, by omega, by go_num, by rw [HP.out]; rfl⟩
        case measure => simp [intOf]; omega
      · rw [if_neg hpg] at hps
        have HP := Lib.hid hps
        have hb : (d.row[k].1 == page) = false := by simp [hpg]
        clear hps hpg
        go_wp2_with fail
        go_round
        case rel => exact ⟨k + 1, by omega, by go_num, by rw [HP.out]⟩
        case measure => simp [intOf]; omega
    · obtain rfl : k = d.row.length := by omega
      rw [List.take_length, ← HHD.out]
      go_wp2_with fail
      go_ret
      exact ⟨rfl, hW⟩
set_option maxHeartbeats 1600000 in
theorem rread (h : RfX W g ib ic p s r d v) (ok : DevOk p s r d) (page : Int) :
    Calls Try.prog 47 #[.pointer (some ⟨g, 0, none⟩), .int .i64 page] W fun e w' => e = .returned (.tuple #[.string (readD p s r d page).1, .int .i64 (readD p s r d page).2]) ∧ Kp W w' := by
  have HPP := Lib.hid (fun W' (k : Kp W W') => rpages (h.keep k) ok.right)
  obtain ⟨c0, c1, c2, c3, c4, c5, c6, c7⟩ := h.c8
  rcases hd : d.down with _ | _
  · rw [hd] at c7
    have hcases : page < 0 ∨ (0 ≤ page ∧ s * r ≤ page) ∨ (0 ≤ page ∧ page < s * r) := by omega
    rcases hcases with hc | ⟨hc1, hc⟩ | ⟨hc1, hc⟩
    · have e1 : readD p s r d page = (⟨#[]⟩, 1) := by unfold readD; rw [if_neg (by rw [hd]; simp), if_pos (Or.inl hc)]
      rw [e1]
      clear e1 hd
      go_enter Try.func47, Try.ntmps47
      go_wp2_with fail
      go_ret2
      exact ⟨rfl, Kp.refl _⟩
    · have e1 : readD p s r d page = (⟨#[]⟩, 1) := by unfold readD; rw [if_neg (by rw [hd]; simp), if_pos (Or.inr hc)]
      rw [e1]
      clear e1 hd
      have hdec : decide (s * r ≤ page) = true := by simpa using hc
      go_enter Try.func47, Try.ntmps47
      go_wp2_with fail
      refine (HPP.out _ (Kp.refl _)).mono ?_
      rintro e w2 ⟨rfl, hk2⟩
      go_wp2_with fail
      go_ret2
      exact ⟨rfl, hk2⟩
    · have e1 : readD p s r d page = (heldD d p page, 0) := by unfold readD; rw [if_neg (by rw [hd]; simp), if_neg (by omega)]
      have HHE := Lib.hid (fun W' (k : Kp W W') => rheld (h.keep k) ok page hc1 hc)
      rw [e1]
      have hdec : decide (s * r ≤ page) = false := by simp; omega
      clear e1 hd
      generalize heldD d p page = x at *
      go_enter Try.func47, Try.ntmps47
      go_wp2_with fail
      refine (HPP.out _ (Kp.refl _)).mono ?_
      rintro e w2 ⟨rfl, hk2⟩
      go_wp2_with fail
      refine (HHE.out _ hk2).mono ?_
      rintro e w3 ⟨rfl, hk3⟩
      go_wp2_with fail
      go_ret2
      exact ⟨rfl, hk2.trans hk3⟩
  · rw [hd] at c7
    have e1 : readD p s r d page = (⟨#[]⟩, 6) := by unfold readD; rw [if_pos hd]
    rw [e1]
    clear e1 hd
    go_enter Try.func47, Try.ntmps47
    go_wp2_with fail
    go_ret2
    exact ⟨rfl, Kp.refl _⟩
end
end Go.Proofs.Ytbclmnlggngepaa
