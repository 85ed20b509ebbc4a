/- The walk of PieceMade. -/
import Derived.Test.YtadggldngoknjaaLawPiece
namespace Go.Proofs.Ytadggldngoknjaa
open Go.RowKit
set_option linter.unusedVariables false

set_option maxRecDepth 20000 in
set_option maxHeartbeats 1600000 in
theorem one_gen (pv : Value) (k a b : Int) (s : ByteArray) (hs : s.size ≤ 9223372036854775807)
    (hF : ∀ w, Calls Try.prog 15 #[pv] w fun e w' => e = .returned (frameV k a b s) ∧ Kp w w') (w : World) :
    Calls Try.prog 10 #[pv, frv k a b s] w fun e w' => e = .returned (.bool true) ∧ Kp w w' := by
  have HF := Lib.hid hF
  have hp := fun w => pr_any k a b s hs w
  rcases ho : ofP k a b s with _ | q
  · have hfv : frameV k a b s = .tuple #[frv 0 0 0 ⟨#[]⟩, .int .i64 2] := by unfold frameV; rw [ho]
    rw [ho] at hp
    simp only [Option.isSome_none] at hp
    have HP := Lib.hid hp
    rw [hfv] at HF
    clear hF hp hfv ho
    go_enter Try.func10, Try.ntmps10
    go_wp2_with fail
    refine (HF.out _).mono ?_
    rintro e w1 ⟨rfl, hk1⟩
    have b1 := (Bk.new w 29 [.int .i64 k, .int .u32 a, .int .u32 b, .string s]).keep hk1
    have k1 := Kp.trans (Kp.one w _) hk1
    clear hk1
    obtain ⟨c0, c1, c2, c3⟩ := (b1.alloc (fob 0 0 0 ⟨#[]⟩)).c4
    go_wp2_with fail
    refine (HP.out _).mono ?_
    rintro e w2 ⟨rfl, hk2⟩
    have b2 := (Bk.new w1 29 [.int .i64 0, .int .u32 0, .int .u32 0, .string ⟨#[]⟩]).keep hk2
    have k2 := Kp.trans (k1.alloc _) hk2
    clear hk2 c0 c1 c2 c3
    obtain ⟨c0, c1, c2, c3⟩ := b2.c4
    go_wp2_with fail
    go_ret
    exact ⟨rfl, by (repeat (first | with_reducible exact Kp.refl _ | with_reducible assumption | with_reducible refine Kp.alloc ?_ _ | with_reducible refine Kp.drew ?_ | with_reducible refine Kp.drewN ?_ _ | exact Kp.refl _ | assumption | refine Kp.alloc ?_ _ | refine Kp.drew ?_ | refine Kp.drewN ?_ _ | refine Kp.trans ?_ (by assumption)))⟩
  · have hfv : frameV k a b s = .tuple #[frv k a b s, .int .i64 0] := by unfold frameV; rw [ho]
    rw [ho] at hp
    simp only [Option.isSome_some] at hp
    have HP := Lib.hid hp
    rw [hfv] at HF
    clear hF hp hfv ho
    go_enter Try.func10, Try.ntmps10
    go_wp2_with fail
    refine (HF.out _).mono ?_
    rintro e w1 ⟨rfl, hk1⟩
    have b1 := (Bk.new w 29 [.int .i64 k, .int .u32 a, .int .u32 b, .string s]).keep hk1
    have k1 := Kp.trans (Kp.one w _) hk1
    clear hk1
    obtain ⟨c0, c1, c2, c3⟩ := (b1.alloc (fob k a b s)).c4
    go_wp2_with fail
    refine (HP.out _).mono ?_
    rintro e w2 ⟨rfl, hk2⟩
    have b2 := (Bk.new w1 29 [.int .i64 k, .int .u32 a, .int .u32 b, .string s]).keep hk2
    have b1 := (b1.alloc _).keep hk2
    have k2 := Kp.trans (k1.alloc _) hk2
    clear hk2 c0 c1 c2 c3
    obtain ⟨c0, c1, c2, c3⟩ := b2.c4
    obtain ⟨d0, d1, d2, d3⟩ := b1.c4
    go_wp2_with fail
    go_ret
    exact ⟨rfl, by (repeat (first | with_reducible exact Kp.refl _ | with_reducible assumption | with_reducible refine Kp.alloc ?_ _ | with_reducible refine Kp.drew ?_ | with_reducible refine Kp.drewN ?_ _ | exact Kp.refl _ | assumption | refine Kp.alloc ?_ _ | refine Kp.drew ?_ | refine Kp.drewN ?_ _ | refine Kp.trans ?_ (by assumption)))⟩

theorem one_head (a b : Int) (w : World) : Calls Try.prog 10 #[pval (some (.head a b)), frv 1 a b ⟨#[]⟩] w fun e w' => e = .returned (.bool true) ∧ Kp w w' :=
  one_gen _ 1 a b ⟨#[]⟩ (by decide) (fun w => frame_any (some (.head a b)) trivial w) w
theorem one_part (a b : Int) (s : ByteArray) (hs : s.size ≤ 9223372036854775807) (w : World) : Calls Try.prog 10 #[pval (some (.part a b s)), frv 2 a b s] w fun e w' => e = .returned (.bool true) ∧ Kp w w' :=
  one_gen _ 2 a b s hs (fun w => frame_any (some (.part a b s)) hs w) w
theorem one_seal (a b c d x y : Int) (h1 : 0 ≤ c ∧ c ≤ 4294967295) (h2 : 0 ≤ d ∧ d ≤ 4294967295) (h3 : 0 ≤ x ∧ x ≤ 4294967295) (h4 : 0 ≤ y ∧ y ≤ 4294967295) (w : World) :
    Calls Try.prog 10 #[pval (some (.slp a b c d x y)), frv 3 a b (put c.toNat ++ put d.toNat ++ put x.toNat ++ put y.toNat)] w fun e w' => e = .returned (.bool true) ∧ Kp w w' :=
  one_gen _ 3 a b (put c.toNat ++ put d.toNat ++ put x.toNat ++ put y.toNat) (by simp only [ByteArray.size_append, put_size]; omega) (fun w => frame_any (some (.slp a b c d x y)) ⟨h1, h2, h3, h4⟩ w) w
theorem one_floor (a b c : Int) (h1 : 0 ≤ c ∧ c ≤ 4294967295) (w : World) :
    Calls Try.prog 10 #[pval (some (.floor a b c)), frv 4 a b (put c.toNat)] w fun e w' => e = .returned (.bool true) ∧ Kp w w' :=
  one_gen _ 4 a b (put c.toNat) (by rw [put_size]; omega) (fun w => frame_any (some (.floor a b c)) h1 w) w

set_option maxRecDepth 20000 in
set_option maxHeartbeats 3200000 in
theorem PieceMade_walk (w : World) (a : Int) (wa : (Lit.int .u32 a).wf = true) (b : Int) (wb : (Lit.int .u32 b).wf = true) (c : Int) (wc : (Lit.int .u32 c).wf = true) (d : Int) (wd : (Lit.int .u32 d).wf = true)
    (x : Int) (wx : (Lit.int .u32 x).wf = true) (y : Int) (wy : (Lit.int .u32 y).wf = true) (s : ByteArray) (hs : s.size ≤ 140737488351232) (small : Bool) :
    Calls Try.prog 3 #[.int .u32 a, .int .u32 b, .int .u32 c, .int .u32 d, .int .u32 x, .int .u32 y, .string s, .bool small] w fun e w' => e = .returned (.bool true) ∧ Kp w w' := by
  have ba := bounds_u32 wa
  have bb := bounds_u32 wb
  have bc := bounds_u32 wc
  have bd := bounds_u32 wd
  have bx := bounds_u32 wx
  have bz := bounds_u32 wy
  clear wa wb wc wd wx wy
  have hp4 := put_size
  have hs' : s.size ≤ 9223372036854775807 := by omega
  go_enter Try.func3, Try.ntmps3
  go_upto_if 18 with fail
  go_cut [0, 1, 2, 3] (fun v0 v1 v2 v3 wz => w = wz ∧ ∃ a b c d : Int, v0 = .int .u32 a ∧ v1 = .int .u32 b ∧ v2 = .int .u32 c ∧ v3 = .int .u32 d ∧ (0 ≤ c ∧ c ≤ 4294967295) ∧ (0 ≤ d ∧ d ≤ 4294967295))
  case first =>
    rcases small with _ | _
    · go_wp2_with fail
      go_meet
      exact ⟨rfl, _, _, _, _, rfl, rfl, rfl, rfl, by omega, by omega⟩
    · go_wp2_with fail
      go_meet
      exact ⟨rfl, _, _, _, _, rfl, rfl, rfl, rfl, by omega, by omega⟩
  case rest =>
    obtain ⟨rfl, a, b, c, d, rfl, rfl, rfl, rfl, hc, hd⟩ := hcut
    have H1 := Lib.hid (one_head a b)
    have H2 := Lib.hid (one_part a b s hs')
    have H3 := Lib.hid (one_seal a b c d x y hc hd (by omega) (by omega))
    have H4 := Lib.hid (one_floor a b c hc)
    simp only [pval] at H1 H2 H3 H4
    go_wp2_with fail
    refine (put4_x _ (by omega) (by omega) _).mono ?_
    rintro e w' ⟨rfl, rfl⟩
    go_wp2_with fail
    refine (put4_x _ (by omega) (by omega) _).mono ?_
    rintro e w' ⟨rfl, rfl⟩
    go_wp2_with fail
    refine (put4_x _ (by omega) (by omega) _).mono ?_
    rintro e w' ⟨rfl, rfl⟩
    go_wp2_with fail
    refine (put4_x _ (by omega) (by omega) _).mono ?_
    rintro e w' ⟨rfl, rfl⟩
    go_wp2_with fail
    refine (alive_any _).mono ?_
    rintro e w1 ⟨rfl, hk1⟩
    go_wp2_with fail
    refine (H1.out _).mono ?_
    rintro e w2 ⟨rfl, hk2⟩
    go_wp2_with fail
    refine (H2.out _).mono ?_
    rintro e w3 ⟨rfl, hk3⟩
    go_wp2_with fail
    refine (H3.out _).mono ?_
    rintro e w4 ⟨rfl, hk4⟩
    go_wp2_with fail
    refine (put4_x _ (by omega) (by omega) _).mono ?_
    rintro e w' ⟨rfl, rfl⟩
    go_wp2_with fail
    refine (H4.out _).mono ?_
    rintro e w5 ⟨rfl, hk5⟩
    go_wp2_with fail
    go_ret
    refine ⟨rfl, Kp.trans (Kp.alloc (Kp.trans (Kp.trans (Kp.trans (Kp.trans ?_ hk1) hk2) hk3) hk4) _) hk5⟩
    (repeat (first | with_reducible exact Kp.refl _ | with_reducible assumption | with_reducible refine Kp.alloc ?_ _ | with_reducible refine Kp.drew ?_ | with_reducible refine Kp.drewN ?_ _ | exact Kp.refl _ | assumption | refine Kp.alloc ?_ _ | refine Kp.drew ?_ | refine Kp.drewN ?_ _ | refine Kp.trans ?_ (by assumption)))
end Go.Proofs.Ytadggldngoknjaa
