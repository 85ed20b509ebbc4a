/- The contracts of the reference's page. -/
import Derived.Test.YtdolclmeflaipaaFrame
namespace Go.Proofs.Ytdolclmeflaipaa
open Go.RowKit
set_option linter.unusedVariables false

theorem ofInt_64 (a : Nat) (ha : a < 18446744073709551616) : (BitVec.ofInt 64 (a : Int)).toNat = a := by
  rw [BitVec.ofInt_natCast, BitVec.toNat_ofNat]; exact Nat.mod_eq_of_lt (by omega)
theorem wrap_small (n : Nat) (h : n < 4294967296) : IntKind.i64.wrap (n : Int) = (n : Int) := by
  simp [IntKind.wrap, IntKind.bits, IntKind.signed]; omega
theorem i64_and_nat (a b : Nat) (ha : a < 4294967296) (hb : b < 4294967296) : bits .and .i64 (a : Int) (b : Int) = ((a &&& b : Nat) : Int) := by
  have hx : a &&& b < 2 ^ 32 := Nat.and_lt_two_pow _ (by omega)
  show IntKind.i64.wrap ((BitVec.ofInt 64 (a : Int) &&& BitVec.ofInt 64 (b : Int)).toNat : Int) = _
  rw [BitVec.toNat_and, ofInt_64 a (by omega), ofInt_64 b (by omega), wrap_small _ hx]
theorem i64_or_nat (a b : Nat) (ha : a < 4294967296) (hb : b < 4294967296) : bits .or .i64 (a : Int) (b : Int) = ((a ||| b : Nat) : Int) := by
  have hx : a ||| b < 2 ^ 32 := Nat.or_lt_two_pow (by omega) (by omega)
  show IntKind.i64.wrap ((BitVec.ofInt 64 (a : Int) ||| BitVec.ofInt 64 (b : Int)).toNat : Int) = _
  rw [BitVec.toNat_or, ofInt_64 a (by omega), ofInt_64 b (by omega), wrap_small _ hx]
theorem and255i (x : Nat) (h : x < 256) : bits .and .i64 (x : Int) 255 = (x : Int) := by
  have := i64_and_nat x 255 (by omega) (by omega)
  rw [show ((255 : Nat) : Int) = 255 from rfl] at this
  rw [this, show (255 : Nat) = 2 ^ 8 - 1 from rfl, Nat.and_two_pow_sub_one_eq_mod, Nat.mod_eq_of_lt (by omega)]
theorem or256 (x y : Nat) (hx : x < 256) (hy : y < 256) : bits .or .i64 (x : Int) ((y : Int) * 256) = ((x + 256 * y : Nat) : Int) := by
  have := i64_or_nat x (y * 256) (by omega) (by omega)
  rw [show ((y * 256 : Nat) : Int) = (y : Int) * 256 by omega] at this
  rw [this, show (256 : Nat) = 2 ^ 8 from rfl, or_add x y 8 (by omega)]
  omega
set_option maxHeartbeats 1600000 in
theorem refpage_any (n k a b : Int) (s : ByteArray) (hk : 1 ≤ k ∧ k ≤ 4) (ha : 0 ≤ a ∧ a ≤ 4294967295) (hb : 0 ≤ b ∧ b ≤ 4294967295) (hn : n ≤ 128) (hs : (s.size : Int) + 15 ≤ n) (w : World) :
    Calls Try.prog 29 #[.int .i64 n, frv k a b s] w fun e w' => e = .returned (.string (pageS n k a b s)) ∧ Kp w w' := by
  have HB := Lib.hid (Frk w k a b s)
  have hand : bits .and .i64 (s.size : Int) 255 = (s.size : Int) := and255i s.size (by omega)
  have hbig : ¬ (9223372036854775807 < (strOfNums [k]).size + (put a.toNat).size + (put b.toNat).size + (strOfNums [(s.size : Int), 0]).size + s.size) := by simp only [strOfNums_size, put_size]; simp; omega
  have hws : IntKind.u8.wrap (s.size : Int) = (s.size : Int) := by simp [IntKind.wrap, IntKind.bits, IntKind.signed]; omega
  have hws2 : IntKind.u8.wrap ((s.size : Int) / 256) = 0 := by rw [show (s.size : Int) / 256 = 0 by omega]; rfl
  have hwk : IntKind.u8.wrap k = k := by simp [IntKind.wrap, IntKind.bits, IntKind.signed]; omega
  go_enter Try.func29, Try.ntmps29
  go_wp2_with fail
  have hK1 := Kp.one w (fob k a b s)
  generalize w.alloc (fob k a b s) = w1 at *
  refine wp_region_rel (R := Kp) (C := fun W => Kp w1 W) (by kernel_rfl) (by kernel_rfl) (Kp.refl w1).drew (fun _ _ h k => h.trans k) Kp.refl (fun _ _ _ h k => h.trans k) ?_
  repeat (refine wpRel_step (fun K hK => ?_); apply rel_eq; (case ob => (intro f W hW hd; (obtain ⟨b0, b1, b2, b3⟩ := HB.out _ hW); (try simp [deps, factOf, Region.binds] at hd); unfold relOp; go_simp; (first | exact ⟨Kp.refl _, rfl⟩ | exact Kp.refl _ | (refine ⟨Kp.refl _, ?_⟩; fail)))); go_simp; refine hK _ _ ?_; clear hK K)
  refine wpRel_step (fun K hK => ?_)
  apply rel_fact (fun v W => ∃ q, v = .slice (some ⟨q, 0, none⟩) 1 1 ∧ Bk W q 5 (vb [k])) (fun v W W' hr ⟨q, h1, h2⟩ => ⟨q, h1, h2.keep hr⟩)
  case ob =>
    intro f W hW hd
    obtain ⟨b0, b1, b2, b3⟩ := HB.out _ hW
    (try simp [deps, factOf, Region.binds] at hd)
    unfold relOp
    go_simp
    exact ⟨Kp.one _ _, Bk.new _ _ _⟩
  go_simp
  refine hK _ _ ?_
  clear hK K
  refine wpRel_step (fun K hK => ?_)
  apply rel_fact (fun v _ => v = .string (strOfNums [k])) (fun _ _ _ _ h => h)
  case ob =>
    intro f W hW hd
    (simp [deps, factOf, Region.binds] at hd; obtain ⟨q, e3, hq⟩ := hd; have hcv := conv_bk (n := 1) hq rfl)
    (try simp [deps, factOf, Region.binds] at hd)
    unfold relOp
    go_simp
    first | exact ⟨Kp.refl _, rfl⟩ | exact Kp.refl _
  go_simp
  refine hK _ _ ?_
  clear hK K
  repeat (refine wpRel_step (fun K hK => ?_); apply rel_eq; (case ob => (intro f W hW hd; (obtain ⟨b0, b1, b2, b3⟩ := HB.out _ hW); (try simp [deps, factOf, Region.binds] at hd); unfold relOp; go_simp; (first | exact ⟨Kp.refl _, rfl⟩ | exact Kp.refl _ | (refine ⟨Kp.refl _, ?_⟩; (go_at_call 21; refine (put4K _ (by assumption) _).mono ?_; rintro e w' ⟨rfl, hk9⟩; exact ⟨rfl, hk9⟩))))); go_simp; refine hK _ _ ?_; clear hK K)
  refine wpRel_step (fun K hK => ?_)
  apply rel_fact (fun v W => ∃ q, v = .slice (some ⟨q, 0, none⟩) 2 2 ∧ Bk W q 5 (vb [(s.size : Int), 0])) (fun v W W' hr ⟨q, h1, h2⟩ => ⟨q, h1, h2.keep hr⟩)
  case ob =>
    intro f W hW hd
    skip
    (try simp [deps, factOf, Region.binds] at hd)
    unfold relOp
    go_simp
    exact ⟨Kp.one _ _, Bk.new _ _ _⟩
  go_simp
  refine hK _ _ ?_
  clear hK K
  refine wpRel_step (fun K hK => ?_)
  apply rel_fact (fun v _ => v = .string (strOfNums [(s.size : Int), 0])) (fun _ _ _ _ h => h)
  case ob =>
    intro f W hW hd
    (simp [deps, factOf, Region.binds] at hd; obtain ⟨q, e3, hq⟩ := hd; have hcv := conv_bk (n := 2) hq rfl)
    (try simp [deps, factOf, Region.binds] at hd)
    unfold relOp
    go_simp
    first | exact ⟨Kp.refl _, rfl⟩ | exact Kp.refl _
  go_simp
  refine hK _ _ ?_
  clear hK K
  repeat (refine wpRel_step (fun K hK => ?_); apply rel_eq; (case ob => (intro f W hW hd; (obtain ⟨b0, b1, b2, b3⟩ := HB.out _ hW); (try simp [deps, factOf, Region.binds] at hd); unfold relOp; go_simp; (first | exact ⟨Kp.refl _, rfl⟩ | exact Kp.refl _ | (refine ⟨Kp.refl _, ?_⟩; fail)))); go_simp; refine hK _ _ ?_; clear hK K)
  refine wpRel_nil ?_
  intro f W hW hall
  have h29 : f 29 = .string (headS k a b s) := allF_get hall 29 _ rfl
  clear hall HB
  have hz := headS_size k a b s
  have hz1 : ((headS k a b s).size : Int) ≤ n - 4 := by omega
  have hz2 : (headS k a b s).size ≤ 128 := by omega
  clear hz
  have HE : Hid (pageS n k a b s = headS k a b s ++ fillS 0 (n - 4 - (headS k a b s).size).toNat ++ put (crcN (headS k a b s ++ fillS 0 (n - 4 - (headS k a b s).size).toNat))) := Lib.hid rfl
  generalize headS k a b s = hh at *
  go_wp2_with fail
  refine (fill_any 0 _ (by omega) (by omega) _).mono ?_
  rintro e w3 ⟨rfl, hk3⟩
  have hf := fillS_size 0 (n - 4 - (hh.size : Int)).toNat
  have hf2 : (fillS 0 (n - 4 - (hh.size : Int)).toNat).size ≤ 128 := by omega
  clear hf
  generalize fillS 0 (n - 4 - (hh.size : Int)).toNat = z at *
  have hsz : (hh ++ z).size ≤ 9223372036854775807 := by rw [ByteArray.size_append]; omega
  go_wp2_with fail
  refine (refcrc_any (hh ++ z) hsz _).mono ?_
  rintro e w4 ⟨rfl, rfl⟩
  have hcI := crcI (hh ++ z)
  go_wp2_with fail
  refine (put4K _ hcI _).mono ?_
  rintro e w4 ⟨rfl, hk4⟩
  have hpz := put_size (crcN (hh ++ z))
  have hpz2 : (put (crcN (hh ++ z))).size ≤ 4 := by omega
  clear hpz hsz
  go_wp2_with fail
  go_ret
  exact ⟨by rw [HE.out]; rfl, (((hK1.trans hW).trans hk3)).trans hk4⟩
end Go.Proofs.Ytdolclmeflaipaa
