/- Merged texts: Frame, Frame2, Frame3, FrMath, FrRead, FrRead2, FrLaw, FrLaw2. -/
import Derived.Test.YtnhogmheedeeiaaGreatGA
import Derived.Test.YtnhogmheedeeiaaGreatShelf
set_option linter.unusedSimpArgs false
set_option linter.unusedVariables false
/- The contracts of package frame: page. -/
namespace Go.Proofs.YtnhogmheedeeiaaGreat
open Go.RowKit
set_option linter.unusedVariables false
set_option maxRecDepth 20000

/-- A frame's box stays. -/
theorem FrkB (w : World) (n : Nat) (hn : w.heap.size = n) (k a b : Int) (s : ByteArray) : ∀ W, Kp (w.alloc (fob k a b s)) W → W.cell? ⟨n, 0, none⟩ = some (.int .i64 k) ∧ W.cell? ⟨n, 1, none⟩ = some (.int .u32 a) ∧ W.cell? ⟨n, 2, none⟩ = some (.int .u32 b) ∧ W.cell? ⟨n, 3, none⟩ = some (.string s) := by
  subst hn; exact Frk w k a b s
/-- A page up to its body's end. -/
def headS (k a b : Int) (s : ByteArray) : ByteArray := strOfNums [k] ++ put a.toNat ++ put b.toNat ++ strOfNums [(s.size : Int), 0] ++ s
def fullS (n k a b : Int) (s : ByteArray) : ByteArray := headS k a b s ++ fillS 0 (n - 4 - (headS k a b s).size).toNat
/-- A page with a frame. -/
def pageS (n k a b : Int) (s : ByteArray) : ByteArray := fullS n k a b s ++ put (crcN (fullS n k a b s))
theorem headS_size (k a b : Int) (s : ByteArray) : (headS k a b s).size = 11 + s.size := by
  unfold headS
  simp only [ByteArray.size_append, strOfNums_size, put_size]
  simp
theorem putK (c : Int) (h : 0 ≤ c ∧ c ≤ 4294967295) (w : World) : Calls Tryz.prog 66 #[.int .u32 c] w fun e w' => e = .returned (.string (put c.toNat)) ∧ Kp w w' :=
  (put_x c h.1 h.2 w).mono fun e w' ⟨h1, h2⟩ => ⟨h1, h2 ▸ Kp.one _ _⟩
theorem put4K (c : Int) (h : 0 ≤ c ∧ c ≤ 4294967295) (w : World) : Calls Tryz.prog 93 #[.int .u32 c] w fun e w' => e = .returned (.string (put c.toNat)) ∧ Kp w w' :=
  (put4_x c h.1 h.2 w).mono fun e w' ⟨h1, h2⟩ => ⟨h1, h2 ▸ Kp.one _ _⟩
theorem one_cell (w : World) (a : Value) (t : TypeId) : (w.alloc (.cells #[a] t)).cell? ⟨w.heap.size, 0, none⟩ = some a := by
  rw [World.cell?_alloc_at _ _ _ _ rfl]; rfl
theorem crcI (s : ByteArray) : 0 ≤ ((crcN s : Nat) : Int) ∧ ((crcN s : Nat) : Int) ≤ 4294967295 := by have := crcN_lt s; omega
theorem rep0 (c : Nat) : (⟨(Lib.repeatL [0] c).toArray⟩ : ByteArray) = fillS 0 c := by
  apply ByteArray.ext
  apply Array.toList_inj.1
  unfold fillS
  rw [strOfNums_data]
  simp
  induction c with
  | zero => rfl
  | succ c ih => rw [Lib.repeatL, ih]; rfl
theorem repK (N : Int) (h0 : 0 ≤ N) (h1 : N ≤ 140737488351232) (w : World) : Calls Tryz.prog 59 #[.string ⟨#[0]⟩, .int .i64 N] w fun e w' => e = .returned (.string (fillS 0 N.toNat)) ∧ Kp w w' := by
  have := Tryz.strings_Repeat ⟨#[0]⟩ N.toNat w (by omega) (by show 1 * _ ≤ _; omega)
  rw [Int.toNat_of_nonneg h0] at this
  exact this.mono fun e w' ⟨h1, h2⟩ => ⟨by rw [h1, ← rep0], h2⟩
set_option maxHeartbeats 1600000 in
theorem page_any (n k a b : Int) (s : ByteArray) (hk : 1 ≤ k ∧ k ≤ 4) (ha : 0 ≤ a ∧ a ≤ 4294967295) (hb : 0 ≤ b ∧ b ≤ 4294967295) (hn : n ≤ 128) (hs : (s.size : Int) + 15 ≤ n) (w : World) :
    Calls Tryz.prog 69 #[.int .i64 n, frv k a b s] w fun e w' => e = .returned (.string (pageS n k a b s)) ∧ Kp w w' := by
  have HB := Lib.hid (Frk w k a b s)
  have hbig : ¬ (9223372036854775807 < (strOfNums [k]).size + (put a.toNat).size + (put b.toNat).size + (strOfNums [(s.size : Int), 0]).size + s.size) := by simp only [strOfNums_size, put_size]; simp; omega
  have hws : IntKind.u8.wrap (s.size : Int) = (s.size : Int) := by simp [IntKind.wrap, IntKind.bits, IntKind.signed]; omega
  have hws2 : IntKind.u8.wrap ((s.size : Int) / 256) = 0 := by rw [show (s.size : Int) / 256 = 0 by omega]; rfl
  have hwk : IntKind.u8.wrap k = k := by simp [IntKind.wrap, IntKind.bits, IntKind.signed]; omega
  go_enter Tryz.func69, Tryz.ntmps69
  go_wp2_with fail
  have hK1 := Kp.one w (fob k a b s)
  generalize w.alloc (fob k a b s) = w1 at *
  refine wp_region_rel (R := Kp) (C := fun W => Kp w1 W) (by kernel_rfl) (by kernel_rfl) (Kp.refl w1).drew (fun _ _ h k => h.trans k) Kp.refl (fun _ _ _ h k => h.trans k) ?_
  repeat (refine wpRel_step (fun K hK => ?_); apply rel_eq; (case ob => (intro f W hW hd; (obtain ⟨b0, b1, b2, b3⟩ := HB.out _ hW); (try simp [deps, factOf, Region.binds] at hd); unfold relOp; go_simp; (first | exact ⟨Kp.refl _, rfl⟩ | exact Kp.refl _ | (refine ⟨Kp.refl _, ?_⟩; fail)))); go_simp; refine hK _ _ ?_; clear hK K)
  refine wpRel_step (fun K hK => ?_)
  apply rel_fact (fun v W => ∃ q, v = .slice (some ⟨q, 0, none⟩) 1 1 ∧ Bk W q 5 (vb [k])) (fun v W W' hr ⟨q, h1, h2⟩ => ⟨q, h1, h2.keep hr⟩)
  case ob =>
    intro f W hW hd
    obtain ⟨b0, b1, b2, b3⟩ := HB.out _ hW
    (try simp [deps, factOf, Region.binds] at hd)
    unfold relOp
    go_simp
    exact ⟨Kp.one _ _, Bk.new _ _ _⟩
  go_simp
  refine hK _ _ ?_
  clear hK K
  refine wpRel_step (fun K hK => ?_)
  apply rel_fact (fun v _ => v = .string (strOfNums [k])) (fun _ _ _ _ h => h)
  case ob =>
    intro f W hW hd
    (simp [deps, factOf, Region.binds] at hd; obtain ⟨q, e3, hq⟩ := hd; have hcv := conv_bk (n := 1) hq rfl)
    (try simp [deps, factOf, Region.binds] at hd)
    unfold relOp
    go_simp
    first | exact ⟨Kp.refl _, rfl⟩ | exact Kp.refl _
  go_simp
  refine hK _ _ ?_
  clear hK K
  repeat (refine wpRel_step (fun K hK => ?_); apply rel_eq; (case ob => (intro f W hW hd; (obtain ⟨b0, b1, b2, b3⟩ := HB.out _ hW); (try simp [deps, factOf, Region.binds] at hd); unfold relOp; go_simp; (first | exact ⟨Kp.refl _, rfl⟩ | exact Kp.refl _ | (refine ⟨Kp.refl _, ?_⟩; (go_at_call 66; refine (putK _ (by assumption) _).mono ?_; rintro e w' ⟨rfl, hk9⟩; exact ⟨rfl, hk9⟩))))); go_simp; refine hK _ _ ?_; clear hK K)
  refine wpRel_step (fun K hK => ?_)
  apply rel_fact (fun v W => ∃ q, v = .slice (some ⟨q, 0, none⟩) 2 2 ∧ Bk W q 5 (vb [(s.size : Int), 0])) (fun v W W' hr ⟨q, h1, h2⟩ => ⟨q, h1, h2.keep hr⟩)
  case ob =>
    intro f W hW hd
    skip
    (try simp [deps, factOf, Region.binds] at hd)
    unfold relOp
    go_simp
    exact ⟨Kp.one _ _, Bk.new _ _ _⟩
  go_simp
  refine hK _ _ ?_
  clear hK K
  refine wpRel_step (fun K hK => ?_)
  apply rel_fact (fun v _ => v = .string (strOfNums [(s.size : Int), 0])) (fun _ _ _ _ h => h)
  case ob =>
    intro f W hW hd
    (simp [deps, factOf, Region.binds] at hd; obtain ⟨q, e3, hq⟩ := hd; have hcv := conv_bk (n := 2) hq rfl)
    (try simp [deps, factOf, Region.binds] at hd)
    unfold relOp
    go_simp
    first | exact ⟨Kp.refl _, rfl⟩ | exact Kp.refl _
  go_simp
  refine hK _ _ ?_
  clear hK K
  repeat (refine wpRel_step (fun K hK => ?_); apply rel_eq; (case ob => (intro f W hW hd; (obtain ⟨b0, b1, b2, b3⟩ := HB.out _ hW); (try simp [deps, factOf, Region.binds] at hd); unfold relOp; go_simp; (first | exact ⟨Kp.refl _, rfl⟩ | exact Kp.refl _ | (refine ⟨Kp.refl _, ?_⟩; fail)))); go_simp; refine hK _ _ ?_; clear hK K)
  refine wpRel_nil ?_
  intro f W hW hall
  have h28 : f 28 = .string (headS k a b s) := allF_get hall 28 _ rfl
  clear hall HB
  have hz := headS_size k a b s
  have hz1 : ((headS k a b s).size : Int) ≤ n - 4 := by omega
  have hz2 : (headS k a b s).size ≤ 128 := by omega
  clear hz
  have HE : Hid (pageS n k a b s = headS k a b s ++ fillS 0 (n - 4 - (headS k a b s).size).toNat ++ put (crcN (headS k a b s ++ fillS 0 (n - 4 - (headS k a b s).size).toNat))) := Lib.hid rfl
  generalize headS k a b s = hh at *
  go_wp2_with fail
  refine (repK _ (by omega) (by omega) _).mono ?_
  rintro e w3 ⟨rfl, hk3⟩
  have hf := fillS_size 0 (n - 4 - (hh.size : Int)).toNat
  have hf2 : (fillS 0 (n - 4 - (hh.size : Int)).toNat).size ≤ 128 := by omega
  clear hf
  generalize fillS 0 (n - 4 - (hh.size : Int)).toNat = z at *
  have hsz : (hh ++ z).size ≤ 9223372036854775807 := by rw [ByteArray.size_append]; omega
  go_wp2_with fail
  refine (sum1 (hh ++ z) hsz _ _ (one_cell _ _ _)).mono ?_
  rintro e w4 ⟨rfl, rfl⟩
  have hcI := crcI (hh ++ z)
  go_wp2_with fail
  refine (putK _ hcI _).mono ?_
  rintro e w4 ⟨rfl, hk4⟩
  have hpz := put_size (crcN (hh ++ z))
  have hpz2 : (put (crcN (hh ++ z))).size ≤ 4 := by omega
  clear hpz hsz
  go_wp2_with fail
  go_ret
  exact ⟨by rw [HE.out]; rfl, (((hK1.trans hW).trans hk3).alloc _).trans hk4⟩
end Go.Proofs.YtnhogmheedeeiaaGreat
/- The contracts of the reference's page. -/
namespace Go.Proofs.YtnhogmheedeeiaaGreat
open Go.RowKit
set_option linter.unusedVariables false
set_option maxRecDepth 20000

theorem ofInt_64 (a : Nat) (ha : a < 18446744073709551616) : (BitVec.ofInt 64 (a : Int)).toNat = a := by
  rw [BitVec.ofInt_natCast, BitVec.toNat_ofNat]; exact Nat.mod_eq_of_lt (by omega)
theorem wrap_small (n : Nat) (h : n < 4294967296) : IntKind.i64.wrap (n : Int) = (n : Int) := by
  simp [IntKind.wrap, IntKind.bits, IntKind.signed]; omega
theorem i64_and_nat (a b : Nat) (ha : a < 4294967296) (hb : b < 4294967296) : bits .and .i64 (a : Int) (b : Int) = ((a &&& b : Nat) : Int) := by
  have hx : a &&& b < 2 ^ 32 := Nat.and_lt_two_pow _ (by omega)
  show IntKind.i64.wrap ((BitVec.ofInt 64 (a : Int) &&& BitVec.ofInt 64 (b : Int)).toNat : Int) = _
  rw [BitVec.toNat_and, ofInt_64 a (by omega), ofInt_64 b (by omega), wrap_small _ hx]
theorem i64_or_nat (a b : Nat) (ha : a < 4294967296) (hb : b < 4294967296) : bits .or .i64 (a : Int) (b : Int) = ((a ||| b : Nat) : Int) := by
  have hx : a ||| b < 2 ^ 32 := Nat.or_lt_two_pow (by omega) (by omega)
  show IntKind.i64.wrap ((BitVec.ofInt 64 (a : Int) ||| BitVec.ofInt 64 (b : Int)).toNat : Int) = _
  rw [BitVec.toNat_or, ofInt_64 a (by omega), ofInt_64 b (by omega), wrap_small _ hx]
theorem and255i (x : Nat) (h : x < 256) : bits .and .i64 (x : Int) 255 = (x : Int) := by
  have := i64_and_nat x 255 (by omega) (by omega)
  rw [show ((255 : Nat) : Int) = 255 from rfl] at this
  rw [this, show (255 : Nat) = 2 ^ 8 - 1 from rfl, Nat.and_two_pow_sub_one_eq_mod, Nat.mod_eq_of_lt (by omega)]
theorem or256 (x y : Nat) (hx : x < 256) (hy : y < 256) : bits .or .i64 (x : Int) ((y : Int) * 256) = ((x + 256 * y : Nat) : Int) := by
  have := i64_or_nat x (y * 256) (by omega) (by omega)
  rw [show ((y * 256 : Nat) : Int) = (y : Int) * 256 by omega] at this
  rw [this, show (256 : Nat) = 2 ^ 8 from rfl, or_add x y 8 (by omega)]
  omega
set_option maxHeartbeats 1600000 in
theorem refpage_any (n k a b : Int) (s : ByteArray) (hk : 1 ≤ k ∧ k ≤ 4) (ha : 0 ≤ a ∧ a ≤ 4294967295) (hb : 0 ≤ b ∧ b ≤ 4294967295) (hn : n ≤ 128) (hs : (s.size : Int) + 15 ≤ n) (w : World) :
    Calls Tryz.prog 79 #[.int .i64 n, frv k a b s] w fun e w' => e = .returned (.string (pageS n k a b s)) ∧ Kp w w' := by
  have HB := Lib.hid (Frk w k a b s)
  have hand : bits .and .i64 (s.size : Int) 255 = (s.size : Int) := and255i s.size (by omega)
  have hbig : ¬ (9223372036854775807 < (strOfNums [k]).size + (put a.toNat).size + (put b.toNat).size + (strOfNums [(s.size : Int), 0]).size + s.size) := by simp only [strOfNums_size, put_size]; simp; omega
  have hws : IntKind.u8.wrap (s.size : Int) = (s.size : Int) := by simp [IntKind.wrap, IntKind.bits, IntKind.signed]; omega
  have hws2 : IntKind.u8.wrap ((s.size : Int) / 256) = 0 := by rw [show (s.size : Int) / 256 = 0 by omega]; rfl
  have hwk : IntKind.u8.wrap k = k := by simp [IntKind.wrap, IntKind.bits, IntKind.signed]; omega
  go_enter Tryz.func79, Tryz.ntmps79
  go_wp2_with fail
  have hK1 := Kp.one w (fob k a b s)
  generalize w.alloc (fob k a b s) = w1 at *
  refine wp_region_rel (R := Kp) (C := fun W => Kp w1 W) (by kernel_rfl) (by kernel_rfl) (Kp.refl w1).drew (fun _ _ h k => h.trans k) Kp.refl (fun _ _ _ h k => h.trans k) ?_
  repeat (refine wpRel_step (fun K hK => ?_); apply rel_eq; (case ob => (intro f W hW hd; (obtain ⟨b0, b1, b2, b3⟩ := HB.out _ hW); (try simp [deps, factOf, Region.binds] at hd); unfold relOp; go_simp; (first | exact ⟨Kp.refl _, rfl⟩ | exact Kp.refl _ | (refine ⟨Kp.refl _, ?_⟩; fail)))); go_simp; refine hK _ _ ?_; clear hK K)
  refine wpRel_step (fun K hK => ?_)
  apply rel_fact (fun v W => ∃ q, v = .slice (some ⟨q, 0, none⟩) 1 1 ∧ Bk W q 5 (vb [k])) (fun v W W' hr ⟨q, h1, h2⟩ => ⟨q, h1, h2.keep hr⟩)
  case ob =>
    intro f W hW hd
    obtain ⟨b0, b1, b2, b3⟩ := HB.out _ hW
    (try simp [deps, factOf, Region.binds] at hd)
    unfold relOp
    go_simp
    exact ⟨Kp.one _ _, Bk.new _ _ _⟩
  go_simp
  refine hK _ _ ?_
  clear hK K
  refine wpRel_step (fun K hK => ?_)
  apply rel_fact (fun v _ => v = .string (strOfNums [k])) (fun _ _ _ _ h => h)
  case ob =>
    intro f W hW hd
    (simp [deps, factOf, Region.binds] at hd; obtain ⟨q, e3, hq⟩ := hd; have hcv := conv_bk (n := 1) hq rfl)
    (try simp [deps, factOf, Region.binds] at hd)
    unfold relOp
    go_simp
    first | exact ⟨Kp.refl _, rfl⟩ | exact Kp.refl _
  go_simp
  refine hK _ _ ?_
  clear hK K
  repeat (refine wpRel_step (fun K hK => ?_); apply rel_eq; (case ob => (intro f W hW hd; (obtain ⟨b0, b1, b2, b3⟩ := HB.out _ hW); (try simp [deps, factOf, Region.binds] at hd); unfold relOp; go_simp; (first | exact ⟨Kp.refl _, rfl⟩ | exact Kp.refl _ | (refine ⟨Kp.refl _, ?_⟩; (go_at_call 93; refine (put4K _ (by assumption) _).mono ?_; rintro e w' ⟨rfl, hk9⟩; exact ⟨rfl, hk9⟩))))); go_simp; refine hK _ _ ?_; clear hK K)
  refine wpRel_step (fun K hK => ?_)
  apply rel_fact (fun v W => ∃ q, v = .slice (some ⟨q, 0, none⟩) 2 2 ∧ Bk W q 5 (vb [(s.size : Int), 0])) (fun v W W' hr ⟨q, h1, h2⟩ => ⟨q, h1, h2.keep hr⟩)
  case ob =>
    intro f W hW hd
    skip
    (try simp [deps, factOf, Region.binds] at hd)
    unfold relOp
    go_simp
    exact ⟨Kp.one _ _, Bk.new _ _ _⟩
  go_simp
  refine hK _ _ ?_
  clear hK K
  refine wpRel_step (fun K hK => ?_)
  apply rel_fact (fun v _ => v = .string (strOfNums [(s.size : Int), 0])) (fun _ _ _ _ h => h)
  case ob =>
    intro f W hW hd
    (simp [deps, factOf, Region.binds] at hd; obtain ⟨q, e3, hq⟩ := hd; have hcv := conv_bk (n := 2) hq rfl)
    (try simp [deps, factOf, Region.binds] at hd)
    unfold relOp
    go_simp
    first | exact ⟨Kp.refl _, rfl⟩ | exact Kp.refl _
  go_simp
  refine hK _ _ ?_
  clear hK K
  repeat (refine wpRel_step (fun K hK => ?_); apply rel_eq; (case ob => (intro f W hW hd; (obtain ⟨b0, b1, b2, b3⟩ := HB.out _ hW); (try simp [deps, factOf, Region.binds] at hd); unfold relOp; go_simp; (first | exact ⟨Kp.refl _, rfl⟩ | exact Kp.refl _ | (refine ⟨Kp.refl _, ?_⟩; fail)))); go_simp; refine hK _ _ ?_; clear hK K)
  refine wpRel_nil ?_
  intro f W hW hall
  have h29 : f 29 = .string (headS k a b s) := allF_get hall 29 _ rfl
  clear hall HB
  have hz := headS_size k a b s
  have hz1 : ((headS k a b s).size : Int) ≤ n - 4 := by omega
  have hz2 : (headS k a b s).size ≤ 128 := by omega
  clear hz
  have HE : Hid (pageS n k a b s = headS k a b s ++ fillS 0 (n - 4 - (headS k a b s).size).toNat ++ put (crcN (headS k a b s ++ fillS 0 (n - 4 - (headS k a b s).size).toNat))) := Lib.hid rfl
  generalize headS k a b s = hh at *
  go_wp2_with fail
  refine (fill_any 0 _ (by omega) (by omega) _).mono ?_
  rintro e w3 ⟨rfl, hk3⟩
  have hf := fillS_size 0 (n - 4 - (hh.size : Int)).toNat
  have hf2 : (fillS 0 (n - 4 - (hh.size : Int)).toNat).size ≤ 128 := by omega
  clear hf
  generalize fillS 0 (n - 4 - (hh.size : Int)).toNat = z at *
  have hsz : (hh ++ z).size ≤ 9223372036854775807 := by rw [ByteArray.size_append]; omega
  go_wp2_with fail
  refine (refcrc_any (hh ++ z) hsz _).mono ?_
  rintro e w4 ⟨rfl, rfl⟩
  have hcI := crcI (hh ++ z)
  go_wp2_with fail
  refine (put4K _ hcI _).mono ?_
  rintro e w4 ⟨rfl, hk4⟩
  have hpz := put_size (crcN (hh ++ z))
  have hpz2 : (put (crcN (hh ++ z))).size ≤ 4 := by omega
  clear hpz hsz
  go_wp2_with fail
  go_ret
  exact ⟨by rw [HE.out]; rfl, (((hK1.trans hW).trans hk3)).trans hk4⟩
end Go.Proofs.YtnhogmheedeeiaaGreat
/- The contracts of Blank, Bytes, and of the reference's. -/
namespace Go.Proofs.YtnhogmheedeeiaaGreat
open Go.RowKit
set_option linter.unusedVariables false
set_option maxRecDepth 20000

/-- What Bytes tells. -/
def fbS (p s r k a b : Int) (t : ByteArray) : ByteArray × Int :=
  if ¬ (32 ≤ p ∧ p ≤ 128 ∧ 3 ≤ s ∧ s ≤ 10 ∧ 4 ≤ r ∧ r ≤ 12) then (⟨#[]⟩, 1) else if k < 1 ∨ 4 < k then (⟨#[]⟩, 2) else if p - 15 < t.size then (⟨#[]⟩, 4) else (pageS p k a b t, 0)
theorem rightK (p s r : Int) (h : RightG p s r) (w : World) : Calls Tryz.prog 57 #[geo p s r] w fun e w' => e = .returned (.bool true) ∧ Kp w w' :=
  (right_yes p s r h w).mono fun _ _ ⟨he, hw⟩ => ⟨he, hw ▸ Kp.one _ _⟩
theorem roomK (p s r : Int) (h : RightG p s r) (w : World) : Calls Tryz.prog 74 #[geo p s r] w fun e w' => e = .returned (.int .i64 (p - 15)) ∧ Kp w w' :=
  (room_yes p s r h w).mono fun _ _ ⟨he, hw⟩ => ⟨he, by first | exact hw | (subst hw; (repeat (first | with_reducible exact Kp.refl _ | with_reducible assumption | with_reducible refine Kp.alloc ?_ _ | with_reducible refine Kp.drew ?_ | with_reducible refine Kp.drewN ?_ _ | exact Kp.refl _ | assumption | refine Kp.alloc ?_ _ | refine Kp.drew ?_ | refine Kp.drewN ?_ _ | refine Kp.trans ?_ (by assumption))))⟩
theorem rrightK (p s r : Int) (h : RightG p s r) (w : World) : Calls Tryz.prog 78 #[geo p s r] w fun e w' => e = .returned (.bool true) ∧ Kp w w' :=
  (rright_yes p s r h w).mono fun _ _ ⟨he, hw⟩ => ⟨he, hw ▸ Kp.one _ _⟩
theorem rroomK (p s r : Int) (h : RightG p s r) (w : World) : Calls Tryz.prog 9 #[geo p s r] w fun e w' => e = .returned (.int .i64 (p - 15)) ∧ Kp w w' :=
  (rroom_any p s r h w).mono fun _ _ ⟨he, hw⟩ => ⟨he, hw ▸ Kp.one _ _⟩
set_option maxHeartbeats 1600000 in
theorem fbytes_any (p s r k a b : Int) (t : ByteArray) (ht : t.size ≤ 9223372036854775807) (ha : 0 ≤ a ∧ a ≤ 4294967295) (hb : 0 ≤ b ∧ b ≤ 4294967295) (w : World) :
    Calls Tryz.prog 45 #[geo p s r, frv k a b t] w fun e w' => e = .returned (.tuple #[.string (fbS p s r k a b t).1, .int .i64 (fbS p s r k a b t).2]) ∧ Kp w w' := by
  have HG := Lib.hid (fun (W : World) (h : Kp ((w.alloc (gob p s r)).alloc (fob k a b t)) W) => (Gat.new w p s r).keep ((Kp.one _ _).trans h))
  have HB := Lib.hid (fun (W : World) (h : Kp ((w.alloc (gob p s r)).alloc (fob k a b t)) W) => FrkB (w.alloc (gob p s r)) (w.heap.size + 1) (by simp) k a b t W h)
  have hK0 := (Kp.one w (gob p s r)).alloc (fob k a b t)
  by_cases hR : RightG p s r
  · have e1 : fbS p s r k a b t = if k < 1 ∨ 4 < k then (⟨#[]⟩, 2) else if p - 15 < t.size then (⟨#[]⟩, 4) else (pageS p k a b t, 0) := if_neg (fun h => h hR)
    obtain ⟨r1, r2, r3, r4, r5, r6⟩ := id hR
    have hcases : k < 1 ∨ (1 ≤ k ∧ 4 < k) ∨ (1 ≤ k ∧ k ≤ 4 ∧ p - 15 < t.size) ∨ (1 ≤ k ∧ k ≤ 4 ∧ t.size ≤ p - 15) := by omega
    rcases hcases with hc | ⟨hc1, hc⟩ | ⟨hc1, hc2, hc⟩ | ⟨hc1, hc2, hc⟩
    · rw [if_pos (Or.inl hc)] at e1
      rw [e1]
      clear e1
      go_enter Tryz.func45, Tryz.ntmps45
      go_wp2_with fail
      refine (rightK p s r hR _).mono ?_
      rintro e w1 ⟨rfl, hk1⟩
      obtain ⟨b0, b1, b2, b3⟩ := HB.out _ hk1
      go_wp2_with fail
      go_ret2
      exact ⟨rfl, hK0.trans hk1⟩
    · rw [if_pos (Or.inr hc)] at e1
      rw [e1]
      clear e1
      go_enter Tryz.func45, Tryz.ntmps45
      go_wp2_with fail
      refine (rightK p s r hR _).mono ?_
      rintro e w1 ⟨rfl, hk1⟩
      obtain ⟨b0, b1, b2, b3⟩ := HB.out _ hk1
      go_wp2_with fail
      go_ret2
      exact ⟨rfl, hK0.trans hk1⟩
    · rw [if_neg (by omega), if_pos hc] at e1
      rw [e1]
      clear e1
      have hd : decide (p - 15 < (t.size : Int)) = true := by simpa using hc
      go_enter Tryz.func45, Tryz.ntmps45
      go_wp2_with fail
      refine (rightK p s r hR _).mono ?_
      rintro e w1 ⟨rfl, hk1⟩
      have HG1 := Lib.hid (fun W (k9 : Kp w1 W) => HG.out W (hk1.trans k9))
      have HB1 := Lib.hid (fun W (k9 : Kp w1 W) => HB.out W (hk1.trans k9))
      obtain ⟨b0, b1, b2, b3⟩ := HB.out _ hk1
      go_wp2_with fail
      have hInh := fun (x v : Value) => (⟨fun h => h _ ((Kp.refl w1).drew), fun h _ _ => h⟩ : (∀ Wz9, (fun W => Kp w1 W) Wz9 → x = v) ↔ x = v)
      dsimp only at hInh
      refine wp_region_quietC (C := fun W => Kp w1 W) (by kernel_rfl) (by kernel_rfl) ((Kp.refl w1).drew) ?_
      repeat (first | go_big_quiet_step ((intro hW; first | (go_at_call 74; refine (roomK p s r hR _).mono ?_; rintro e w' ⟨rfl, hk9⟩; exact ⟨rfl, hW.trans hk9⟩) | (with_reducible rfl) | (obtain ⟨b0, b1, b2, b3⟩ := HB1.out _ hW; obtain ⟨g0, g1, g2⟩ := HG1.out _ hW; (try go_simp); first | done | with_reducible rfl | exact ⟨rfl, rfl⟩))) | quiet_step ((intro hW; first | (go_at_call 74; refine (roomK p s r hR _).mono ?_; rintro e w' ⟨rfl, hk9⟩; exact ⟨rfl, hW.trans hk9⟩) | (with_reducible rfl) | (obtain ⟨b0, b1, b2, b3⟩ := HB1.out _ hW; obtain ⟨g0, g1, g2⟩ := HG1.out _ hW; (try go_simp); first | done | with_reducible rfl | exact ⟨rfl, rfl⟩))))
      refine wpQuiet_nil ?_
      intro wq hwq
      clear hInh
      go_wp2_with fail
      go_ret2
      exact ⟨rfl, (hK0.trans hk1).trans hwq⟩
    · rw [if_neg (by omega), if_neg (by omega)] at e1
      rw [e1]
      clear e1
      have hd : decide (p - 15 < (t.size : Int)) = false := by simp; omega
      go_enter Tryz.func45, Tryz.ntmps45
      go_wp2_with fail
      refine (rightK p s r hR _).mono ?_
      rintro e w1 ⟨rfl, hk1⟩
      have HG1 := Lib.hid (fun W (k9 : Kp w1 W) => HG.out W (hk1.trans k9))
      have HB1 := Lib.hid (fun W (k9 : Kp w1 W) => HB.out W (hk1.trans k9))
      obtain ⟨b0, b1, b2, b3⟩ := HB.out _ hk1
      go_wp2_with fail
      have hInh := fun (x v : Value) => (⟨fun h => h _ ((Kp.refl w1).drew), fun h _ _ => h⟩ : (∀ Wz9, (fun W => Kp w1 W) Wz9 → x = v) ↔ x = v)
      dsimp only at hInh
      refine wp_region_quietC (C := fun W => Kp w1 W) (by kernel_rfl) (by kernel_rfl) ((Kp.refl w1).drew) ?_
      repeat (first | go_big_quiet_step ((intro hW; first | (go_at_call 74; refine (roomK p s r hR _).mono ?_; rintro e w' ⟨rfl, hk9⟩; exact ⟨rfl, hW.trans hk9⟩) | (with_reducible rfl) | (obtain ⟨b0, b1, b2, b3⟩ := HB1.out _ hW; obtain ⟨g0, g1, g2⟩ := HG1.out _ hW; (try go_simp); first | done | with_reducible rfl | exact ⟨rfl, rfl⟩))) | quiet_step ((intro hW; first | (go_at_call 74; refine (roomK p s r hR _).mono ?_; rintro e w' ⟨rfl, hk9⟩; exact ⟨rfl, hW.trans hk9⟩) | (with_reducible rfl) | (obtain ⟨b0, b1, b2, b3⟩ := HB1.out _ hW; obtain ⟨g0, g1, g2⟩ := HG1.out _ hW; (try go_simp); first | done | with_reducible rfl | exact ⟨rfl, rfl⟩))))
      refine wpQuiet_nil ?_
      intro wq hwq
      clear hInh
      clear b0 b1 b2 b3
      obtain ⟨b0, b1, b2, b3⟩ := HB1.out _ hwq
      obtain ⟨g0, g1, g2⟩ := HG1.out _ hwq
      go_wp2_with fail
      refine (page_any p k a b t ⟨hc1, hc2⟩ ha hb r2 (by omega) _).mono ?_
      rintro e w2 ⟨rfl, hk2⟩
      go_wp2_with fail
      go_ret2
      exact ⟨rfl, ((hK0.trans hk1).trans hwq).trans hk2⟩
  · have e1 : fbS p s r k a b t = (⟨#[]⟩, 1) := if_pos hR
    rw [e1]
    clear e1
    go_enter Tryz.func45, Tryz.ntmps45
    go_wp2_with fail
    refine (right_no p s r hR _).mono ?_
    rintro e w1 ⟨rfl, rfl⟩
    go_wp2_with fail
    go_ret2
    exact ⟨rfl, hK0.alloc _⟩
set_option maxHeartbeats 1600000 in
theorem rfbytes_any (p s r k a b : Int) (t : ByteArray) (ht : t.size ≤ 9223372036854775807) (ha : 0 ≤ a ∧ a ≤ 4294967295) (hb : 0 ≤ b ∧ b ≤ 4294967295) (w : World) :
    Calls Tryz.prog 50 #[geo p s r, frv k a b t] w fun e w' => e = .returned (.tuple #[.string (fbS p s r k a b t).1, .int .i64 (fbS p s r k a b t).2]) ∧ Kp w w' := by
  have HG := Lib.hid (fun (W : World) (h : Kp ((w.alloc (gob p s r)).alloc (fob k a b t)) W) => (Gat.new w p s r).keep ((Kp.one _ _).trans h))
  have HB := Lib.hid (fun (W : World) (h : Kp ((w.alloc (gob p s r)).alloc (fob k a b t)) W) => FrkB (w.alloc (gob p s r)) (w.heap.size + 1) (by simp) k a b t W h)
  have hK0 := (Kp.one w (gob p s r)).alloc (fob k a b t)
  by_cases hR : RightG p s r
  · have e1 : fbS p s r k a b t = if k < 1 ∨ 4 < k then (⟨#[]⟩, 2) else if p - 15 < t.size then (⟨#[]⟩, 4) else (pageS p k a b t, 0) := if_neg (fun h => h hR)
    obtain ⟨r1, r2, r3, r4, r5, r6⟩ := id hR
    have hcases : k < 1 ∨ (1 ≤ k ∧ 4 < k) ∨ (1 ≤ k ∧ k ≤ 4 ∧ p - 15 < t.size) ∨ (1 ≤ k ∧ k ≤ 4 ∧ t.size ≤ p - 15) := by omega
    rcases hcases with hc | ⟨hc1, hc⟩ | ⟨hc1, hc2, hc⟩ | ⟨hc1, hc2, hc⟩
    · rw [if_pos (Or.inl hc)] at e1
      rw [e1]
      clear e1
      go_enter Tryz.func50, Tryz.ntmps50
      go_wp2_with fail
      refine (rrightK p s r hR _).mono ?_
      rintro e w1 ⟨rfl, hk1⟩
      obtain ⟨b0, b1, b2, b3⟩ := HB.out _ hk1
      go_wp2_with fail
      go_ret2
      exact ⟨rfl, hK0.trans hk1⟩
    · rw [if_pos (Or.inr hc)] at e1
      rw [e1]
      clear e1
      go_enter Tryz.func50, Tryz.ntmps50
      go_wp2_with fail
      refine (rrightK p s r hR _).mono ?_
      rintro e w1 ⟨rfl, hk1⟩
      obtain ⟨b0, b1, b2, b3⟩ := HB.out _ hk1
      go_wp2_with fail
      go_ret2
      exact ⟨rfl, hK0.trans hk1⟩
    · rw [if_neg (by omega), if_pos hc] at e1
      rw [e1]
      clear e1
      have hd : decide (p - 15 < (t.size : Int)) = true := by simpa using hc
      go_enter Tryz.func50, Tryz.ntmps50
      go_wp2_with fail
      refine (rrightK p s r hR _).mono ?_
      rintro e w1 ⟨rfl, hk1⟩
      have HG1 := Lib.hid (fun W (k9 : Kp w1 W) => HG.out W (hk1.trans k9))
      have HB1 := Lib.hid (fun W (k9 : Kp w1 W) => HB.out W (hk1.trans k9))
      obtain ⟨b0, b1, b2, b3⟩ := HB.out _ hk1
      go_wp2_with fail
      have hInh := fun (x v : Value) => (⟨fun h => h _ ((Kp.refl w1).drew), fun h _ _ => h⟩ : (∀ Wz9, (fun W => Kp w1 W) Wz9 → x = v) ↔ x = v)
      dsimp only at hInh
      refine wp_region_quietC (C := fun W => Kp w1 W) (by kernel_rfl) (by kernel_rfl) ((Kp.refl w1).drew) ?_
      repeat (first | go_big_quiet_step ((intro hW; first | (go_at_call 9; refine (rroomK p s r hR _).mono ?_; rintro e w' ⟨rfl, hk9⟩; exact ⟨rfl, hW.trans hk9⟩) | (with_reducible rfl) | (obtain ⟨b0, b1, b2, b3⟩ := HB1.out _ hW; obtain ⟨g0, g1, g2⟩ := HG1.out _ hW; (try go_simp); first | done | with_reducible rfl | exact ⟨rfl, rfl⟩))) | quiet_step ((intro hW; first | (go_at_call 9; refine (rroomK p s r hR _).mono ?_; rintro e w' ⟨rfl, hk9⟩; exact ⟨rfl, hW.trans hk9⟩) | (with_reducible rfl) | (obtain ⟨b0, b1, b2, b3⟩ := HB1.out _ hW; obtain ⟨g0, g1, g2⟩ := HG1.out _ hW; (try go_simp); first | done | with_reducible rfl | exact ⟨rfl, rfl⟩))))
      refine wpQuiet_nil ?_
      intro wq hwq
      clear hInh
      go_wp2_with fail
      go_ret2
      exact ⟨rfl, (hK0.trans hk1).trans hwq⟩
    · rw [if_neg (by omega), if_neg (by omega)] at e1
      rw [e1]
      clear e1
      have hd : decide (p - 15 < (t.size : Int)) = false := by simp; omega
      go_enter Tryz.func50, Tryz.ntmps50
      go_wp2_with fail
      refine (rrightK p s r hR _).mono ?_
      rintro e w1 ⟨rfl, hk1⟩
      have HG1 := Lib.hid (fun W (k9 : Kp w1 W) => HG.out W (hk1.trans k9))
      have HB1 := Lib.hid (fun W (k9 : Kp w1 W) => HB.out W (hk1.trans k9))
      obtain ⟨b0, b1, b2, b3⟩ := HB.out _ hk1
      go_wp2_with fail
      have hInh := fun (x v : Value) => (⟨fun h => h _ ((Kp.refl w1).drew), fun h _ _ => h⟩ : (∀ Wz9, (fun W => Kp w1 W) Wz9 → x = v) ↔ x = v)
      dsimp only at hInh
      refine wp_region_quietC (C := fun W => Kp w1 W) (by kernel_rfl) (by kernel_rfl) ((Kp.refl w1).drew) ?_
      repeat (first | go_big_quiet_step ((intro hW; first | (go_at_call 9; refine (rroomK p s r hR _).mono ?_; rintro e w' ⟨rfl, hk9⟩; exact ⟨rfl, hW.trans hk9⟩) | (with_reducible rfl) | (obtain ⟨b0, b1, b2, b3⟩ := HB1.out _ hW; obtain ⟨g0, g1, g2⟩ := HG1.out _ hW; (try go_simp); first | done | with_reducible rfl | exact ⟨rfl, rfl⟩))) | quiet_step ((intro hW; first | (go_at_call 9; refine (rroomK p s r hR _).mono ?_; rintro e w' ⟨rfl, hk9⟩; exact ⟨rfl, hW.trans hk9⟩) | (with_reducible rfl) | (obtain ⟨b0, b1, b2, b3⟩ := HB1.out _ hW; obtain ⟨g0, g1, g2⟩ := HG1.out _ hW; (try go_simp); first | done | with_reducible rfl | exact ⟨rfl, rfl⟩))))
      refine wpQuiet_nil ?_
      intro wq hwq
      clear hInh
      clear b0 b1 b2 b3
      obtain ⟨b0, b1, b2, b3⟩ := HB1.out _ hwq
      obtain ⟨g0, g1, g2⟩ := HG1.out _ hwq
      go_wp2_with fail
      refine (refpage_any p k a b t ⟨hc1, hc2⟩ ha hb r2 (by omega) _).mono ?_
      rintro e w2 ⟨rfl, hk2⟩
      go_wp2_with fail
      go_ret2
      exact ⟨rfl, ((hK0.trans hk1).trans hwq).trans hk2⟩
  · have e1 : fbS p s r k a b t = (⟨#[]⟩, 1) := if_pos hR
    rw [e1]
    clear e1
    go_enter Tryz.func50, Tryz.ntmps50
    go_wp2_with fail
    refine (rright_no p s r hR _).mono ?_
    rintro e w1 ⟨rfl, rfl⟩
    go_wp2_with fail
    go_ret2
    exact ⟨rfl, hK0.alloc _⟩
end Go.Proofs.YtnhogmheedeeiaaGreat
/- Frames read: plain facts on strings. -/
namespace Go.Proofs.YtnhogmheedeeiaaGreat
open Go.RowKit
set_option linter.unusedVariables false
set_option maxRecDepth 20000

theorem nb_extract (s : ByteArray) (a b : Nat) : nb (s.extract a b) = ((nb s).drop a).take (b - a) := by
  unfold nb
  rw [ByteArray.data_extract, Array.toList_extract, List.extract, List.map_take, List.map_drop]
theorem ext_size (s : ByteArray) (a b : Nat) (h : b ≤ s.size) : (s.extract a b).size = b - a := by
  rw [← nb_len, nb_extract, List.length_take, List.length_drop, nb_len]; omega
theorem ext_app (s : ByteArray) (a b c : Nat) (h1 : a ≤ b) (h2 : b ≤ c) : s.extract a b ++ s.extract b c = s.extract a c := by
  apply nb_inj
  rw [nb_append, nb_extract, nb_extract, nb_extract]
  rw [show c - a = (b - a) + (c - b) by omega, List.take_add, List.drop_drop]
  rw [show a + (b - a) = b by omega]
theorem byteAt_ext (s : ByteArray) (a b i : Nat) (h : a + i < b) : byteAt (s.extract a b) i = byteAt s (a + i) := by
  unfold byteAt
  rw [nb_extract, List.getD_eq_getElem?_getD, List.getD_eq_getElem?_getD, List.getElem?_take, if_pos (by omega), List.getElem?_drop]
theorem nb_get (s : ByteArray) (i : Nat) (h : i < s.size) : (nb s)[i]'(by rw [nb_len]; exact h) = byteAt s i := by
  unfold byteAt
  rw [List.getD_eq_getElem?_getD, List.getElem?_eq_getElem (by rw [nb_len]; exact h)]; rfl
theorem one_ext (s : ByteArray) (i : Nat) (h : i < s.size) : strOfNums [(byteAt s i : Int)] = s.extract i (i + 1) := by
  apply nb_inj
  have e1 : nb (strOfNums [(byteAt s i : Int)]) = [byteAt s i] := nb_strN [byteAt s i] (by simp; exact byteAt_lt s i)
  rw [e1, nb_extract, show i + 1 - i = 1 by omega, List.drop_eq_getElem_cons (by rw [nb_len]; exact h), List.take_succ_cons, List.take_zero, nb_get s i h]
theorem two_ext (s : ByteArray) (i : Nat) (h : i + 1 < s.size) : strOfNums [(byteAt s i : Int), (byteAt s (i + 1) : Int)] = s.extract i (i + 2) := by
  rw [← ext_app s i (i + 1) (i + 2) (by omega) (by omega), ← one_ext s i (by omega), ← one_ext s (i + 1) h]
  rfl
theorem put_ext (s : ByteArray) (i : Nat) (h : i + 4 ≤ s.size) : put (get4 s i) = s.extract i (i + 4) := by
  have h4 : (s.extract i (i + 4)).size = 4 := by rw [ext_size _ _ _ h]; omega
  have := put_get4 (s.extract i (i + 4)) h4
  rw [← this]
  congr 1
  unfold get4
  rw [byteAt_ext _ _ _ _ (by omega), byteAt_ext _ _ _ _ (by omega), byteAt_ext _ _ _ _ (by omega), byteAt_ext _ _ _ _ (by omega)]
  rfl
theorem nb_fill (b n : Nat) (h : b < 256) : nb (fillS (b : Int) n) = List.replicate n b := by
  have e : fillS (b : Int) n = strN (List.replicate n b) := by unfold fillS strN; rw [List.map_replicate]
  rw [e, nb_strN]
  intro x hx
  rw [List.mem_replicate] at hx
  omega
theorem fill_ext (s : ByteArray) (i j : Nat) (hij : i ≤ j) (hj : j ≤ s.size) : fillS 0 (j - i) = s.extract i j ↔ ∀ x, i ≤ x → x < j → byteAt s x = 0 := by
  constructor
  · intro h x h1 h2
    have := congrArg (fun t => byteAt t (x - i)) h
    rw [byteAt_ext _ _ _ _ (by omega), show i + (x - i) = x by omega] at this
    rw [← this]
    unfold byteAt
    have e := nb_fill 0 (j - i) (by omega)
    rw [show ((0 : Nat) : Int) = 0 from rfl] at e
    rw [e]
    simp [List.getD_eq_getElem?_getD, List.getElem?_replicate]
    split <;> rfl
  · intro h
    apply nb_inj
    have e := nb_fill 0 (j - i) (by omega)
    rw [show ((0 : Nat) : Int) = 0 from rfl] at e
    rw [e]
    apply List.ext_getElem
    · rw [List.length_replicate, nb_len, ext_size _ _ _ hj]
    · intro k h1 h2
      rw [List.length_replicate] at h1
      rw [List.getElem_replicate, nb_get _ _ (by rw [nb_len] at h2; exact h2), byteAt_ext _ _ _ _ (by omega), h _ (by omega) (by omega)]
theorem app_cancel {a b c : ByteArray} (h : a ++ b = a ++ c) : b = c := by
  have := congrArg nb h
  rw [nb_append, nb_append] at this
  exact nb_inj (List.append_cancel_left this)
theorem app_inj {a b c d : ByteArray} (h : a ++ b = c ++ d) (hs : a.size = c.size) : a = c ∧ b = d := by
  have := congrArg nb h
  rw [nb_append, nb_append] at this
  obtain ⟨h1, h2⟩ := List.append_inj this (by rw [nb_len, nb_len]; exact hs)
  exact ⟨nb_inj h1, nb_inj h2⟩

/-- How long a page says that its body is. -/
def bodyLen (s : ByteArray) : Nat := byteAt s 9 + 256 * byteAt s 10
/-- The page's fields. -/
abbrev fKind (s : ByteArray) : Int := (byteAt s 0 : Int)
abbrev fA (s : ByteArray) : Int := (get4 s 1 : Int)
abbrev fB (s : ByteArray) : Int := (get4 s 5 : Int)
abbrev fBody (s : ByteArray) : ByteArray := s.extract 11 (11 + bodyLen s)
theorem head_ext (s : ByteArray) (h1 : 32 ≤ s.size) (h2 : s.size ≤ 128) (hl : bodyLen s + 15 ≤ s.size) : headS (fKind s) (fA s) (fB s) (fBody s) = s.extract 0 (11 + bodyLen s) := by
  have b10 : byteAt s 10 = 0 := by unfold bodyLen at hl; omega
  have hbs : (fBody s).size = bodyLen s := by rw [ext_size _ _ _ (by omega)]; omega
  have e9 : bodyLen s = byteAt s 9 := by unfold bodyLen; omega
  unfold headS
  rw [hbs]
  have t2 := two_ext s 9 (by omega)
  rw [show (9 + 1 : Nat) = 10 from rfl, b10, ← e9] at t2
  rw [show (((0 : Nat) : Int)) = 0 from rfl] at t2
  rw [t2, Int.toNat_natCast, Int.toNat_natCast, put_ext s 1 (by omega), put_ext s 5 (by omega), one_ext s 0 (by omega)]
  rw [ext_app _ _ _ _ (by omega) (by omega), ext_app _ _ _ _ (by omega) (by omega), ext_app _ _ _ _ (by omega) (by omega), ext_app _ _ _ _ (by omega) (by omega)]
/-- The padding is all 0. -/
def Padded (s : ByteArray) : Prop := ∀ x, 11 + bodyLen s ≤ x → x < s.size - 4 → byteAt s x = 0
/-- The sum is right. -/
def SumOk (s : ByteArray) : Prop := get4 s (s.size - 4) = crcN (s.extract 0 (s.size - 4))
instance (s : ByteArray) : Decidable (SumOk s) := inferInstanceAs (Decidable (get4 s (s.size - 4) = crcN (s.extract 0 (s.size - 4))))
theorem sum_str (s : ByteArray) (h1 : 32 ≤ s.size) : SumOk s ↔ s.extract (s.size - 4) s.size = put (crcN (s.extract 0 (s.size - 4))) := by
  have e := put_ext s (s.size - 4) (by omega)
  rw [show s.size - 4 + 4 = s.size by omega] at e
  unfold SumOk
  constructor
  · intro h
    rw [← e, h]
  · intro h
    rw [← e] at h
    have := congrArg (fun t => get4 (⟨#[]⟩ ++ t ++ ⟨#[]⟩) 0) h
    rw [show (0 : Nat) = (⟨#[]⟩ : ByteArray).size from rfl, get4_put _ _ _ (get4_lt s _), get4_put _ _ _ (crcN_lt _)] at this
    exact this
theorem page_same (s : ByteArray) (h1 : 32 ≤ s.size) (h2 : s.size ≤ 128) (hl : bodyLen s + 15 ≤ s.size) (hs : SumOk s) : pageS (s.size : Int) (fKind s) (fA s) (fB s) (fBody s) = s ↔ Padded s := by
  have hh := head_ext s h1 h2 hl
  have hz : (headS (fKind s) (fA s) (fB s) (fBody s)).size = 11 + bodyLen s := by rw [hh, ext_size _ _ _ (by omega)]; omega
  have hn : ((s.size : Int) - 4 - ((headS (fKind s) (fA s) (fB s) (fBody s)).size : Nat)).toNat = (s.size - 4) - (11 + bodyLen s) := by rw [hz]; omega
  have hfull : fullS (s.size : Int) (fKind s) (fA s) (fB s) (fBody s) = s.extract 0 (11 + bodyLen s) ++ fillS 0 ((s.size - 4) - (11 + bodyLen s)) := by
    unfold fullS; rw [hn, hh]
  have hfe := fill_ext s (11 + bodyLen s) (s.size - 4) (by omega) (by omega)
  have hss : s.extract 0 (s.size - 4) ++ s.extract (s.size - 4) s.size = s := by
    rw [ext_app _ _ _ _ (by omega) (by omega)]
    apply nb_inj
    rw [nb_extract, List.drop_zero, Nat.sub_zero, List.take_of_length_le (by rw [nb_len]; exact Nat.le_refl _)]
  unfold pageS
  rw [hfull]
  constructor
  · intro h
    conv at h => rhs; rw [← hss]
    have hsz : (s.extract 0 (11 + bodyLen s) ++ fillS 0 ((s.size - 4) - (11 + bodyLen s))).size = (s.extract 0 (s.size - 4)).size := by
      rw [ByteArray.size_append, ext_size _ _ _ (by omega), ext_size _ _ _ (by omega), fillS_size]; omega
    have h3 := (app_inj h hsz).1
    rw [← ext_app s 0 (11 + bodyLen s) (s.size - 4) (by omega) (by omega)] at h3
    exact hfe.1 (app_cancel h3)
  · intro h
    rw [hfe.2 h, ext_app _ _ _ _ (by omega) (by omega), ← (sum_str s h1).1 hs, hss]

/-- What Read tells: kind, numbers, body, code. -/
structure Fr where
  k : Int
  a : Int
  b : Int
  t : ByteArray
def noFr : Fr := ⟨0, 0, 0, ⟨#[]⟩⟩
def Fr.v (f : Fr) : Value := frv f.k f.a f.b f.t
open Classical in
noncomputable def readF (s : ByteArray) : Fr × Int :=
  if s.size < 32 ∨ 128 < s.size then (noFr, 1)
  else if blankB s = true then (noFr, 9)
  else if ¬ SumOk s then (noFr, 5)
  else if fKind s < 1 ∨ 4 < fKind s ∨ s.size < bodyLen s + 15 then (noFr, 2)
  else if Padded s then (⟨fKind s, fA s, fB s, fBody s⟩, 0) else (noFr, 2)
end Go.Proofs.YtnhogmheedeeiaaGreat
/- The contract of Read. -/
namespace Go.Proofs.YtnhogmheedeeiaaGreat
open Go.RowKit
set_option linter.unusedVariables false
set_option maxRecDepth 20000

def ReadPost (w : World) (f : Fr) (c : Int) (e : Ending) (w' : World) : Prop := e = .returned (.tuple #[frv f.k f.a f.b f.t, .int .i64 c]) ∧ Kp w w'
set_option maxHeartbeats 800000 in
theorem read_len (s : ByteArray) (hs : s.size ≤ 9223372036854775807) (h : s.size < 32 ∨ (32 ≤ s.size ∧ 128 < s.size)) (w : World) :
    Calls Tryz.prog 32 #[.string s] w (ReadPost w noFr 1) := by
  rcases h with h | ⟨h1, h2⟩
  all_goals
    go_enter Tryz.func32, Tryz.ntmps32
    go_wp2_with fail
    refine bodyPost_ret (v := .tuple #[frv 0 0 0 ⟨#[]⟩, .int .i64 1]) (by simp [results, Tryz.results32, go_sem]) rfl ⟨rfl, ?_⟩
    (repeat (first | with_reducible exact Kp.refl _ | with_reducible assumption | with_reducible refine Kp.alloc ?_ _ | with_reducible refine Kp.drew ?_ | with_reducible refine Kp.drewN ?_ _ | exact Kp.refl _ | assumption | refine Kp.alloc ?_ _ | refine Kp.drew ?_ | refine Kp.drewN ?_ _ | refine Kp.trans ?_ (by assumption)))
set_option maxHeartbeats 800000 in
theorem read_blank (s : ByteArray) (h1 : 32 ≤ s.size) (h2 : s.size ≤ 128) (hb : blankB s = true) (w : World) :
    Calls Tryz.prog 32 #[.string s] w (ReadPost w noFr 9) := by
  have HBL := Lib.hid (fun W => blank_any s (by omega) W)
  rw [hb] at HBL
  clear hb
  go_enter Tryz.func32, Tryz.ntmps32
  go_wp2_with fail
  refine (HBL.out _).mono ?_
  rintro e w1 ⟨rfl, rfl⟩
  go_wp2_with fail
  refine bodyPost_ret (v := .tuple #[frv 0 0 0 ⟨#[]⟩, .int .i64 9]) (by simp [results, Tryz.results32, go_sem]) rfl ⟨rfl, ?_⟩
  (repeat (first | with_reducible exact Kp.refl _ | with_reducible assumption | with_reducible refine Kp.alloc ?_ _ | with_reducible refine Kp.drew ?_ | with_reducible refine Kp.drewN ?_ _ | exact Kp.refl _ | assumption | refine Kp.alloc ?_ _ | refine Kp.drew ?_ | refine Kp.drewN ?_ _ | refine Kp.trans ?_ (by assumption)))
theorem sum_bool (s : ByteArray) (h1 : 32 ≤ s.size) : ((s.extract (s.size - 4) s.size).toList == (put (crcN (s.extract 0 (s.size - 4)))).toList) = decide (SumOk s) := by
  rw [beq_bytes, Bool.eq_iff_iff]
  simp only [decide_eq_true_eq]
  exact (sum_str s h1).symm
set_option maxHeartbeats 1600000 in
theorem read_sum (s : ByteArray) (h1 : 32 ≤ s.size) (h2 : s.size ≤ 128) (hb : blankB s = false) (hS : ¬ SumOk s) (w : World) :
    Calls Tryz.prog 32 #[.string s] w (ReadPost w noFr 5) := by
  have HBL := Lib.hid (fun W => blank_any s (by omega) W)
  rw [hb] at HBL
  have HEQ := Lib.hid (sum_bool s h1)
  rw [show decide (SumOk s) = false by simpa using hS] at HEQ
  clear hS
  clear hb
  have q1 : IntKind.i64.wrap ((s.size : Int) - 4) = (s.size : Int) - 4 := IntWalk.i64_in _ (by omega)
  have q0 : 4 ≤ (s.size : Int) := by omega
  have hes : (s.extract 0 (s.size - 4)).size ≤ 9223372036854775807 := by rw [ext_size _ _ _ (by omega)]; omega
  have q2 : 0 ≤ (s.size : Int) - 4 := by omega
  have q3 : (s.size : Int) - 4 ≤ (s.size : Int) := by omega
  have q4 : ((s.size : Int) - 4).toNat = s.size - 4 := by omega
  go_enter Tryz.func32, Tryz.ntmps32
  go_wp2_with fail
  refine (HBL.out _).mono ?_
  rintro e w1 ⟨rfl, rfl⟩
  go_wp2_with fail
  have hK1 := Kp.one w (fob 0 0 0 ⟨#[]⟩)
  have hR0 := Bk.new w 31 [.int .i64 0, .int .u32 0, .int .u32 0, .string ⟨#[]⟩]
  generalize hw1 : w.alloc (fob 0 0 0 ⟨#[]⟩) = w1 at *
  refine wp_region_rel (R := Kp) (C := fun W => Kp w1 W) (by kernel_rfl) (by kernel_rfl) (Kp.refl w1).drew (fun _ _ h k => h.trans k) Kp.refl (fun _ _ _ h k => h.trans k) ?_
  repeat (refine wpRel_step (fun K hK => ?_); apply rel_eq; (case ob => (intro f W hW hd; (skip); (try simp [deps, factOf, Region.binds] at hd); unfold relOp; go_simp; (first | exact ⟨Kp.refl _, rfl⟩ | exact Kp.refl _ | (refine ⟨Kp.refl _, ?_⟩; fail)))); go_simp; refine hK _ _ ?_; clear hK K)
  refine wpRel_step (fun K hK => ?_)
  apply rel_fact (fun v W => ∃ q, v = .slice (some ⟨q, 0, none⟩) 1 1 ∧ W.cell? ⟨q, 0, none⟩ = some (.string (s.extract 0 (s.size - 4)))) (fun v W W' hr ⟨q, h1, h2⟩ => ⟨q, h1, hr.cell h2⟩)
  case ob =>
    intro f W hW hd
    skip
    (try simp [deps, factOf, Region.binds] at hd)
    unfold relOp
    go_simp
    first | exact ⟨Kp.one _ _, one_cell _ _ _⟩ | exact Kp.one _ _
  go_simp
  refine hK _ _ ?_
  clear hK K
  refine wpRel_step (fun K hK => ?_)
  apply rel_fact (fun v _ => v = .int .u32 (crcN (s.extract 0 (s.size - 4)) : Nat)) (fun _ _ _ _ h => h)
  case ob =>
    intro f W hW hd
    (simp [deps, factOf, Region.binds] at hd; obtain ⟨q, e3, hq⟩ := hd)
    (try simp [deps, factOf, Region.binds] at hd)
    unfold relOp
    go_simp
    (refine ⟨Kp.refl _, ?_⟩; refine (sum1 _ hes _ _ hq).mono ?_; rintro e w' ⟨rfl, rfl⟩; exact ⟨rfl, Kp.refl _⟩)
  go_simp
  refine hK _ _ ?_
  clear hK K
  repeat (refine wpRel_step (fun K hK => ?_); apply rel_eq; (case ob => (intro f W hW hd; (skip); (try simp [deps, factOf, Region.binds] at hd); unfold relOp; go_simp; (first | exact ⟨Kp.refl _, rfl⟩ | exact Kp.refl _ | (refine ⟨Kp.refl _, ?_⟩; (go_at_call 66; refine (putK _ (crcI _) _).mono ?_; rintro e w' ⟨rfl, hk9⟩; exact ⟨rfl, hk9⟩))))); go_simp; refine hK _ _ ?_; clear hK K)
  refine wpRel_nil ?_
  intro f W hW hall
  have h11 : f 11 = .bool true := (allF_get hall 11 _ rfl).trans (by rw [HEQ.out]; rfl)
  dsimp only
  rw [h11]
  clear hall h11 HBL HEQ q1 q0 q2 q3 q4 hes hw1
  have hRW := hR0.keep hW
  have hKW := hK1.trans hW
  clear hR0 hK1 hW
  have hfr := fun i => hRW.free i
  obtain ⟨r0, r1, r2, r3⟩ : W.cell? ⟨w.heap.size, 0, none⟩ = some (.int .i64 0) ∧ W.cell? ⟨w.heap.size, 1, none⟩ = some (.int .u32 0) ∧ W.cell? ⟨w.heap.size, 2, none⟩ = some (.int .u32 0) ∧ W.cell? ⟨w.heap.size, 3, none⟩ = some (.string ⟨#[]⟩) := ⟨hRW.cell 0, hRW.cell 1, hRW.cell 2, hRW.cell 3⟩
  go_wp2_with fail
  have hR9 := (((hRW.put 0 (.int .i64 0)).put 1 (.int .u32 0)).put 2 (.int .u32 0)).put 3 (.string ⟨#[]⟩)
  have hK9 := (((hKW.set (p := ⟨w.heap.size, 0, none⟩) (Nat.le_refl _) (.int .i64 0)).set (p := ⟨w.heap.size, 1, none⟩) (Nat.le_refl _) (.int .u32 0)).set (p := ⟨w.heap.size, 2, none⟩) (Nat.le_refl _) (.int .u32 0)).set (p := ⟨w.heap.size, 3, none⟩) (Nat.le_refl _) (.string ⟨#[]⟩)
  generalize (((W.setCell ⟨w.heap.size, 0, none⟩ (.int .i64 0)).setCell ⟨w.heap.size, 1, none⟩ (.int .u32 0)).setCell ⟨w.heap.size, 2, none⟩ (.int .u32 0)).setCell ⟨w.heap.size, 3, none⟩ (.string ⟨#[]⟩) = w9 at *
  have x0 : w9.cell? ⟨w.heap.size, 0, none⟩ = some (.int .i64 0) := hR9.cell 0
  have x1 : w9.cell? ⟨w.heap.size, 1, none⟩ = some (.int .u32 0) := hR9.cell 1
  have x2 : w9.cell? ⟨w.heap.size, 2, none⟩ = some (.int .u32 0) := hR9.cell 2
  have x3 : w9.cell? ⟨w.heap.size, 3, none⟩ = some (.string ⟨#[]⟩) := hR9.cell 3
  refine bodyPost_ret (v := .tuple #[frv 0 0 0 ⟨#[]⟩, .int .i64 5]) (by simp [results, Tryz.results32, go_sem, x0, x1, x2, x3]) rfl ⟨rfl, hK9⟩
theorem readF_ok (s : ByteArray) (h1 : 32 ≤ s.size) (h2 : s.size ≤ 128) (hb : blankB s = false) (hS : SumOk s) (h : 1 ≤ (byteAt s 0 : Int) ∧ (byteAt s 0 : Int) ≤ 4 ∧ bodyLen s + 15 ≤ s.size) (hp : Padded s) : readF s = (⟨fKind s, fA s, fB s, fBody s⟩, 0) := by
  unfold readF
  rw [if_neg (by omega), if_neg (by rw [hb]; simp), if_neg (by simpa using hS), if_neg (by unfold fKind; omega), if_pos hp]
theorem readF_bad (s : ByteArray) (h1 : 32 ≤ s.size) (h2 : s.size ≤ 128) (hb : blankB s = false) (hS : SumOk s) (h : (byteAt s 0 : Int) < 1 ∨ 4 < (byteAt s 0 : Int) ∨ s.size < bodyLen s + 15 ∨ ¬ Padded s) : readF s = (noFr, 2) := by
  unfold readF
  rw [if_neg (by omega), if_neg (by rw [hb]; simp), if_neg (by simpa using hS)]
  split
  · rfl
  · rename_i hn
    rw [if_neg]
    unfold fKind at hn
    intro hp
    rcases h with h | h | h | h
    · omega
    · omega
    · omega
    · exact h hp
theorem getK (s : ByteArray) (k : Nat) (hs : s.size ≤ 9223372036854775807) (h : k + 4 ≤ s.size) (w : World) :
    Calls Tryz.prog 68 #[.string s, .int .i64 k] w fun e w' => e = .returned (.tuple #[.int .u32 (get4 s k : Nat), .bool true]) ∧ Kp w w' :=
  (get_yes s k hs h w).mono fun e w' ⟨h1, n, h2⟩ => ⟨h1, h2 ▸ (Kp.refl w).drewN n⟩
set_option maxRecDepth 20000 in
set_option maxHeartbeats 3200000 in
theorem read_rest (s : ByteArray) (h1 : 32 ≤ s.size) (h2 : s.size ≤ 128) (hb : blankB s = false) (hS : SumOk s) (w : World) :
    Calls Tryz.prog 32 #[.string s] w (ReadPost w (readF s).1 (readF s).2) := by
  have hb2 := hb
  have HBL := Lib.hid (fun W => blank_any s (by omega) W)
  rw [hb] at HBL
  have HEQ := Lib.hid (sum_bool s h1)
  rw [show decide (SumOk s) = true by simpa using hS] at HEQ
  clear hb
  have q1 : IntKind.i64.wrap ((s.size : Int) - 4) = (s.size : Int) - 4 := IntWalk.i64_in _ (by omega)
  have q0 : 4 ≤ (s.size : Int) := by omega
  have hes : (s.extract 0 (s.size - 4)).size ≤ 9223372036854775807 := by rw [ext_size _ _ _ (by omega)]; omega
  have q2 : 0 ≤ (s.size : Int) - 4 := by omega
  have q3 : (s.size : Int) - 4 ≤ (s.size : Int) := by omega
  have q4 : ((s.size : Int) - 4).toNat = s.size - 4 := by omega
  have hby : ∀ i (h : i < s.size), (s[i]'h).toNat = byteAt s i := fun i h => (byteAt_get s i h).symm
  have z0 : (byteAt s 0 : Int) < 256 := by have := byteAt_lt s 0; omega
  have z9 : (byteAt s 9 : Int) < 256 := by have := byteAt_lt s 9; omega
  have z10 : (byteAt s 10 : Int) < 256 := by have := byteAt_lt s 10; omega
  have hor : bits .or .i64 (byteAt s 9 : Int) ((byteAt s 10 : Int) * 256) = (bodyLen s : Nat) := or256 _ _ (byteAt_lt s 9) (byteAt_lt s 10)
  have p9 : 9 < s.size := by omega
  have p10 : 10 < s.size := by omega
  have p0 : 0 < s.size := by omega
  go_enter Tryz.func32, Tryz.ntmps32
  go_wp2_with fail
  refine (HBL.out _).mono ?_
  rintro e w1 ⟨rfl, rfl⟩
  go_wp2_with fail
  have hK1 := Kp.one w (fob 0 0 0 ⟨#[]⟩)
  have hR0 := Bk.new w 31 [.int .i64 0, .int .u32 0, .int .u32 0, .string ⟨#[]⟩]
  generalize hw1 : w.alloc (fob 0 0 0 ⟨#[]⟩) = w1 at *
  refine wp_region_rel (R := Kp) (C := fun W => Kp w1 W) (by kernel_rfl) (by kernel_rfl) (Kp.refl w1).drew (fun _ _ h k => h.trans k) Kp.refl (fun _ _ _ h k => h.trans k) ?_
  repeat (refine wpRel_step (fun K hK => ?_); apply rel_eq; (case ob => (intro f W hW hd; (skip); (try simp [deps, factOf, Region.binds] at hd); unfold relOp; go_simp; (first | exact ⟨Kp.refl _, rfl⟩ | exact Kp.refl _ | (refine ⟨Kp.refl _, ?_⟩; fail)))); go_simp; refine hK _ _ ?_; clear hK K)
  refine wpRel_step (fun K hK => ?_)
  apply rel_fact (fun v W => ∃ q, v = .slice (some ⟨q, 0, none⟩) 1 1 ∧ W.cell? ⟨q, 0, none⟩ = some (.string (s.extract 0 (s.size - 4)))) (fun v W W' hr ⟨q, h1, h2⟩ => ⟨q, h1, hr.cell h2⟩)
  case ob =>
    intro f W hW hd
    skip
    (try simp [deps, factOf, Region.binds] at hd)
    unfold relOp
    go_simp
    first | exact ⟨Kp.one _ _, one_cell _ _ _⟩ | exact Kp.one _ _
  go_simp
  refine hK _ _ ?_
  clear hK K
  refine wpRel_step (fun K hK => ?_)
  apply rel_fact (fun v _ => v = .int .u32 (crcN (s.extract 0 (s.size - 4)) : Nat)) (fun _ _ _ _ h => h)
  case ob =>
    intro f W hW hd
    (simp [deps, factOf, Region.binds] at hd; obtain ⟨q, e3, hq⟩ := hd)
    (try simp [deps, factOf, Region.binds] at hd)
    unfold relOp
    go_simp
    (refine ⟨Kp.refl _, ?_⟩; refine (sum1 _ hes _ _ hq).mono ?_; rintro e w' ⟨rfl, rfl⟩; exact ⟨rfl, Kp.refl _⟩)
  go_simp
  refine hK _ _ ?_
  clear hK K
  repeat (refine wpRel_step (fun K hK => ?_); apply rel_eq; (case ob => (intro f W hW hd; (skip); (try simp [deps, factOf, Region.binds] at hd); unfold relOp; go_simp; (first | exact ⟨Kp.refl _, rfl⟩ | exact Kp.refl _ | (refine ⟨Kp.refl _, ?_⟩; (go_at_call 66; refine (putK _ (crcI _) _).mono ?_; rintro e w' ⟨rfl, hk9⟩; exact ⟨rfl, hk9⟩))))); go_simp; refine hK _ _ ?_; clear hK K)
  refine wpRel_nil ?_
  intro f W hW hall
  have h11 : f 11 = .bool false := (allF_get hall 11 _ rfl).trans (by rw [HEQ.out]; rfl)
  dsimp only
  rw [h11]
  clear hall h11 HBL HEQ q1 q0 q2 q3 q4 hes hw1
  have hRW := hR0.keep hW
  have hKW := hK1.trans hW
  clear hR0 hK1 hW
  have hfr := fun i => hRW.free i
  obtain ⟨r0, r1, r2, r3⟩ : W.cell? ⟨w.heap.size, 0, none⟩ = some (.int .i64 0) ∧ W.cell? ⟨w.heap.size, 1, none⟩ = some (.int .u32 0) ∧ W.cell? ⟨w.heap.size, 2, none⟩ = some (.int .u32 0) ∧ W.cell? ⟨w.heap.size, 3, none⟩ = some (.string ⟨#[]⟩) := ⟨hRW.cell 0, hRW.cell 1, hRW.cell 2, hRW.cell 3⟩
  go_wp2_with fail
  have hB0 := Bk.new W 31 [.int .i64 (fKind s), .int .u32 0, .int .u32 0, .string ⟨#[]⟩]
  have hKB := Kp.one W (fob (fKind s) 0 0 ⟨#[]⟩)
  have hG : w.heap.size < W.heap.size := hRW.lt
  have hRB := hRW.keep hKB
  have hK2 := hKW.trans hKB
  clear hRW hKB hKW hfr r0 r1 r2 r3
  refine (getK s 1 (by omega) (by omega) _).mono ?_
  rintro e w2 ⟨rfl, hk2⟩
  generalize hNB : W.heap.size = nb9 at *
  have hB2 := hB0.keep hk2
  have hR2 := hRB.keep hk2
  have hK3 := hK2.trans hk2
  have c1 := hB2.cell 1
  have f1 := hB2.free 1
  clear hB0 hRB hK2 hk2
  go_wp2_with fail
  have hB3 := hB2.put 1 (.int .u32 (fA s))
  have hR3 := hR2.far (p := ⟨nb9, 1, none⟩) (by simp; omega) (.int .u32 (fA s))
  have hK4 := hK3.set (p := ⟨nb9, 1, none⟩) (by simp; omega) (.int .u32 (fA s))
  generalize w2.setCell ⟨nb9, 1, none⟩ (.int .u32 (fA s)) = w3 at *
  clear hB2 hR2 hK3 c1 f1
  refine (getK s 5 (by omega) (by omega) _).mono ?_
  rintro e w4 ⟨rfl, hk4⟩
  have hB4 := hB3.keep hk4
  have hR4 := hR3.keep hk4
  have hK5 := hK4.trans hk4
  have c2 := hB4.cell 2
  have f2 := hB4.free 2
  clear hB3 hR3 hK4 hk4
  go_wp2_with fail
  have hB5 := hB4.put 2 (.int .u32 (fB s))
  have hR5 := hR4.far (p := ⟨nb9, 2, none⟩) (by simp; omega) (.int .u32 (fB s))
  have hK6 := hK5.set (p := ⟨nb9, 2, none⟩) (by simp; omega) (.int .u32 (fB s))
  generalize w4.setCell ⟨nb9, 2, none⟩ (.int .u32 (fB s)) = w5 at *
  clear hB4 hR4 hK5 c2 f2
  have hInh := fun (x v : Value) => (⟨fun h => h _ ((Kp.refl w5).drew), fun h _ _ => h⟩ : (∀ Wz9, (fun W => Kp w5 W) Wz9 → x = v) ↔ x = v)
  dsimp only at hInh
  refine wp_region_quietC (C := fun W => Kp w5 W) (by kernel_rfl) (by kernel_rfl) ((Kp.refl w5).drew) ?_
  repeat (first | go_big_quiet_step ((intro hW; first | fail | (with_reducible rfl) | (skip; (try go_simp); first | done | with_reducible rfl | exact ⟨rfl, rfl⟩))) | quiet_step ((intro hW; first | fail | (with_reducible rfl) | (skip; (try go_simp); first | done | with_reducible rfl | exact ⟨rfl, rfl⟩))))
  refine wpQuiet_nil ?_
  intro wq hwq
  clear hInh
  have hB7 : Bk wq nb9 31 [.int .i64 (byteAt s 0 : Int), .int .u32 (fA s), .int .u32 (fB s), .string ⟨#[]⟩] := hB5.keep hwq
  have hR7 := hR5.keep hwq
  have hK7 := hK6.trans hwq
  clear hB5 hR5 hK6 hwq
  obtain ⟨d0, d1, d2, d3⟩ : wq.cell? ⟨nb9, 0, none⟩ = some (.int .i64 (byteAt s 0 : Int)) ∧ wq.cell? ⟨nb9, 1, none⟩ = some (.int .u32 (fA s)) ∧ wq.cell? ⟨nb9, 2, none⟩ = some (.int .u32 (fB s)) ∧ wq.cell? ⟨nb9, 3, none⟩ = some (.string ⟨#[]⟩) := ⟨hB7.cell 0, hB7.cell 1, hB7.cell 2, hB7.cell 3⟩
  have hfr := fun i => hR7.free i
  obtain ⟨r0, r1, r2, r3⟩ : wq.cell? ⟨w.heap.size, 0, none⟩ = some (.int .i64 0) ∧ wq.cell? ⟨w.heap.size, 1, none⟩ = some (.int .u32 0) ∧ wq.cell? ⟨w.heap.size, 2, none⟩ = some (.int .u32 0) ∧ wq.cell? ⟨w.heap.size, 3, none⟩ = some (.string ⟨#[]⟩) := ⟨hR7.cell 0, hR7.cell 1, hR7.cell 2, hR7.cell 3⟩
  have hw15 : IntKind.i64.wrap ((s.size : Int) - 15) = (s.size : Int) - 15 := IntWalk.i64_in _ (by omega)
  have hcases : (byteAt s 0 : Int) < 1 ∨ (1 ≤ (byteAt s 0 : Int) ∧ 4 < (byteAt s 0 : Int)) ∨ (1 ≤ (byteAt s 0 : Int) ∧ (byteAt s 0 : Int) ≤ 4 ∧ (s.size : Int) - 15 < (bodyLen s : Int)) ∨ (1 ≤ (byteAt s 0 : Int) ∧ (byteAt s 0 : Int) ≤ 4 ∧ (bodyLen s : Int) ≤ (s.size : Int) - 15) := by omega
  have HCL := Lib.hid (readF_ok s h1 h2 hb2 hS)
  have HCB := Lib.hid (readF_bad s h1 h2 hb2 hS)
  rcases hcases with hc | ⟨hc1, hc⟩ | ⟨hc1, hc2, hc⟩ | ⟨hc1, hc2, hc⟩
  · have HRF := Lib.hid (HCB.out (Or.inl hc))
    clear HCL HCB
    go_wp2_with fail
    have hR9 := (((hR7.put 0 (.int .i64 0)).put 1 (.int .u32 0)).put 2 (.int .u32 0)).put 3 (.string ⟨#[]⟩)
    have hK9 := (((hK7.set (p := ⟨w.heap.size, 0, none⟩) (Nat.le_refl _) (.int .i64 0)).set (p := ⟨w.heap.size, 1, none⟩) (Nat.le_refl _) (.int .u32 0)).set (p := ⟨w.heap.size, 2, none⟩) (Nat.le_refl _) (.int .u32 0)).set (p := ⟨w.heap.size, 3, none⟩) (Nat.le_refl _) (.string ⟨#[]⟩)
    generalize (((wq.setCell ⟨w.heap.size, 0, none⟩ (.int .i64 0)).setCell ⟨w.heap.size, 1, none⟩ (.int .u32 0)).setCell ⟨w.heap.size, 2, none⟩ (.int .u32 0)).setCell ⟨w.heap.size, 3, none⟩ (.string ⟨#[]⟩) = w9 at *
    have x0 : w9.cell? ⟨w.heap.size, 0, none⟩ = some (.int .i64 0) := hR9.cell 0
    have x1 : w9.cell? ⟨w.heap.size, 1, none⟩ = some (.int .u32 0) := hR9.cell 1
    have x2 : w9.cell? ⟨w.heap.size, 2, none⟩ = some (.int .u32 0) := hR9.cell 2
    have x3 : w9.cell? ⟨w.heap.size, 3, none⟩ = some (.string ⟨#[]⟩) := hR9.cell 3
    refine bodyPost_ret (v := .tuple #[frv 0 0 0 ⟨#[]⟩, .int .i64 2]) (by simp [results, Tryz.results32, go_sem, x0, x1, x2, x3]) rfl ⟨by rw [HRF.out]; rfl, hK9⟩

  · have HRF := Lib.hid (HCB.out (Or.inr (Or.inl hc)))
    clear HCL HCB
    go_wp2_with fail
    have hR9 := (((hR7.put 0 (.int .i64 0)).put 1 (.int .u32 0)).put 2 (.int .u32 0)).put 3 (.string ⟨#[]⟩)
    have hK9 := (((hK7.set (p := ⟨w.heap.size, 0, none⟩) (Nat.le_refl _) (.int .i64 0)).set (p := ⟨w.heap.size, 1, none⟩) (Nat.le_refl _) (.int .u32 0)).set (p := ⟨w.heap.size, 2, none⟩) (Nat.le_refl _) (.int .u32 0)).set (p := ⟨w.heap.size, 3, none⟩) (Nat.le_refl _) (.string ⟨#[]⟩)
    generalize (((wq.setCell ⟨w.heap.size, 0, none⟩ (.int .i64 0)).setCell ⟨w.heap.size, 1, none⟩ (.int .u32 0)).setCell ⟨w.heap.size, 2, none⟩ (.int .u32 0)).setCell ⟨w.heap.size, 3, none⟩ (.string ⟨#[]⟩) = w9 at *
    have x0 : w9.cell? ⟨w.heap.size, 0, none⟩ = some (.int .i64 0) := hR9.cell 0
    have x1 : w9.cell? ⟨w.heap.size, 1, none⟩ = some (.int .u32 0) := hR9.cell 1
    have x2 : w9.cell? ⟨w.heap.size, 2, none⟩ = some (.int .u32 0) := hR9.cell 2
    have x3 : w9.cell? ⟨w.heap.size, 3, none⟩ = some (.string ⟨#[]⟩) := hR9.cell 3
    refine bodyPost_ret (v := .tuple #[frv 0 0 0 ⟨#[]⟩, .int .i64 2]) (by simp [results, Tryz.results32, go_sem, x0, x1, x2, x3]) rfl ⟨by rw [HRF.out]; rfl, hK9⟩

  · have HRF := Lib.hid (HCB.out (Or.inr (Or.inr (Or.inl (by omega)))))
    clear HCL HCB
    have hd : decide ((s.size : Int) - 15 < (bodyLen s : Int)) = true := by simpa using hc
    go_wp2_with fail
    have hR9 := (((hR7.put 0 (.int .i64 0)).put 1 (.int .u32 0)).put 2 (.int .u32 0)).put 3 (.string ⟨#[]⟩)
    have hK9 := (((hK7.set (p := ⟨w.heap.size, 0, none⟩) (Nat.le_refl _) (.int .i64 0)).set (p := ⟨w.heap.size, 1, none⟩) (Nat.le_refl _) (.int .u32 0)).set (p := ⟨w.heap.size, 2, none⟩) (Nat.le_refl _) (.int .u32 0)).set (p := ⟨w.heap.size, 3, none⟩) (Nat.le_refl _) (.string ⟨#[]⟩)
    generalize (((wq.setCell ⟨w.heap.size, 0, none⟩ (.int .i64 0)).setCell ⟨w.heap.size, 1, none⟩ (.int .u32 0)).setCell ⟨w.heap.size, 2, none⟩ (.int .u32 0)).setCell ⟨w.heap.size, 3, none⟩ (.string ⟨#[]⟩) = w9 at *
    have x0 : w9.cell? ⟨w.heap.size, 0, none⟩ = some (.int .i64 0) := hR9.cell 0
    have x1 : w9.cell? ⟨w.heap.size, 1, none⟩ = some (.int .u32 0) := hR9.cell 1
    have x2 : w9.cell? ⟨w.heap.size, 2, none⟩ = some (.int .u32 0) := hR9.cell 2
    have x3 : w9.cell? ⟨w.heap.size, 3, none⟩ = some (.string ⟨#[]⟩) := hR9.cell 3
    refine bodyPost_ret (v := .tuple #[frv 0 0 0 ⟨#[]⟩, .int .i64 2]) (by simp [results, Tryz.results32, go_sem, x0, x1, x2, x3]) rfl ⟨by rw [HRF.out]; rfl, hK9⟩

  · have hd : decide ((s.size : Int) - 15 < (bodyLen s : Int)) = false := by simp; omega
    have hl : bodyLen s + 15 ≤ s.size := by omega
    have HPS := Lib.hid (page_same s h1 h2 hl hS)
    have g1 : IntKind.i64.wrap (11 + (bodyLen s : Int)) = 11 + (bodyLen s : Int) := IntWalk.i64_in _ (by omega)
    have g2 : 0 ≤ 11 + (bodyLen s : Int) := by omega
    have g3 : 11 ≤ 11 + (bodyLen s : Int) := by omega
    have g4 : 11 + (bodyLen s : Int) ≤ (s.size : Int) := by omega
    have g5 : (11 + (bodyLen s : Int)).toNat = 11 + bodyLen s := by omega
    have f3 := hB7.free 3
    have HKA : (0 ≤ fA s ∧ fA s ≤ 4294967295) ∧ (0 ≤ fB s ∧ fB s ≤ 4294967295) := by
      have := get4_lt s 1
      have := get4_lt s 5
      simp only [fA, fB]
      omega
    have hbsz : (fBody s).size = bodyLen s := by rw [ext_size _ _ _ (by omega)]; omega
    have HPG := Lib.hid (fun W => page_any (s.size : Int) (fKind s) (fA s) (fB s) (fBody s) ⟨hc1, hc2⟩ HKA.1 HKA.2 (by omega) (by rw [hbsz]; omega) W)
    clear hbsz HKA
    go_wp2_with fail
    have hB8 := hB7.put 3 (.string (fBody s))
    have hR8 := hR7.far (p := ⟨nb9, 3, none⟩) (by simp; omega) (.string (fBody s))
    have hK8 := hK7.set (p := ⟨nb9, 3, none⟩) (by simp; omega) (.string (fBody s))
    generalize wq.setCell ⟨nb9, 3, none⟩ (.string (fBody s)) = w8 at *
    clear hB7 hR7 hK7 d0 d1 d2 d3 f3 hfr r0 r1 r2 r3
    obtain ⟨d0, d1, d2, d3⟩ : w8.cell? ⟨nb9, 0, none⟩ = some (.int .i64 (byteAt s 0 : Int)) ∧ w8.cell? ⟨nb9, 1, none⟩ = some (.int .u32 (fA s)) ∧ w8.cell? ⟨nb9, 2, none⟩ = some (.int .u32 (fB s)) ∧ w8.cell? ⟨nb9, 3, none⟩ = some (.string (fBody s)) := ⟨hB8.cell 0, hB8.cell 1, hB8.cell 2, hB8.cell 3⟩
    refine (HPG.out _).mono ?_
    rintro e w10 ⟨rfl, hk10⟩
    have hB10 := hB8.keep hk10
    have hR10 := hR8.keep hk10
    have hK10 := hK8.trans hk10
    clear HPG hB8 hR8 hK8 hk10 d0 d1 d2 d3
    have hfr := fun i => hR10.free i
    obtain ⟨r0, r1, r2, r3⟩ : w10.cell? ⟨w.heap.size, 0, none⟩ = some (.int .i64 0) ∧ w10.cell? ⟨w.heap.size, 1, none⟩ = some (.int .u32 0) ∧ w10.cell? ⟨w.heap.size, 2, none⟩ = some (.int .u32 0) ∧ w10.cell? ⟨w.heap.size, 3, none⟩ = some (.string ⟨#[]⟩) := ⟨hR10.cell 0, hR10.cell 1, hR10.cell 2, hR10.cell 3⟩
    have hps := HPS.out
    obtain ⟨z, hz⟩ : ∃ z, pageS (s.size : Int) (fKind s) (fA s) (fB s) (fBody s) = z := ⟨_, rfl⟩
    rw [hz] at hps ⊢
    clear HPS hz
    by_cases hp : Padded s
    · have HRF := Lib.hid (HCL.out ⟨hc1, hc2, hl⟩ hp)
      have hzz : (z.toList == s.toList) = true := by rw [beq_bytes]; simpa using hps.2 hp
      clear HCL HCB hps
      obtain ⟨d0, d1, d2, d3⟩ : w10.cell? ⟨nb9, 0, none⟩ = some (.int .i64 (byteAt s 0 : Int)) ∧ w10.cell? ⟨nb9, 1, none⟩ = some (.int .u32 (fA s)) ∧ w10.cell? ⟨nb9, 2, none⟩ = some (.int .u32 (fB s)) ∧ w10.cell? ⟨nb9, 3, none⟩ = some (.string (fBody s)) := ⟨hB10.cell 0, hB10.cell 1, hB10.cell 2, hB10.cell 3⟩
      go_wp2_with fail
      have hR9 := (((hR10.put 0 (.int .i64 (fKind s))).put 1 (.int .u32 (fA s))).put 2 (.int .u32 (fB s))).put 3 (.string (fBody s))
      have hK9 := (((hK10.set (p := ⟨w.heap.size, 0, none⟩) (Nat.le_refl _) (.int .i64 (fKind s))).set (p := ⟨w.heap.size, 1, none⟩) (Nat.le_refl _) (.int .u32 (fA s))).set (p := ⟨w.heap.size, 2, none⟩) (Nat.le_refl _) (.int .u32 (fB s))).set (p := ⟨w.heap.size, 3, none⟩) (Nat.le_refl _) (.string (fBody s))
      generalize (((w10.setCell ⟨w.heap.size, 0, none⟩ (.int .i64 (fKind s))).setCell ⟨w.heap.size, 1, none⟩ (.int .u32 (fA s))).setCell ⟨w.heap.size, 2, none⟩ (.int .u32 (fB s))).setCell ⟨w.heap.size, 3, none⟩ (.string (fBody s)) = w9 at *
      have x0 : w9.cell? ⟨w.heap.size, 0, none⟩ = some (.int .i64 (byteAt s 0 : Int)) := hR9.cell 0
      have x1 : w9.cell? ⟨w.heap.size, 1, none⟩ = some (.int .u32 (fA s)) := hR9.cell 1
      have x2 : w9.cell? ⟨w.heap.size, 2, none⟩ = some (.int .u32 (fB s)) := hR9.cell 2
      have x3 : w9.cell? ⟨w.heap.size, 3, none⟩ = some (.string (fBody s)) := hR9.cell 3
      refine bodyPost_ret (v := .tuple #[frv (fKind s) (fA s) (fB s) (fBody s), .int .i64 0]) (by simp [results, Tryz.results32, go_sem, x0, x1, x2, x3]) rfl ⟨by rw [HRF.out], hK9⟩

    · have HRF := Lib.hid (HCB.out (Or.inr (Or.inr (Or.inr hp))))
      have hzz : (z.toList == s.toList) = false := by rw [beq_bytes]; simpa using fun h => hp (hps.1 h)
      clear HCL HCB hps
      go_wp2_with fail
      have hR9 := (((hR10.put 0 (.int .i64 0)).put 1 (.int .u32 0)).put 2 (.int .u32 0)).put 3 (.string ⟨#[]⟩)
      have hK9 := (((hK10.set (p := ⟨w.heap.size, 0, none⟩) (Nat.le_refl _) (.int .i64 0)).set (p := ⟨w.heap.size, 1, none⟩) (Nat.le_refl _) (.int .u32 0)).set (p := ⟨w.heap.size, 2, none⟩) (Nat.le_refl _) (.int .u32 0)).set (p := ⟨w.heap.size, 3, none⟩) (Nat.le_refl _) (.string ⟨#[]⟩)
      generalize (((w10.setCell ⟨w.heap.size, 0, none⟩ (.int .i64 0)).setCell ⟨w.heap.size, 1, none⟩ (.int .u32 0)).setCell ⟨w.heap.size, 2, none⟩ (.int .u32 0)).setCell ⟨w.heap.size, 3, none⟩ (.string ⟨#[]⟩) = w9 at *
      have x0 : w9.cell? ⟨w.heap.size, 0, none⟩ = some (.int .i64 0) := hR9.cell 0
      have x1 : w9.cell? ⟨w.heap.size, 1, none⟩ = some (.int .u32 0) := hR9.cell 1
      have x2 : w9.cell? ⟨w.heap.size, 2, none⟩ = some (.int .u32 0) := hR9.cell 2
      have x3 : w9.cell? ⟨w.heap.size, 3, none⟩ = some (.string ⟨#[]⟩) := hR9.cell 3
      refine bodyPost_ret (v := .tuple #[frv 0 0 0 ⟨#[]⟩, .int .i64 2]) (by simp [results, Tryz.results32, go_sem, x0, x1, x2, x3]) rfl ⟨by rw [HRF.out]; rfl, hK9⟩

/-- Read, of any text. -/
theorem read_any (s : ByteArray) (hs : s.size ≤ 9223372036854775807) (w : World) :
    Calls Tryz.prog 32 #[.string s] w fun e w' => e = .returned (.tuple #[(readF s).1.v, .int .i64 (readF s).2]) ∧ Kp w w' := by
  show Calls Tryz.prog 32 #[.string s] w (ReadPost w (readF s).1 (readF s).2)
  by_cases hl : s.size < 32 ∨ 128 < s.size
  · have : readF s = (noFr, 1) := if_pos hl
    rw [this]
    exact read_len s hs (by omega) w
  · rcases hb : blankB s with _ | _
    · by_cases hS : SumOk s
      · exact read_rest s (by omega) (by omega) hb hS w
      · have : readF s = (noFr, 5) := by unfold readF; rw [if_neg hl, if_neg (by rw [hb]; simp), if_pos hS]
        rw [this]
        exact read_sum s (by omega) (by omega) hb hS w
    · have : readF s = (noFr, 9) := by unfold readF; rw [if_neg hl, if_pos hb]
      rw [this]
      exact read_blank s (by omega) (by omega) hb w
end Go.Proofs.YtnhogmheedeeiaaGreat
/- The contract of the reference's FrameRead. -/
namespace Go.Proofs.YtnhogmheedeeiaaGreat
open Go.RowKit
set_option linter.unusedVariables false
set_option maxRecDepth 20000

end Go.Proofs.YtnhogmheedeeiaaGreat
/- Frames: a frame comes back from its page. -/
namespace Go.Proofs.YtnhogmheedeeiaaGreat
open Go.RowKit
set_option linter.unusedVariables false
set_option maxRecDepth 20000

theorem byteAt_app_l (a b : ByteArray) (i : Nat) (h : i < a.size) : byteAt (a ++ b) i = byteAt a i := by
  unfold byteAt
  rw [nb_append, List.getD_eq_getElem?_getD, List.getElem?_append_left (by rw [nb_len]; exact h), List.getD_eq_getElem?_getD]
theorem byteAt_app_r (a b : ByteArray) (i : Nat) : byteAt (a ++ b) (a.size + i) = byteAt b i := by
  unfold byteAt
  rw [nb_append, List.getD_eq_getElem?_getD, List.getElem?_append_right (by rw [nb_len]; omega), nb_len, List.getD_eq_getElem?_getD]
  congr 2
  omega
theorem get4_app_l (a b : ByteArray) (i : Nat) (h : i + 4 ≤ a.size) : get4 (a ++ b) i = get4 a i := by
  unfold get4
  rw [byteAt_app_l _ _ _ (by omega), byteAt_app_l _ _ _ (by omega), byteAt_app_l _ _ _ (by omega), byteAt_app_l _ _ _ (by omega)]
theorem get4_app_r (a b : ByteArray) (i : Nat) : get4 (a ++ b) (a.size + i) = get4 b i := by
  unfold get4
  rw [byteAt_app_r, Nat.add_assoc, byteAt_app_r, Nat.add_assoc, byteAt_app_r, Nat.add_assoc, byteAt_app_r]
theorem get4_of_put (c : Nat) (h : c < 4294967296) : get4 (put c) 0 = c := by
  have := get4_put ⟨#[]⟩ ⟨#[]⟩ c h
  rw [show (⟨#[]⟩ : ByteArray) ++ put c ++ ⟨#[]⟩ = put c from ?_] at this
  · exact this
  · apply nb_inj; rw [nb_append, nb_append]; simp [nb]
theorem ext_app_l (a b : ByteArray) (i j : Nat) (h : j ≤ a.size) : (a ++ b).extract i j = a.extract i j := by
  apply nb_inj
  rw [nb_extract, nb_extract, nb_append]
  by_cases hij : i ≤ j
  · rw [List.drop_append_of_le_length (by rw [nb_len]; omega), List.take_append_of_le_length (by rw [List.length_drop, nb_len]; omega)]
  · rw [show j - i = 0 by omega, List.take_zero, List.take_zero]
theorem ext_all (a : ByteArray) : a.extract 0 a.size = a := by
  apply nb_inj
  rw [nb_extract, List.drop_zero, Nat.sub_zero, List.take_of_length_le (by rw [nb_len]; exact Nat.le_refl _)]
theorem ext_app_r (a b : ByteArray) (j : Nat) : (a ++ b).extract a.size (a.size + j) = b.extract 0 j := by
  apply nb_inj
  rw [nb_extract, nb_extract, nb_append, List.drop_append_of_le_length (by rw [nb_len]; exact Nat.le_refl _), List.drop_of_length_le (by rw [nb_len]; exact Nat.le_refl _)]
  simp

/-- What holds of a page's parts. -/
structure PgOk (n k a b : Int) (t : ByteArray) : Prop where
  n1 : 32 ≤ n
  n2 : n ≤ 128
  k1 : 1 ≤ k
  k2 : k ≤ 4
  a1 : 0 ≤ a
  a2 : a ≤ 4294967295
  b1 : 0 ≤ b
  b2 : b ≤ 4294967295
  room : (t.size : Int) + 15 ≤ n
section
variable {n k a b : Int} {t : ByteArray}
theorem full_size (h : PgOk n k a b t) : ((fullS n k a b t).size : Int) = n - 4 := by
  have := headS_size k a b t
  have hr := h.room
  unfold fullS
  rw [ByteArray.size_append, fillS_size, this]
  omega
theorem pageS_size (h : PgOk n k a b t) : ((pageS n k a b t).size : Int) = n := by
  have := full_size h
  unfold pageS
  rw [ByteArray.size_append, put_size]
  omega
theorem head_at (h : PgOk n k a b t) (i : Nat) (hi : i < 11 + t.size) : byteAt (pageS n k a b t) i = byteAt (headS k a b t) i := by
  have h1 := headS_size k a b t
  have h2 := full_size h
  have h3 := h.room
  unfold pageS
  rw [byteAt_app_l _ _ _ (by omega)]
  unfold fullS
  rw [byteAt_app_l _ _ _ (by omega)]
theorem nb_num (x : Int) (h0 : 0 ≤ x) (h : x < 256) : nb (strOfNums [x]) = [x.toNat] := by
  have := nb_strN [x.toNat] (by simp; omega)
  unfold strN at this
  simp only [List.map_cons, List.map_nil, Int.toNat_of_nonneg h0] at this
  exact this
theorem nb_num2 (x y : Int) (h0 : 0 ≤ x) (h : x < 256) (h1 : 0 ≤ y) (h2 : y < 256) : nb (strOfNums [x, y]) = [x.toNat, y.toNat] := by
  have := nb_strN [x.toNat, y.toNat] (by simp; omega)
  unfold strN at this
  simp only [List.map_cons, List.map_nil, Int.toNat_of_nonneg h0, Int.toNat_of_nonneg h1] at this
  exact this
theorem back_fields (h : PgOk n k a b t) : fKind (pageS n k a b t) = k ∧ byteAt (pageS n k a b t) 10 = 0 ∧ bodyLen (pageS n k a b t) = t.size ∧ fA (pageS n k a b t) = a ∧ fB (pageS n k a b t) = b ∧ fBody (pageS n k a b t) = t := by
  obtain ⟨n1, n2, k1, k2, a1, a2, b1, b2, hr⟩ := id h
  have hs := headS_size k a b t
  have hf := full_size h
  -- the head, part by part
  have e0 : headS k a b t = strOfNums [k] ++ (put a.toNat ++ (put b.toNat ++ (strOfNums [(t.size : Int), 0] ++ t))) := by
    unfold headS; simp only [ByteArray.append_assoc]
  have s1 : (strOfNums [k]).size = 1 := by rw [strOfNums_size]; rfl
  have s2 := put_size a.toNat
  have s3 := put_size b.toNat
  have s4 : (strOfNums [(t.size : Int), 0]).size = 2 := by rw [strOfNums_size]; rfl
  have k0 : byteAt (pageS n k a b t) 0 = k.toNat := by
    rw [head_at h 0 (by omega), e0, byteAt_app_l _ _ _ (by omega)]
    unfold byteAt; rw [nb_num k (by omega) (by omega)]; rfl
  have at9 : ∀ i, i < 2 + t.size → byteAt (pageS n k a b t) (9 + i) = byteAt (strOfNums [(t.size : Int), 0] ++ t) i := by
    intro i hi
    rw [head_at h _ (by omega), e0]
    rw [show 9 + i = (strOfNums [k]).size + ((put a.toNat).size + ((put b.toNat).size + i)) by omega, byteAt_app_r, byteAt_app_r, byteAt_app_r]
  have k9 : byteAt (pageS n k a b t) 9 = t.size := by
    have := at9 0 (by omega)
    rw [show 9 + 0 = 9 from rfl] at this
    rw [this, byteAt_app_l _ _ _ (by omega)]
    unfold byteAt; rw [nb_num2 _ _ (by omega) (by omega) (by omega) (by omega)]; simp
  have k10 : byteAt (pageS n k a b t) 10 = 0 := by
    have := at9 1 (by omega)
    rw [show 9 + 1 = 10 from rfl] at this
    rw [this, byteAt_app_l _ _ _ (by omega)]
    unfold byteAt; rw [nb_num2 _ _ (by omega) (by omega) (by omega) (by omega)]; simp
  have hbl : bodyLen (pageS n k a b t) = t.size := by unfold bodyLen; rw [k9, k10]; omega
  have gpage : ∀ i, i + 4 ≤ 11 → get4 (pageS n k a b t) i = get4 (headS k a b t) i := by
    intro i hi
    unfold get4
    rw [head_at h _ (by omega), head_at h _ (by omega), head_at h _ (by omega), head_at h _ (by omega)]
  have ga : get4 (pageS n k a b t) 1 = a.toNat := by
    rw [gpage 1 (by omega), e0]
    have := get4_app_r (strOfNums [k]) (put a.toNat ++ (put b.toNat ++ (strOfNums [(t.size : Int), 0] ++ t))) 0
    rw [s1] at this
    rw [this, get4_app_l _ _ _ (by omega), get4_of_put _ (by omega)]
  have gb : get4 (pageS n k a b t) 5 = b.toNat := by
    rw [gpage 5 (by omega), e0]
    have := get4_app_r (strOfNums [k]) (put a.toNat ++ (put b.toNat ++ (strOfNums [(t.size : Int), 0] ++ t))) ((put a.toNat).size + 0)
    rw [s1, s2] at this
    rw [show (5 : Nat) = 1 + (4 + 0) from rfl, this, show (4 + 0 : Nat) = (put a.toNat).size + 0 by omega, get4_app_r, get4_app_l _ _ _ (by omega), get4_of_put _ (by omega)]
  have hbody : fBody (pageS n k a b t) = t := by
    unfold fBody
    rw [hbl]
    unfold pageS
    rw [ext_app_l _ _ _ _ (by omega)]
    unfold fullS
    rw [ext_app_l _ _ _ _ (by omega)]
    have e1 : headS k a b t = (strOfNums [k] ++ put a.toNat ++ put b.toNat ++ strOfNums [(t.size : Int), 0]) ++ t := rfl
    have s5 : (strOfNums [k] ++ put a.toNat ++ put b.toNat ++ strOfNums [(t.size : Int), 0]).size = 11 := by
      simp only [ByteArray.size_append]; omega
    rw [e1]
    have := ext_app_r (strOfNums [k] ++ put a.toNat ++ put b.toNat ++ strOfNums [(t.size : Int), 0]) t t.size
    rw [s5] at this
    rw [this, ext_all]
  refine ⟨by unfold fKind; rw [k0]; omega, k10, hbl, by unfold fA; rw [ga]; omega, by unfold fB; rw [gb]; omega, hbody⟩
theorem back_sum (h : PgOk n k a b t) : SumOk (pageS n k a b t) ∧ (pageS n k a b t).extract 0 ((pageS n k a b t).size - 4) = fullS n k a b t := by
  have hf := full_size h
  have hp := pageS_size h
  have e : (pageS n k a b t).extract 0 ((pageS n k a b t).size - 4) = fullS n k a b t := by
    unfold pageS at hp ⊢
    rw [ext_app_l _ _ _ _ (by omega)]
    rw [show (fullS n k a b t ++ put (crcN (fullS n k a b t))).size - 4 = (fullS n k a b t).size by omega, ext_all]
  refine ⟨?_, e⟩
  unfold SumOk
  rw [e]
  have := get4_app_r (fullS n k a b t) (put (crcN (fullS n k a b t))) 0
  rw [get4_of_put _ (crcN_lt _)] at this
  rw [show (pageS n k a b t).size - 4 = (fullS n k a b t).size + 0 by omega]
  exact this
theorem not_blank (s : ByteArray) (i : Nat) (hi : i < s.size) (h : byteAt s i ≠ 255) : blankB s = false := by
  rcases blank_cases s with ⟨_, H⟩ | ⟨hb, _⟩
  · exact absurd ((byteAt_get s i hi).trans (H i hi)) h
  · exact hb
theorem read_back (h : PgOk n k a b t) : readF (pageS n k a b t) = (⟨k, a, b, t⟩, 0) ∧ blankB (pageS n k a b t) = false := by
  obtain ⟨f1, f2, f3, f4, f5, f6⟩ := back_fields h
  obtain ⟨n1, n2, k1, k2, a1, a2, b1, b2, hr⟩ := id h
  have hp := pageS_size h
  have hS := (back_sum h).1
  have hb : blankB (pageS n k a b t) = false := not_blank _ 10 (by omega) (by rw [f2]; omega)
  refine ⟨?_, hb⟩
  have hk : (byteAt (pageS n k a b t) 0 : Int) = k := f1
  have hpad := (page_same (pageS n k a b t) (by omega) (by omega) (by omega) hS).1 (by rw [f1, f4, f5, f6, hp])
  rw [readF_ok _ (by omega) (by omega) hb hS ⟨by omega, by omega, by omega⟩ hpad, f1, f4, f5, f6]
end
theorem fill_blank (n : Nat) : blankB (fillS 255 n) = true := by
  unfold blankB
  have := nb_fill 255 n (by omega)
  rw [show ((255 : Nat) : Int) = 255 from rfl] at this
  rw [this]
  simp
end Go.Proofs.YtnhogmheedeeiaaGreat
/- The walks of FrameLays, FrameReads. -/
namespace Go.Proofs.YtnhogmheedeeiaaGreat
open Go.RowKit
set_option linter.unusedVariables false
set_option maxRecDepth 20000

theorem readR (s : ByteArray) (hs : s.size ≤ 9223372036854775807) (f : Fr) (c : Int) (h : readF s = (f, c)) (w : World) :
    Calls Tryz.prog 32 #[.string s] w fun e w' => e = .returned (.tuple #[frv f.k f.a f.b f.t, .int .i64 c]) ∧ Kp w w' := by
  have := read_any s hs w
  rw [h] at this
  exact this
theorem bytesR (p s r k a b : Int) (t : ByteArray) (ht : t.size ≤ 9223372036854775807) (ha : 0 ≤ a ∧ a ≤ 4294967295) (hb : 0 ≤ b ∧ b ≤ 4294967295) (x : ByteArray) (c : Int) (h : fbS p s r k a b t = (x, c)) (w : World) :
    Calls Tryz.prog 45 #[geo p s r, frv k a b t] w fun e w' => e = .returned (.tuple #[.string x, .int .i64 c]) ∧ Kp w w' := by
  have := fbytes_any p s r k a b t ht ha hb w
  rw [h] at this
  exact this
theorem rbytesR (p s r k a b : Int) (t : ByteArray) (ht : t.size ≤ 9223372036854775807) (ha : 0 ≤ a ∧ a ≤ 4294967295) (hb : 0 ≤ b ∧ b ≤ 4294967295) (x : ByteArray) (c : Int) (h : fbS p s r k a b t = (x, c)) (w : World) :
    Calls Tryz.prog 50 #[geo p s r, frv k a b t] w fun e w' => e = .returned (.tuple #[.string x, .int .i64 c]) ∧ Kp w w' := by
  have := rfbytes_any p s r k a b t ht ha hb w
  rw [h] at this
  exact this
/-- A frame that may be has its page. -/
theorem fbS_ok (p s r k a b : Int) (t : ByteArray) (hR : RightG p s r) (h : PgOk p k a b t) : fbS p s r k a b t = (pageS p k a b t, 0) := by
  obtain ⟨n1, n2, k1, k2, a1, a2, b1, b2, hr⟩ := id h
  unfold fbS
  rw [if_neg (fun h => h hR), if_neg (by omega), if_neg (by omega)]
theorem right324 : RightG 32 4 4 := by unfold RightG; omega
theorem ab_ok : PgOk 32 2 7 0 ⟨#[97, 98]⟩ := ⟨by omega, by omega, by omega, by omega, by omega, by omega, by omega, by omega, by decide⟩
theorem blank32 : readF (fillS 255 32) = (noFr, 9) := by
  unfold readF
  rw [if_neg (by rw [fillS_size]; omega), if_pos (fill_blank 32)]

set_option maxRecDepth 20000 in
set_option maxHeartbeats 1600000 in
theorem lays_tail (p s r k a b : Int) (t : ByteArray) (ht : t.size ≤ 9223372036854775807) (ha : 0 ≤ a ∧ a ≤ 4294967295) (hb : 0 ≤ b ∧ b ≤ 4294967295) : ∃ x c, (∀ W, Calls Tryz.prog 45 #[geo p s r, frv k a b t] W fun e w' => e = .returned (.tuple #[.string x, .int .i64 c]) ∧ Kp W w') ∧ (∀ W, Calls Tryz.prog 50 #[geo p s r, frv k a b t] W fun e w' => e = .returned (.tuple #[.string x, .int .i64 c]) ∧ Kp W w') :=
  ⟨_, _, fun W => bytesR p s r k a b t ht ha hb _ _ rfl W, fun W => rbytesR p s r k a b t ht ha hb _ _ rfl W⟩
end Go.Proofs.YtnhogmheedeeiaaGreat
