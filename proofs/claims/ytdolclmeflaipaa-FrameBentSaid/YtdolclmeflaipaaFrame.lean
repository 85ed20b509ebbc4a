/- The contracts of package frame: page. -/
import Derived.Test.YtdolclmeflaipaaRel
import Derived.Test.YtdolclmeflaipaaPut
import Derived.Test.YtdolclmeflaipaaBytes
import Derived.Test.YtdolclmeflaipaaGeom2
import Derived.Test.YtdolclmeflaipaaShelf
namespace Go.Proofs.Ytdolclmeflaipaa
open Go.RowKit
set_option linter.unusedVariables false

abbrev frv (k a b : Int) (s : ByteArray) : Value := .agg #[.int .i64 k, .int .u32 a, .int .u32 b, .string s]
abbrev fob (k a b : Int) (s : ByteArray) : Obj := .cells #[.int .i64 k, .int .u32 a, .int .u32 b, .string s] 26
/-- A frame's box stays. -/
theorem Frk (w : World) (k a b : Int) (s : ByteArray) : ∀ W, Kp (w.alloc (fob k a b s)) W → W.cell? ⟨w.heap.size, 0, none⟩ = some (.int .i64 k) ∧ W.cell? ⟨w.heap.size, 1, none⟩ = some (.int .u32 a) ∧ W.cell? ⟨w.heap.size, 2, none⟩ = some (.int .u32 b) ∧ W.cell? ⟨w.heap.size, 3, none⟩ = some (.string s) := by
  intro W h
  have hb : Bk W w.heap.size 26 [.int .i64 k, .int .u32 a, .int .u32 b, .string s] := (Bk.new w _ _).keep h
  exact ⟨hb.cell 0, hb.cell 1, hb.cell 2, hb.cell 3⟩

theorem FrkB (w : World) (n : Nat) (hn : w.heap.size = n) (k a b : Int) (s : ByteArray) : ∀ W, Kp (w.alloc (fob k a b s)) W → W.cell? ⟨n, 0, none⟩ = some (.int .i64 k) ∧ W.cell? ⟨n, 1, none⟩ = some (.int .u32 a) ∧ W.cell? ⟨n, 2, none⟩ = some (.int .u32 b) ∧ W.cell? ⟨n, 3, none⟩ = some (.string s) := by
  subst hn; exact Frk w k a b s
/-- A page up to its body's end. -/
def headS (k a b : Int) (s : ByteArray) : ByteArray := strOfNums [k] ++ put a.toNat ++ put b.toNat ++ strOfNums [(s.size : Int), 0] ++ s
def fullS (n k a b : Int) (s : ByteArray) : ByteArray := headS k a b s ++ fillS 0 (n - 4 - (headS k a b s).size).toNat
/-- A page with a frame. -/
def pageS (n k a b : Int) (s : ByteArray) : ByteArray := fullS n k a b s ++ put (crcN (fullS n k a b s))
theorem headS_size (k a b : Int) (s : ByteArray) : (headS k a b s).size = 11 + s.size := by
  unfold headS
  simp only [ByteArray.size_append, strOfNums_size, put_size]
  simp
theorem putK (c : Int) (h : 0 ≤ c ∧ c ≤ 4294967295) (w : World) : Calls Try.prog 30 #[.int .u32 c] w fun e w' => e = .returned (.string (put c.toNat)) ∧ Kp w w' :=
  (put_x c h.1 h.2 w).mono fun e w' ⟨h1, h2⟩ => ⟨h1, h2 ▸ Kp.one _ _⟩
theorem put4K (c : Int) (h : 0 ≤ c ∧ c ≤ 4294967295) (w : World) : Calls Try.prog 21 #[.int .u32 c] w fun e w' => e = .returned (.string (put c.toNat)) ∧ Kp w w' :=
  (put4_x c h.1 h.2 w).mono fun e w' ⟨h1, h2⟩ => ⟨h1, h2 ▸ Kp.one _ _⟩
theorem one_cell (w : World) (a : Value) (t : TypeId) : (w.alloc (.cells #[a] t)).cell? ⟨w.heap.size, 0, none⟩ = some a := by
  rw [World.cell?_alloc_at _ _ _ _ rfl]; rfl
theorem crcI (s : ByteArray) : 0 ≤ ((crcN s : Nat) : Int) ∧ ((crcN s : Nat) : Int) ≤ 4294967295 := by have := crcN_lt s; omega
theorem rep0 (c : Nat) : (⟨(Lib.repeatL [0] c).toArray⟩ : ByteArray) = fillS 0 c := by
  apply ByteArray.ext
  apply Array.toList_inj.1
  unfold fillS
  rw [strOfNums_data]
  simp
  induction c with
  | zero => rfl
  | succ c ih => rw [Lib.repeatL, ih]; rfl
theorem repK (N : Int) (h0 : 0 ≤ N) (h1 : N ≤ 140737488351232) (w : World) : Calls Try.prog 35 #[.string ⟨#[0]⟩, .int .i64 N] w fun e w' => e = .returned (.string (fillS 0 N.toNat)) ∧ Kp w w' := by
  have := Try.strings_Repeat ⟨#[0]⟩ N.toNat w (by omega) (by show 1 * _ ≤ _; omega)
  rw [Int.toNat_of_nonneg h0] at this
  exact this.mono fun e w' ⟨h1, h2⟩ => ⟨by rw [h1, ← rep0], h2⟩
set_option maxHeartbeats 1600000 in
theorem page_any (n k a b : Int) (s : ByteArray) (hk : 1 ≤ k ∧ k ≤ 4) (ha : 0 ≤ a ∧ a ≤ 4294967295) (hb : 0 ≤ b ∧ b ≤ 4294967295) (hn : n ≤ 128) (hs : (s.size : Int) + 15 ≤ n) (w : World) :
    Calls Try.prog 27 #[.int .i64 n, frv k a b s] w fun e w' => e = .returned (.string (pageS n k a b s)) ∧ Kp w w' := by
  have HB := Lib.hid (Frk w k a b s)
  have hbig : ¬ (9223372036854775807 < (strOfNums [k]).size + (put a.toNat).size + (put b.toNat).size + (strOfNums [(s.size : Int), 0]).size + s.size) := by simp only [strOfNums_size, put_size]; simp; omega
  have hws : IntKind.u8.wrap (s.size : Int) = (s.size : Int) := by simp [IntKind.wrap, IntKind.bits, IntKind.signed]; omega
  have hws2 : IntKind.u8.wrap ((s.size : Int) / 256) = 0 := by rw [show (s.size : Int) / 256 = 0 by omega]; rfl
  have hwk : IntKind.u8.wrap k = k := by simp [IntKind.wrap, IntKind.bits, IntKind.signed]; omega
  go_enter Try.func27, Try.ntmps27
  go_wp2_with fail
  have hK1 := Kp.one w (fob k a b s)
  generalize w.alloc (fob k a b s) = w1 at *
  refine wp_region_rel (R := Kp) (C := fun W => Kp w1 W) (by kernel_rfl) (by kernel_rfl) (Kp.refl w1).drew (fun _ _ h k => h.trans k) Kp.refl (fun _ _ _ h k => h.trans k) ?_
  repeat (refine wpRel_step (fun K hK => ?_); apply rel_eq; (case ob => (intro f W hW hd; (obtain ⟨b0, b1, b2, b3⟩ := HB.out _ hW); (try simp [deps, factOf, Region.binds] at hd); unfold relOp; go_simp; (first | exact ⟨Kp.refl _, rfl⟩ | exact Kp.refl _ | (refine ⟨Kp.refl _, ?_⟩; fail)))); go_simp; refine hK _ _ ?_; clear hK K)
  refine wpRel_step (fun K hK => ?_)
  apply rel_fact (fun v W => ∃ q, v = .slice (some ⟨q, 0, none⟩) 1 1 ∧ Bk W q 5 (vb [k])) (fun v W W' hr ⟨q, h1, h2⟩ => ⟨q, h1, h2.keep hr⟩)
  case ob =>
    intro f W hW hd
    obtain ⟨b0, b1, b2, b3⟩ := HB.out _ hW
    (try simp [deps, factOf, Region.binds] at hd)
    unfold relOp
    go_simp
    exact ⟨Kp.one _ _, Bk.new _ _ _⟩
  go_simp
  refine hK _ _ ?_
  clear hK K
  refine wpRel_step (fun K hK => ?_)
  apply rel_fact (fun v _ => v = .string (strOfNums [k])) (fun _ _ _ _ h => h)
  case ob =>
    intro f W hW hd
    (simp [deps, factOf, Region.binds] at hd; obtain ⟨q, e3, hq⟩ := hd; have hcv := conv_bk (n := 1) hq rfl)
    (try simp [deps, factOf, Region.binds] at hd)
    unfold relOp
    go_simp
    first | exact ⟨Kp.refl _, rfl⟩ | exact Kp.refl _
  go_simp
  refine hK _ _ ?_
  clear hK K
  repeat (refine wpRel_step (fun K hK => ?_); apply rel_eq; (case ob => (intro f W hW hd; (obtain ⟨b0, b1, b2, b3⟩ := HB.out _ hW); (try simp [deps, factOf, Region.binds] at hd); unfold relOp; go_simp; (first | exact ⟨Kp.refl _, rfl⟩ | exact Kp.refl _ | (refine ⟨Kp.refl _, ?_⟩; (go_at_call 30; refine (putK _ (by assumption) _).mono ?_; rintro e w' ⟨rfl, hk9⟩; exact ⟨rfl, hk9⟩))))); go_simp; refine hK _ _ ?_; clear hK K)
  refine wpRel_step (fun K hK => ?_)
  apply rel_fact (fun v W => ∃ q, v = .slice (some ⟨q, 0, none⟩) 2 2 ∧ Bk W q 5 (vb [(s.size : Int), 0])) (fun v W W' hr ⟨q, h1, h2⟩ => ⟨q, h1, h2.keep hr⟩)
  case ob =>
    intro f W hW hd
    skip
    (try simp [deps, factOf, Region.binds] at hd)
    unfold relOp
    go_simp
    exact ⟨Kp.one _ _, Bk.new _ _ _⟩
  go_simp
  refine hK _ _ ?_
  clear hK K
  refine wpRel_step (fun K hK => ?_)
  apply rel_fact (fun v _ => v = .string (strOfNums [(s.size : Int), 0])) (fun _ _ _ _ h => h)
  case ob =>
    intro f W hW hd
    (simp [deps, factOf, Region.binds] at hd; obtain ⟨q, e3, hq⟩ := hd; have hcv := conv_bk (n := 2) hq rfl)
    (try simp [deps, factOf, Region.binds] at hd)
    unfold relOp
    go_simp
    first | exact ⟨Kp.refl _, rfl⟩ | exact Kp.refl _
  go_simp
  refine hK _ _ ?_
  clear hK K
  repeat (refine wpRel_step (fun K hK => ?_); apply rel_eq; (case ob => (intro f W hW hd; (obtain ⟨b0, b1, b2, b3⟩ := HB.out _ hW); (try simp [deps, factOf, Region.binds] at hd); unfold relOp; go_simp; (first | exact ⟨Kp.refl _, rfl⟩ | exact Kp.refl _ | (refine ⟨Kp.refl _, ?_⟩; fail)))); go_simp; refine hK _ _ ?_; clear hK K)
  refine wpRel_nil ?_
  intro f W hW hall
  have h28 : f 28 = .string (headS k a b s) := allF_get hall 28 _ rfl
  clear hall HB
  have hz := headS_size k a b s
  have hz1 : ((headS k a b s).size : Int) ≤ n - 4 := by omega
  have hz2 : (headS k a b s).size ≤ 128 := by omega
  clear hz
  have HE : Hid (pageS n k a b s = headS k a b s ++ fillS 0 (n - 4 - (headS k a b s).size).toNat ++ put (crcN (headS k a b s ++ fillS 0 (n - 4 - (headS k a b s).size).toNat))) := Lib.hid rfl
  generalize headS k a b s = hh at *
  go_wp2_with fail
  refine (repK _ (by omega) (by omega) _).mono ?_
  rintro e w3 ⟨rfl, hk3⟩
  have hf := fillS_size 0 (n - 4 - (hh.size : Int)).toNat
  have hf2 : (fillS 0 (n - 4 - (hh.size : Int)).toNat).size ≤ 128 := by omega
  clear hf
  generalize fillS 0 (n - 4 - (hh.size : Int)).toNat = z at *
  have hsz : (hh ++ z).size ≤ 9223372036854775807 := by rw [ByteArray.size_append]; omega
  go_wp2_with fail
  refine (sum1 (hh ++ z) hsz _ _ (one_cell _ _ _)).mono ?_
  rintro e w4 ⟨rfl, rfl⟩
  have hcI := crcI (hh ++ z)
  go_wp2_with fail
  refine (putK _ hcI _).mono ?_
  rintro e w4 ⟨rfl, hk4⟩
  have hpz := put_size (crcN (hh ++ z))
  have hpz2 : (put (crcN (hh ++ z))).size ≤ 4 := by omega
  clear hpz hsz
  go_wp2_with fail
  go_ret
  exact ⟨by rw [HE.out]; rfl, (((hK1.trans hW).trans hk3).alloc _).trans hk4⟩
end Go.Proofs.Ytdolclmeflaipaa
