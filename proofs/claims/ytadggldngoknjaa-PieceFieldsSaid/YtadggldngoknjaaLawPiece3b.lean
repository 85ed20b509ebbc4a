/- 'shaped', part two. -/
import Derived.Test.YtadggldngoknjaaLawPiece3
namespace Go.Proofs.Ytadggldngoknjaa
open Go.RowKit
set_option linter.unusedVariables false

set_option maxRecDepth 20000 in
set_option maxHeartbeats 4000000 in
theorem shaped_0_2 (k a b : Int) (s : ByteArray) (h1 : -9223372036854775808 ≤ k) (h2 : k ≤ 9223372036854775807) (ha : 0 ≤ a ∧ a ≤ 4294967295) (hb : 0 ≤ b ∧ b ≤ 4294967295) (hs : s.size ≤ 140737488351232) (hk : k % 6 = 0) (w : World) :
    Calls Try.prog 11 #[frv k a b s, .int .i64 2] w (SomeFrame w) := by
  obtain ⟨hb0, hb1⟩ := hb
  go_enter Try.func11, Try.ntmps11
  go_wp2_with fail
  refine (pick6 k h1 h2 _ hk _).mono ?_
  rintro e w1 ⟨rfl, rfl⟩
  go_wp2_with fail
  refine (short_cut s _ (by omega) (by omega) (by omega) _).mono ?_
  rintro e w1 ⟨rfl, rfl⟩
  go_upto_region 7 with fail
  have hx := cutS_size s ((0 : Int)) (by omega)
  generalize cutS s ((0 : Int)) = x at hx ⊢
  have ha2 : 1 ≤ 1 + a % 1000 ∧ 1 + a % 1000 ≤ 1000 := by omega
  generalize 1 + a % 1000 = a' at ha2 ⊢
  obtain ⟨a0, a1⟩ := ha2
  obtain ⟨hB, hR⟩ := box_two w [.int .i64 0, .int .u32 a', .int .u32 b, .string x] [.int .i64 0, .int .u32 0, .int .u32 0, .string ⟨#[]⟩] [.int .i64 0, .int .i64 0, .int .i64 s.size, .int .i64 16, .int .i64 4, .int .i64 0] 29 29 3
  have hK : Kp w (((w.alloc (fob 0 a' b x)).alloc (fob 0 0 0 ⟨#[]⟩)).alloc (.cells #[.int .i64 0, .int .i64 0, .int .i64 s.size, .int .i64 16, .int .i64 4, .int .i64 0] 3)) := by (repeat (first | with_reducible exact Kp.refl _ | with_reducible assumption | with_reducible refine Kp.alloc ?_ _ | with_reducible refine Kp.drew ?_ | with_reducible refine Kp.drewN ?_ _ | exact Kp.refl _ | assumption | refine Kp.alloc ?_ _ | refine Kp.drew ?_ | refine Kp.drewN ?_ _ | refine Kp.trans ?_ (by assumption)))
  have hx1 := hx.1
  have hx2 := hx.2
  clear hx
  have hw1 : IntKind.i64.wrap (-(x.size : Int)) = -(x.size : Int) := IntWalk.i64_in _ (by omega)
  generalize ((w.alloc (fob 0 a' b x)).alloc (fob 0 0 0 ⟨#[]⟩)).alloc (.cells #[.int .i64 0, .int .i64 0, .int .i64 s.size, .int .i64 16, .int .i64 4, .int .i64 0] 3) = W3 at hB hR hK ⊢
  have HS := Lib.hid (fun W (h : Kp W3 W) => (hB.keep h).cell 3)
  simp only [List.getElem?_cons_zero, List.getElem?_cons_succ] at HS
  go_cut [] (fun wx => Kp w wx ∧ ∃ z : ByteArray, z.size = ((0 : Int)).toNat ∧ Bk wx w.heap.size 29 [.int .i64 0, .int .u32 a', .int .u32 b, .string z] ∧ Bk wx (w.heap.size + 1) 29 [.int .i64 0, .int .u32 0, .int .u32 0, .string ⟨#[]⟩])
  case first =>
    have hfr := fun W (h : Kp W3 W) => (hB.keep h).free 3
    have HF := Lib.hid hfr
    clear hfr
    have hc0 := HS.out _ (Kp.refl _)
    have hf0 := HF.out _ (Kp.refl _)
    have hc1 := HS.out _ (Kp.refl W3).drew
    have hf1 := HF.out _ (Kp.refl W3).drew
    go_region_with ((go_at_call 25; refine (fill_any 0 _ (by omega) (by omega) _).mono ?_; rintro e w' ⟨rfl, hk9⟩; have hk8 := Kp.trans (Kp.refl W3).drew hk9; have hc2 := HS.out _ hk8; have hf2 := HF.out _ hk8; have hy := fillS_size 0 (-(x.size : Int)).toNat; generalize fillS 0 (-(x.size : Int)).toNat = y at hy ⊢; have hxy : x.size + y.size ≤ 9223372036854775807 := (by omega); have HY := Lib.hid hy; clear hy))
    all_goals go_wp2_with fail
    all_goals go_meet
    all_goals exact ⟨Kp.set (Kp.trans hK hk8) (Nat.le_refl _) _, _, by rw [ByteArray.size_append]; have := HY.out; omega, (hB.keep hk8).put 3 _, (hR.keep hk8).far (by simp) _⟩
  case rest =>
    clear hw1 HS hB hR hK hx1 hx2
    obtain ⟨hK, z, hz, b0, b1⟩ := hcut
    have hzs : z.size ≤ 9223372036854775807 := by omega
    obtain ⟨c0, c1, c2, c3⟩ := b0.c4
    obtain ⟨e0, e1, e2, e3⟩ := b1.c4
    have f0 := b1.free 0
    have f1 := b1.free 1
    have f2 := b1.free 2
    have f3 := b1.free 3
    clear hz
    go_wp2_with fail
    refine bodyPost_ret (v := frv 0 a' b z) (by simp [results, Try.results11, go_sem, *]) rfl ⟨_, _, _, _, hzs, rfl, store4 hK (by omega) _ _ _ _⟩

set_option maxRecDepth 20000 in
set_option maxHeartbeats 4000000 in
theorem shaped_1_2 (k a b : Int) (s : ByteArray) (h1 : -9223372036854775808 ≤ k) (h2 : k ≤ 9223372036854775807) (ha : 0 ≤ a ∧ a ≤ 4294967295) (hb : 0 ≤ b ∧ b ≤ 4294967295) (hs : s.size ≤ 140737488351232) (hk : k % 6 = 1) (w : World) :
    Calls Try.prog 11 #[frv k a b s, .int .i64 2] w (SomeFrame w) := by
  obtain ⟨hb0, hb1⟩ := hb
  go_enter Try.func11, Try.ntmps11
  go_wp2_with fail
  refine (pick6 k h1 h2 _ hk _).mono ?_
  rintro e w1 ⟨rfl, rfl⟩
  go_wp2_with fail
  refine (short_cut s _ (by omega) (by omega) (by omega) _).mono ?_
  rintro e w1 ⟨rfl, rfl⟩
  go_upto_region 7 with fail
  have hx := cutS_size s ((0 : Int)) (by omega)
  generalize cutS s ((0 : Int)) = x at hx ⊢
  have ha2 : 1 ≤ 1 + a % 1000 ∧ 1 + a % 1000 ≤ 1000 := by omega
  generalize 1 + a % 1000 = a' at ha2 ⊢
  obtain ⟨a0, a1⟩ := ha2
  obtain ⟨hB, hR⟩ := box_two w [.int .i64 1, .int .u32 a', .int .u32 b, .string x] [.int .i64 0, .int .u32 0, .int .u32 0, .string ⟨#[]⟩] [.int .i64 0, .int .i64 0, .int .i64 s.size, .int .i64 16, .int .i64 4, .int .i64 0] 29 29 3
  have hK : Kp w (((w.alloc (fob 1 a' b x)).alloc (fob 0 0 0 ⟨#[]⟩)).alloc (.cells #[.int .i64 0, .int .i64 0, .int .i64 s.size, .int .i64 16, .int .i64 4, .int .i64 0] 3)) := by (repeat (first | with_reducible exact Kp.refl _ | with_reducible assumption | with_reducible refine Kp.alloc ?_ _ | with_reducible refine Kp.drew ?_ | with_reducible refine Kp.drewN ?_ _ | exact Kp.refl _ | assumption | refine Kp.alloc ?_ _ | refine Kp.drew ?_ | refine Kp.drewN ?_ _ | refine Kp.trans ?_ (by assumption)))
  have hx1 := hx.1
  have hx2 := hx.2
  clear hx
  have hw1 : IntKind.i64.wrap (-(x.size : Int)) = -(x.size : Int) := IntWalk.i64_in _ (by omega)
  generalize ((w.alloc (fob 1 a' b x)).alloc (fob 0 0 0 ⟨#[]⟩)).alloc (.cells #[.int .i64 0, .int .i64 0, .int .i64 s.size, .int .i64 16, .int .i64 4, .int .i64 0] 3) = W3 at hB hR hK ⊢
  have HS := Lib.hid (fun W (h : Kp W3 W) => (hB.keep h).cell 3)
  simp only [List.getElem?_cons_zero, List.getElem?_cons_succ] at HS
  go_cut [] (fun wx => Kp w wx ∧ ∃ z : ByteArray, z.size = ((0 : Int)).toNat ∧ Bk wx w.heap.size 29 [.int .i64 1, .int .u32 a', .int .u32 b, .string z] ∧ Bk wx (w.heap.size + 1) 29 [.int .i64 0, .int .u32 0, .int .u32 0, .string ⟨#[]⟩])
  case first =>
    have hfr := fun W (h : Kp W3 W) => (hB.keep h).free 3
    have HF := Lib.hid hfr
    clear hfr
    have hc0 := HS.out _ (Kp.refl _)
    have hf0 := HF.out _ (Kp.refl _)
    have hc1 := HS.out _ (Kp.refl W3).drew
    have hf1 := HF.out _ (Kp.refl W3).drew
    go_region_with ((go_at_call 25; refine (fill_any 0 _ (by omega) (by omega) _).mono ?_; rintro e w' ⟨rfl, hk9⟩; have hk8 := Kp.trans (Kp.refl W3).drew hk9; have hc2 := HS.out _ hk8; have hf2 := HF.out _ hk8; have hy := fillS_size 0 (-(x.size : Int)).toNat; generalize fillS 0 (-(x.size : Int)).toNat = y at hy ⊢; have hxy : x.size + y.size ≤ 9223372036854775807 := (by omega); have HY := Lib.hid hy; clear hy))
    all_goals go_wp2_with fail
    all_goals go_meet
    all_goals exact ⟨Kp.set (Kp.trans hK hk8) (Nat.le_refl _) _, _, by rw [ByteArray.size_append]; have := HY.out; omega, (hB.keep hk8).put 3 _, (hR.keep hk8).far (by simp) _⟩
  case rest =>
    clear hw1 HS hB hR hK hx1 hx2
    obtain ⟨hK, z, hz, b0, b1⟩ := hcut
    have hzs : z.size ≤ 9223372036854775807 := by omega
    obtain ⟨c0, c1, c2, c3⟩ := b0.c4
    obtain ⟨e0, e1, e2, e3⟩ := b1.c4
    have f0 := b1.free 0
    have f1 := b1.free 1
    have f2 := b1.free 2
    have f3 := b1.free 3
    clear hz
    go_wp2_with fail
    refine bodyPost_ret (v := frv 1 a' b z) (by simp [results, Try.results11, go_sem, *]) rfl ⟨_, _, _, _, hzs, rfl, store4 hK (by omega) _ _ _ _⟩

set_option maxRecDepth 20000 in
set_option maxHeartbeats 4000000 in
theorem shaped_2_2 (k a b : Int) (s : ByteArray) (h1 : -9223372036854775808 ≤ k) (h2 : k ≤ 9223372036854775807) (ha : 0 ≤ a ∧ a ≤ 4294967295) (hb : 0 ≤ b ∧ b ≤ 4294967295) (hs : s.size ≤ 140737488351232) (hk : k % 6 = 2) (w : World) :
    Calls Try.prog 11 #[frv k a b s, .int .i64 2] w (SomeFrame w) := by
  obtain ⟨hb0, hb1⟩ := hb
  go_enter Try.func11, Try.ntmps11
  go_wp2_with fail
  refine (pick6 k h1 h2 _ hk _).mono ?_
  rintro e w1 ⟨rfl, rfl⟩
  go_wp2_with fail
  refine (short_cut s _ (by omega) (by omega) (by omega) _).mono ?_
  rintro e w1 ⟨rfl, rfl⟩
  go_upto_region 7 with fail
  have hx := cutS_size s ((s.size : Int)) (by omega)
  generalize cutS s ((s.size : Int)) = x at hx ⊢
  have ha2 : 1 ≤ 1 + a % 1000 ∧ 1 + a % 1000 ≤ 1000 := by omega
  generalize 1 + a % 1000 = a' at ha2 ⊢
  obtain ⟨a0, a1⟩ := ha2
  obtain ⟨hB, hR⟩ := box_two w [.int .i64 2, .int .u32 a', .int .u32 b, .string x] [.int .i64 0, .int .u32 0, .int .u32 0, .string ⟨#[]⟩] [.int .i64 0, .int .i64 0, .int .i64 s.size, .int .i64 16, .int .i64 4, .int .i64 0] 29 29 3
  have hK : Kp w (((w.alloc (fob 2 a' b x)).alloc (fob 0 0 0 ⟨#[]⟩)).alloc (.cells #[.int .i64 0, .int .i64 0, .int .i64 s.size, .int .i64 16, .int .i64 4, .int .i64 0] 3)) := by (repeat (first | with_reducible exact Kp.refl _ | with_reducible assumption | with_reducible refine Kp.alloc ?_ _ | with_reducible refine Kp.drew ?_ | with_reducible refine Kp.drewN ?_ _ | exact Kp.refl _ | assumption | refine Kp.alloc ?_ _ | refine Kp.drew ?_ | refine Kp.drewN ?_ _ | refine Kp.trans ?_ (by assumption)))
  have hx1 := hx.1
  have hx2 := hx.2
  clear hx
  have hw1 : IntKind.i64.wrap (((s.size : Int)) - (x.size : Int)) = ((s.size : Int)) - (x.size : Int) := IntWalk.i64_in _ (by omega)
  generalize ((w.alloc (fob 2 a' b x)).alloc (fob 0 0 0 ⟨#[]⟩)).alloc (.cells #[.int .i64 0, .int .i64 0, .int .i64 s.size, .int .i64 16, .int .i64 4, .int .i64 0] 3) = W3 at hB hR hK ⊢
  have HS := Lib.hid (fun W (h : Kp W3 W) => (hB.keep h).cell 3)
  simp only [List.getElem?_cons_zero, List.getElem?_cons_succ] at HS
  go_cut [] (fun wx => Kp w wx ∧ ∃ z : ByteArray, z.size = ((s.size : Int)).toNat ∧ Bk wx w.heap.size 29 [.int .i64 2, .int .u32 a', .int .u32 b, .string z] ∧ Bk wx (w.heap.size + 1) 29 [.int .i64 0, .int .u32 0, .int .u32 0, .string ⟨#[]⟩])
  case first =>
    have hfr := fun W (h : Kp W3 W) => (hB.keep h).free 3
    have HF := Lib.hid hfr
    clear hfr
    have hc0 := HS.out _ (Kp.refl _)
    have hf0 := HF.out _ (Kp.refl _)
    have hc1 := HS.out _ (Kp.refl W3).drew
    have hf1 := HF.out _ (Kp.refl W3).drew
    go_region_with ((go_at_call 25; refine (fill_any 0 _ (by omega) (by omega) _).mono ?_; rintro e w' ⟨rfl, hk9⟩; have hk8 := Kp.trans (Kp.refl W3).drew hk9; have hc2 := HS.out _ hk8; have hf2 := HF.out _ hk8; have hy := fillS_size 0 (((s.size : Int)) - (x.size : Int)).toNat; generalize fillS 0 (((s.size : Int)) - (x.size : Int)).toNat = y at hy ⊢; have hxy : x.size + y.size ≤ 9223372036854775807 := (by omega); have HY := Lib.hid hy; clear hy))
    all_goals go_wp2_with fail
    all_goals go_meet
    all_goals exact ⟨Kp.set (Kp.trans hK hk8) (Nat.le_refl _) _, _, by rw [ByteArray.size_append]; have := HY.out; omega, (hB.keep hk8).put 3 _, (hR.keep hk8).far (by simp) _⟩
  case rest =>
    clear hw1 HS hB hR hK hx1 hx2
    obtain ⟨hK, z, hz, b0, b1⟩ := hcut
    have hzs : z.size ≤ 9223372036854775807 := by omega
    obtain ⟨c0, c1, c2, c3⟩ := b0.c4
    obtain ⟨e0, e1, e2, e3⟩ := b1.c4
    have f0 := b1.free 0
    have f1 := b1.free 1
    have f2 := b1.free 2
    have f3 := b1.free 3
    clear hz
    go_wp2_with fail
    refine bodyPost_ret (v := frv 2 a' b z) (by simp [results, Try.results11, go_sem, *]) rfl ⟨_, _, _, _, hzs, rfl, store4 hK (by omega) _ _ _ _⟩

set_option maxRecDepth 20000 in
set_option maxHeartbeats 4000000 in
theorem shaped_3_2 (k a b : Int) (s : ByteArray) (h1 : -9223372036854775808 ≤ k) (h2 : k ≤ 9223372036854775807) (ha : 0 ≤ a ∧ a ≤ 4294967295) (hb : 0 ≤ b ∧ b ≤ 4294967295) (hs : s.size ≤ 140737488351232) (hk : k % 6 = 3) (w : World) :
    Calls Try.prog 11 #[frv k a b s, .int .i64 2] w (SomeFrame w) := by
  obtain ⟨hb0, hb1⟩ := hb
  go_enter Try.func11, Try.ntmps11
  go_wp2_with fail
  refine (pick6 k h1 h2 _ hk _).mono ?_
  rintro e w1 ⟨rfl, rfl⟩
  go_wp2_with fail
  refine (short_cut s _ (by omega) (by omega) (by omega) _).mono ?_
  rintro e w1 ⟨rfl, rfl⟩
  go_upto_region 7 with fail
  have hx := cutS_size s ((16 : Int)) (by omega)
  generalize cutS s ((16 : Int)) = x at hx ⊢
  have ha2 : 1 ≤ 1 + a % 1000 ∧ 1 + a % 1000 ≤ 1000 := by omega
  generalize 1 + a % 1000 = a' at ha2 ⊢
  obtain ⟨a0, a1⟩ := ha2
  obtain ⟨hB, hR⟩ := box_two w [.int .i64 3, .int .u32 a', .int .u32 b, .string x] [.int .i64 0, .int .u32 0, .int .u32 0, .string ⟨#[]⟩] [.int .i64 0, .int .i64 0, .int .i64 s.size, .int .i64 16, .int .i64 4, .int .i64 0] 29 29 3
  have hK : Kp w (((w.alloc (fob 3 a' b x)).alloc (fob 0 0 0 ⟨#[]⟩)).alloc (.cells #[.int .i64 0, .int .i64 0, .int .i64 s.size, .int .i64 16, .int .i64 4, .int .i64 0] 3)) := by (repeat (first | with_reducible exact Kp.refl _ | with_reducible assumption | with_reducible refine Kp.alloc ?_ _ | with_reducible refine Kp.drew ?_ | with_reducible refine Kp.drewN ?_ _ | exact Kp.refl _ | assumption | refine Kp.alloc ?_ _ | refine Kp.drew ?_ | refine Kp.drewN ?_ _ | refine Kp.trans ?_ (by assumption)))
  have hx1 := hx.1
  have hx2 := hx.2
  clear hx
  have hw1 : IntKind.i64.wrap (((16 : Int)) - (x.size : Int)) = ((16 : Int)) - (x.size : Int) := IntWalk.i64_in _ (by omega)
  generalize ((w.alloc (fob 3 a' b x)).alloc (fob 0 0 0 ⟨#[]⟩)).alloc (.cells #[.int .i64 0, .int .i64 0, .int .i64 s.size, .int .i64 16, .int .i64 4, .int .i64 0] 3) = W3 at hB hR hK ⊢
  have HS := Lib.hid (fun W (h : Kp W3 W) => (hB.keep h).cell 3)
  simp only [List.getElem?_cons_zero, List.getElem?_cons_succ] at HS
  go_cut [] (fun wx => Kp w wx ∧ ∃ z : ByteArray, z.size = ((16 : Int)).toNat ∧ Bk wx w.heap.size 29 [.int .i64 3, .int .u32 a', .int .u32 b, .string z] ∧ Bk wx (w.heap.size + 1) 29 [.int .i64 0, .int .u32 0, .int .u32 0, .string ⟨#[]⟩])
  case first =>
    have hfr := fun W (h : Kp W3 W) => (hB.keep h).free 3
    have HF := Lib.hid hfr
    clear hfr
    have hc0 := HS.out _ (Kp.refl _)
    have hf0 := HF.out _ (Kp.refl _)
    have hc1 := HS.out _ (Kp.refl W3).drew
    have hf1 := HF.out _ (Kp.refl W3).drew
    go_region_with ((go_at_call 25; refine (fill_any 0 _ (by omega) (by omega) _).mono ?_; rintro e w' ⟨rfl, hk9⟩; have hk8 := Kp.trans (Kp.refl W3).drew hk9; have hc2 := HS.out _ hk8; have hf2 := HF.out _ hk8; have hy := fillS_size 0 (((16 : Int)) - (x.size : Int)).toNat; generalize fillS 0 (((16 : Int)) - (x.size : Int)).toNat = y at hy ⊢; have hxy : x.size + y.size ≤ 9223372036854775807 := (by omega); have HY := Lib.hid hy; clear hy))
    all_goals go_wp2_with fail
    all_goals go_meet
    all_goals exact ⟨Kp.set (Kp.trans hK hk8) (Nat.le_refl _) _, _, by rw [ByteArray.size_append]; have := HY.out; omega, (hB.keep hk8).put 3 _, (hR.keep hk8).far (by simp) _⟩
  case rest =>
    clear hw1 HS hB hR hK hx1 hx2
    obtain ⟨hK, z, hz, b0, b1⟩ := hcut
    have hzs : z.size ≤ 9223372036854775807 := by omega
    obtain ⟨c0, c1, c2, c3⟩ := b0.c4
    obtain ⟨e0, e1, e2, e3⟩ := b1.c4
    have f0 := b1.free 0
    have f1 := b1.free 1
    have f2 := b1.free 2
    have f3 := b1.free 3
    clear hz
    go_wp2_with fail
    refine bodyPost_ret (v := frv 3 a' b z) (by simp [results, Try.results11, go_sem, *]) rfl ⟨_, _, _, _, hzs, rfl, store4 hK (by omega) _ _ _ _⟩

set_option maxRecDepth 20000 in
set_option maxHeartbeats 4000000 in
theorem shaped_4_2 (k a b : Int) (s : ByteArray) (h1 : -9223372036854775808 ≤ k) (h2 : k ≤ 9223372036854775807) (ha : 0 ≤ a ∧ a ≤ 4294967295) (hb : 0 ≤ b ∧ b ≤ 4294967295) (hs : s.size ≤ 140737488351232) (hk : k % 6 = 4) (w : World) :
    Calls Try.prog 11 #[frv k a b s, .int .i64 2] w (SomeFrame w) := by
  obtain ⟨hb0, hb1⟩ := hb
  go_enter Try.func11, Try.ntmps11
  go_wp2_with fail
  refine (pick6 k h1 h2 _ hk _).mono ?_
  rintro e w1 ⟨rfl, rfl⟩
  go_wp2_with fail
  refine (short_cut s _ (by omega) (by omega) (by omega) _).mono ?_
  rintro e w1 ⟨rfl, rfl⟩
  go_upto_region 7 with fail
  have hx := cutS_size s ((4 : Int)) (by omega)
  generalize cutS s ((4 : Int)) = x at hx ⊢
  have ha2 : 1 ≤ 1 + a % 1000 ∧ 1 + a % 1000 ≤ 1000 := by omega
  generalize 1 + a % 1000 = a' at ha2 ⊢
  obtain ⟨a0, a1⟩ := ha2
  obtain ⟨hB, hR⟩ := box_two w [.int .i64 4, .int .u32 a', .int .u32 b, .string x] [.int .i64 0, .int .u32 0, .int .u32 0, .string ⟨#[]⟩] [.int .i64 0, .int .i64 0, .int .i64 s.size, .int .i64 16, .int .i64 4, .int .i64 0] 29 29 3
  have hK : Kp w (((w.alloc (fob 4 a' b x)).alloc (fob 0 0 0 ⟨#[]⟩)).alloc (.cells #[.int .i64 0, .int .i64 0, .int .i64 s.size, .int .i64 16, .int .i64 4, .int .i64 0] 3)) := by (repeat (first | with_reducible exact Kp.refl _ | with_reducible assumption | with_reducible refine Kp.alloc ?_ _ | with_reducible refine Kp.drew ?_ | with_reducible refine Kp.drewN ?_ _ | exact Kp.refl _ | assumption | refine Kp.alloc ?_ _ | refine Kp.drew ?_ | refine Kp.drewN ?_ _ | refine Kp.trans ?_ (by assumption)))
  have hx1 := hx.1
  have hx2 := hx.2
  clear hx
  have hw1 : IntKind.i64.wrap (((4 : Int)) - (x.size : Int)) = ((4 : Int)) - (x.size : Int) := IntWalk.i64_in _ (by omega)
  generalize ((w.alloc (fob 4 a' b x)).alloc (fob 0 0 0 ⟨#[]⟩)).alloc (.cells #[.int .i64 0, .int .i64 0, .int .i64 s.size, .int .i64 16, .int .i64 4, .int .i64 0] 3) = W3 at hB hR hK ⊢
  have HS := Lib.hid (fun W (h : Kp W3 W) => (hB.keep h).cell 3)
  simp only [List.getElem?_cons_zero, List.getElem?_cons_succ] at HS
  go_cut [] (fun wx => Kp w wx ∧ ∃ z : ByteArray, z.size = ((4 : Int)).toNat ∧ Bk wx w.heap.size 29 [.int .i64 4, .int .u32 a', .int .u32 b, .string z] ∧ Bk wx (w.heap.size + 1) 29 [.int .i64 0, .int .u32 0, .int .u32 0, .string ⟨#[]⟩])
  case first =>
    have hfr := fun W (h : Kp W3 W) => (hB.keep h).free 3
    have HF := Lib.hid hfr
    clear hfr
    have hc0 := HS.out _ (Kp.refl _)
    have hf0 := HF.out _ (Kp.refl _)
    have hc1 := HS.out _ (Kp.refl W3).drew
    have hf1 := HF.out _ (Kp.refl W3).drew
    go_region_with ((go_at_call 25; refine (fill_any 0 _ (by omega) (by omega) _).mono ?_; rintro e w' ⟨rfl, hk9⟩; have hk8 := Kp.trans (Kp.refl W3).drew hk9; have hc2 := HS.out _ hk8; have hf2 := HF.out _ hk8; have hy := fillS_size 0 (((4 : Int)) - (x.size : Int)).toNat; generalize fillS 0 (((4 : Int)) - (x.size : Int)).toNat = y at hy ⊢; have hxy : x.size + y.size ≤ 9223372036854775807 := (by omega); have HY := Lib.hid hy; clear hy))
    all_goals go_wp2_with fail
    all_goals go_meet
    all_goals exact ⟨Kp.set (Kp.trans hK hk8) (Nat.le_refl _) _, _, by rw [ByteArray.size_append]; have := HY.out; omega, (hB.keep hk8).put 3 _, (hR.keep hk8).far (by simp) _⟩
  case rest =>
    clear hw1 HS hB hR hK hx1 hx2
    obtain ⟨hK, z, hz, b0, b1⟩ := hcut
    have hzs : z.size ≤ 9223372036854775807 := by omega
    obtain ⟨c0, c1, c2, c3⟩ := b0.c4
    obtain ⟨e0, e1, e2, e3⟩ := b1.c4
    have f0 := b1.free 0
    have f1 := b1.free 1
    have f2 := b1.free 2
    have f3 := b1.free 3
    clear hz
    go_wp2_with fail
    refine bodyPost_ret (v := frv 4 a' b z) (by simp [results, Try.results11, go_sem, *]) rfl ⟨_, _, _, _, hzs, rfl, store4 hK (by omega) _ _ _ _⟩

set_option maxRecDepth 20000 in
set_option maxHeartbeats 4000000 in
theorem shaped_5_2 (k a b : Int) (s : ByteArray) (h1 : -9223372036854775808 ≤ k) (h2 : k ≤ 9223372036854775807) (ha : 0 ≤ a ∧ a ≤ 4294967295) (hb : 0 ≤ b ∧ b ≤ 4294967295) (hs : s.size ≤ 140737488351232) (hk : k % 6 = 5) (w : World) :
    Calls Try.prog 11 #[frv k a b s, .int .i64 2] w (SomeFrame w) := by
  obtain ⟨hb0, hb1⟩ := hb
  go_enter Try.func11, Try.ntmps11
  go_wp2_with fail
  refine (pick6 k h1 h2 _ hk _).mono ?_
  rintro e w1 ⟨rfl, rfl⟩
  go_wp2_with fail
  refine (short_cut s _ (by omega) (by omega) (by omega) _).mono ?_
  rintro e w1 ⟨rfl, rfl⟩
  go_upto_region 7 with fail
  have hx := cutS_size s ((0 : Int)) (by omega)
  generalize cutS s ((0 : Int)) = x at hx ⊢
  have ha2 : 1 ≤ 1 + a % 1000 ∧ 1 + a % 1000 ≤ 1000 := by omega
  generalize 1 + a % 1000 = a' at ha2 ⊢
  obtain ⟨a0, a1⟩ := ha2
  obtain ⟨hB, hR⟩ := box_two w [.int .i64 5, .int .u32 a', .int .u32 b, .string x] [.int .i64 0, .int .u32 0, .int .u32 0, .string ⟨#[]⟩] [.int .i64 0, .int .i64 0, .int .i64 s.size, .int .i64 16, .int .i64 4, .int .i64 0] 29 29 3
  have hK : Kp w (((w.alloc (fob 5 a' b x)).alloc (fob 0 0 0 ⟨#[]⟩)).alloc (.cells #[.int .i64 0, .int .i64 0, .int .i64 s.size, .int .i64 16, .int .i64 4, .int .i64 0] 3)) := by (repeat (first | with_reducible exact Kp.refl _ | with_reducible assumption | with_reducible refine Kp.alloc ?_ _ | with_reducible refine Kp.drew ?_ | with_reducible refine Kp.drewN ?_ _ | exact Kp.refl _ | assumption | refine Kp.alloc ?_ _ | refine Kp.drew ?_ | refine Kp.drewN ?_ _ | refine Kp.trans ?_ (by assumption)))
  have hx1 := hx.1
  have hx2 := hx.2
  clear hx
  have hw1 : IntKind.i64.wrap (-(x.size : Int)) = -(x.size : Int) := IntWalk.i64_in _ (by omega)
  generalize ((w.alloc (fob 5 a' b x)).alloc (fob 0 0 0 ⟨#[]⟩)).alloc (.cells #[.int .i64 0, .int .i64 0, .int .i64 s.size, .int .i64 16, .int .i64 4, .int .i64 0] 3) = W3 at hB hR hK ⊢
  have HS := Lib.hid (fun W (h : Kp W3 W) => (hB.keep h).cell 3)
  simp only [List.getElem?_cons_zero, List.getElem?_cons_succ] at HS
  go_cut [] (fun wx => Kp w wx ∧ ∃ z : ByteArray, z.size = ((0 : Int)).toNat ∧ Bk wx w.heap.size 29 [.int .i64 5, .int .u32 a', .int .u32 b, .string z] ∧ Bk wx (w.heap.size + 1) 29 [.int .i64 0, .int .u32 0, .int .u32 0, .string ⟨#[]⟩])
  case first =>
    have hfr := fun W (h : Kp W3 W) => (hB.keep h).free 3
    have HF := Lib.hid hfr
    clear hfr
    have hc0 := HS.out _ (Kp.refl _)
    have hf0 := HF.out _ (Kp.refl _)
    have hc1 := HS.out _ (Kp.refl W3).drew
    have hf1 := HF.out _ (Kp.refl W3).drew
    go_region_with ((go_at_call 25; refine (fill_any 0 _ (by omega) (by omega) _).mono ?_; rintro e w' ⟨rfl, hk9⟩; have hk8 := Kp.trans (Kp.refl W3).drew hk9; have hc2 := HS.out _ hk8; have hf2 := HF.out _ hk8; have hy := fillS_size 0 (-(x.size : Int)).toNat; generalize fillS 0 (-(x.size : Int)).toNat = y at hy ⊢; have hxy : x.size + y.size ≤ 9223372036854775807 := (by omega); have HY := Lib.hid hy; clear hy))
    all_goals go_wp2_with fail
    all_goals go_meet
    all_goals exact ⟨Kp.set (Kp.trans hK hk8) (Nat.le_refl _) _, _, by rw [ByteArray.size_append]; have := HY.out; omega, (hB.keep hk8).put 3 _, (hR.keep hk8).far (by simp) _⟩
  case rest =>
    clear hw1 HS hB hR hK hx1 hx2
    obtain ⟨hK, z, hz, b0, b1⟩ := hcut
    have hzs : z.size ≤ 9223372036854775807 := by omega
    obtain ⟨c0, c1, c2, c3⟩ := b0.c4
    obtain ⟨e0, e1, e2, e3⟩ := b1.c4
    have f0 := b1.free 0
    have f1 := b1.free 1
    have f2 := b1.free 2
    have f3 := b1.free 3
    clear hz
    go_wp2_with fail
    refine bodyPost_ret (v := frv 5 a' b z) (by simp [results, Try.results11, go_sem, *]) rfl ⟨_, _, _, _, hzs, rfl, store4 hK (by omega) _ _ _ _⟩
end Go.Proofs.Ytadggldngoknjaa
