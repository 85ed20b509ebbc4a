/- The contracts of the reference's account: Left, Avail, Take. -/
import Derived.Test.YtbcoghfpomnkkaaRChart2
namespace Go.Proofs.Ytbcoghfpomnkkaa
open Go.RowKit
set_option linter.unusedVariables false

set_option maxHeartbeats 800000 in
theorem rleft_any (W0 : World) (g b u : Nat) (p s : Int) (l : List (Int × Int)) (o : Int) (h : RcAt W0 g b u p s l o) (ok : ChOk p s l o) :
    Calls Try.prog 45 #[.pointer (some ⟨g, 0, none⟩)] W0 fun e w' => e = .returned (.int .i64 (leftF s l o)) ∧ Kp W0 w' := by
  have hlen := ok.len
  rcases ok.op with rfl | ⟨k, hk, rfl, he⟩
  · obtain ⟨c0, c1, c2, c3, c4, c5⟩ := h.c6
    go_enter Try.func45, Try.ntmps45
    go_wp2_with fail
    go_ret
    exact ⟨rfl, Kp.refl _⟩
  · have hl : leftF s l (k : Int) = s - 1 - uso l k := by unfold leftF; rw [if_neg (by omega)]; simp
    rw [hl]
    have hR := ok.right
    have u0 := ok.us0 k
    have u1 := ok.us1 k
    obtain ⟨r1, r2, r3, r4, r5, r6⟩ := id ok.right
    have hk2 : (k : Int) < (l.length : Int) := by omega
    have hwr : IntKind.i64.wrap (s - 1 - uso l k) = s - 1 - uso l k := IntWalk.i64_in _ (by omega)
    have HC := Lib.hid (fun W (k9 : Kp W0 W) => (h.keep k9).c6)
    have HE := Lib.hid (fun W (k9 : Kp W0 W) => (h.keep k9).c2 k hk)
    obtain ⟨c0, c1, c2, c3, c4, c5⟩ := h.c6
    go_enter Try.func45, Try.ntmps45
    go_wp2_with fail
    have hInh := fun (x v : Value) => (⟨fun h => h _ ((Kp.refl W0).drew), fun h _ _ => h⟩ : (∀ W, (fun W => Kp W0 W) W → x = v) ↔ x = v)
    dsimp only at hInh
    refine wp_region_quietC (C := fun W => Kp W0 W) (by kernel_rfl) (by kernel_rfl) ((Kp.refl W0).drew) ?_
    repeat (first | go_big_quiet_step ((intro hW; first | (go_at_call 18; refine (rslotsK p s _ hR _).mono ?_; rintro e w' ⟨rfl, hk9⟩; exact ⟨rfl, hW.trans hk9⟩) | (with_reducible rfl) | (obtain ⟨c0, c1, c2, c3, c4, c5⟩ := HC.out _ hW; obtain ⟨e0, e1⟩ := HE.out _ hW; (try go_simp); first | done | with_reducible rfl | exact ⟨rfl, rfl⟩))) | quiet_step ((intro hW; first | (go_at_call 18; refine (rslotsK p s _ hR _).mono ?_; rintro e w' ⟨rfl, hk9⟩; exact ⟨rfl, hW.trans hk9⟩) | (with_reducible rfl) | (obtain ⟨c0, c1, c2, c3, c4, c5⟩ := HC.out _ hW; obtain ⟨e0, e1⟩ := HE.out _ hW; (try go_simp); first | done | with_reducible rfl | exact ⟨rfl, rfl⟩))))
    refine wpQuiet_nil ?_
    intro wq hwq
    clear hInh
    go_wp2_with fail
    go_ret
    exact ⟨rfl, hwq⟩
set_option maxHeartbeats 800000 in
theorem ravail_any (W0 : World) (g b u : Nat) (p s : Int) (l : List (Int × Int)) (o : Int) (h : RcAt W0 g b u p s l o) (ok : ChOk p s l o) :
    Calls Try.prog 46 #[.pointer (some ⟨g, 0, none⟩)] W0 fun e w' => e = .returned (.int .i64 (availF s l o)) ∧ Kp W0 w' := by
  have hlen := ok.len
  have hR := ok.right
  obtain ⟨r1, r2, r3, r4, r5, r6⟩ := id ok.right
  have hfr := frees_le l l.length
  have hlb := leftF_bd ok
  have HC := Lib.hid (fun W (k : Kp W0 W) => (h.keep k).c6)
  have HL := Lib.hid (fun W (k : Kp W0 W) => rleft_any W g b u p s l o (h.keep k) ok)
  have HF := Lib.hid (fun W (k : Kp W0 W) => rfree_any W g b u p s l o (h.keep k) (by omega))
  have hav : availF s l o = leftF s l o + (s - 1) * (if (frees l l.length : Int) - 2 < 0 then 0 else (frees l l.length : Int) - 2) := rfl
  have HAV := Lib.hid hav
  clear hav
  generalize leftF s l o = lf at *
  generalize hn : frees l l.length = n at *
  have hw1 : IntKind.i64.wrap ((n : Int) - 2) = (n : Int) - 2 := IntWalk.i64_in _ (by omega)
  by_cases hn2 : (n : Int) - 2 < 0
  · have ho : availF s l o = lf := by rw [HAV.out, if_pos hn2]; omega
    rw [ho]
    have hm : 0 * (s - 1) = 0 := Int.zero_mul _
    have hw3 : IntKind.i64.wrap lf = lf := IntWalk.i64_in _ (by omega)
    have hd : (n : Int) < 2 := by omega
    clear hn HAV ho
    go_enter Try.func46, Try.ntmps46
    go_wp2_with fail
    have hInh := fun (x v : Value) => (⟨fun h => h _ ((Kp.refl W0).drew), fun h _ _ => h⟩ : (∀ W, (fun W => Kp W0 W) W → x = v) ↔ x = v)
    dsimp only at hInh
    refine wp_region_quietC (C := fun W => Kp W0 W) (by kernel_rfl) (by kernel_rfl) ((Kp.refl W0).drew) ?_
    repeat (first | go_big_quiet_step ((intro hW; first | (first | (go_at_call 18; refine (rslotsK p s _ hR _).mono ?_; rintro e w' ⟨rfl, hk9⟩; exact ⟨rfl, hW.trans hk9⟩) | (go_at_call 45; refine (HL.out _ hW).mono ?_; rintro e w' ⟨rfl, hk9⟩; exact ⟨rfl, hW.trans hk9⟩) | (go_at_call 44; refine (HF.out _ hW).mono ?_; rintro e w' ⟨rfl, hk9⟩; exact ⟨rfl, hW.trans hk9⟩)) | (with_reducible rfl) | (obtain ⟨c0, c1, c2, c3, c4, c5⟩ := HC.out _ hW; (try go_simp); first | done | with_reducible rfl | exact ⟨rfl, rfl⟩))) | quiet_step ((intro hW; first | (first | (go_at_call 18; refine (rslotsK p s _ hR _).mono ?_; rintro e w' ⟨rfl, hk9⟩; exact ⟨rfl, hW.trans hk9⟩) | (go_at_call 45; refine (HL.out _ hW).mono ?_; rintro e w' ⟨rfl, hk9⟩; exact ⟨rfl, hW.trans hk9⟩) | (go_at_call 44; refine (HF.out _ hW).mono ?_; rintro e w' ⟨rfl, hk9⟩; exact ⟨rfl, hW.trans hk9⟩)) | (with_reducible rfl) | (obtain ⟨c0, c1, c2, c3, c4, c5⟩ := HC.out _ hW; (try go_simp); first | done | with_reducible rfl | exact ⟨rfl, rfl⟩))))
    refine wpQuiet_nil ?_
    intro wq hwq
    clear hInh
    go_wp2_with fail
    go_ret
    exact ⟨rfl, hwq⟩
  · have hb := mul2 (a := s - 1) (b := (n : Int) - 2) (by omega) (by omega) (by omega) (by omega)
    have ho : availF s l o = lf + ((n : Int) - 2) * (s - 1) := by rw [HAV.out, if_neg hn2, Int.mul_comm]
    rw [ho]
    rw [Int.mul_comm] at hb
    have hw3 : IntKind.i64.wrap (((n : Int) - 2) * (s - 1)) = ((n : Int) - 2) * (s - 1) := IntWalk.i64_in _ (by omega)
    have hw4 : IntKind.i64.wrap (lf + ((n : Int) - 2) * (s - 1)) = lf + ((n : Int) - 2) * (s - 1) := IntWalk.i64_in _ (by omega)
    have hd : ¬ ((n : Int) < 2) := by omega
    clear hn HAV ho
    go_enter Try.func46, Try.ntmps46
    go_wp2_with fail
    have hInh := fun (x v : Value) => (⟨fun h => h _ ((Kp.refl W0).drew), fun h _ _ => h⟩ : (∀ W, (fun W => Kp W0 W) W → x = v) ↔ x = v)
    dsimp only at hInh
    refine wp_region_quietC (C := fun W => Kp W0 W) (by kernel_rfl) (by kernel_rfl) ((Kp.refl W0).drew) ?_
    repeat (first | go_big_quiet_step ((intro hW; first | (first | (go_at_call 18; refine (rslotsK p s _ hR _).mono ?_; rintro e w' ⟨rfl, hk9⟩; exact ⟨rfl, hW.trans hk9⟩) | (go_at_call 45; refine (HL.out _ hW).mono ?_; rintro e w' ⟨rfl, hk9⟩; exact ⟨rfl, hW.trans hk9⟩) | (go_at_call 44; refine (HF.out _ hW).mono ?_; rintro e w' ⟨rfl, hk9⟩; exact ⟨rfl, hW.trans hk9⟩)) | (with_reducible rfl) | (obtain ⟨c0, c1, c2, c3, c4, c5⟩ := HC.out _ hW; (try go_simp); first | done | with_reducible rfl | exact ⟨rfl, rfl⟩))) | quiet_step ((intro hW; first | (first | (go_at_call 18; refine (rslotsK p s _ hR _).mono ?_; rintro e w' ⟨rfl, hk9⟩; exact ⟨rfl, hW.trans hk9⟩) | (go_at_call 45; refine (HL.out _ hW).mono ?_; rintro e w' ⟨rfl, hk9⟩; exact ⟨rfl, hW.trans hk9⟩) | (go_at_call 44; refine (HF.out _ hW).mono ?_; rintro e w' ⟨rfl, hk9⟩; exact ⟨rfl, hW.trans hk9⟩)) | (with_reducible rfl) | (obtain ⟨c0, c1, c2, c3, c4, c5⟩ := HC.out _ hW; (try go_simp); first | done | with_reducible rfl | exact ⟨rfl, rfl⟩))))
    refine wpQuiet_nil ?_
    intro wq hwq
    clear hInh
    go_wp2_with fail
    go_ret
    exact ⟨rfl, hwq⟩
set_option maxHeartbeats 800000 in
theorem rtake_no (W0 : World) (g b u : Nat) (p s : Int) (l : List (Int × Int)) (o : Int) (h : RcAt W0 g b u p s l o) (ok : ChOk p s l o) (hz : leftF s l o ≤ 0) :
    Calls Try.prog 42 #[.pointer (some ⟨g, 0, none⟩)] W0 fun e w' => e = .returned (.tuple #[.int .i64 0, .bool false]) ∧ Kp W0 w' := by
  have H1 := Lib.hid (rleft_any W0 g b u p s l o h ok)
  have hz2 : leftF s l o = 0 := by have := leftF_bd ok; omega
  rw [hz2] at H1
  clear hz hz2
  go_enter Try.func42, Try.ntmps42
  go_wp2_with fail
  refine (H1.out).mono ?_
  rintro e w1 ⟨rfl, hk1⟩
  go_wp2_with fail
  go_ret2
  exact ⟨rfl, hk1⟩
set_option maxHeartbeats 1600000 in
theorem rtake_yes (W0 : World) (g b u : Nat) (p s : Int) (l : List (Int × Int)) (k : Nat) (h : RcAt W0 g b u p s l k) (ok : ChOk p s l k) (hk : k < l.length) (hz : uso l k < s - 1) :
    Calls Try.prog 42 #[.pointer (some ⟨g, 0, none⟩)] W0 fun e w' => e = .returned (.tuple #[.int .i64 ((k : Int) * s + (uso l k + 1)), .bool true]) ∧ RcAt w' g b u p s (l.set k (epo l k, uso l k + 1)) k ∧ Mv [g, b, u] W0 w' := by
  have H1 := Lib.hid (rleft_any W0 g b u p s l k h ok)
  have hl : leftF s l (k : Int) = s - 1 - uso l k := by unfold leftF; rw [if_neg (by omega)]; simp
  rw [hl] at H1
  clear hl
  have hR := ok.right
  have hlen := ok.len
  have u0 := ok.us0 k
  obtain ⟨r1, r2, r3, r4, r5, r6⟩ := id ok.right
  have hk2 : (k : Int) < (l.length : Int) := by omega
  have hd : decide (s - 1 - uso l k = 0) = false := by simp; omega
  have hd2 : (s - 1 - uso l k == 0) = false := by simp; omega
  have hw1 : IntKind.i64.wrap (uso l k + 1) = uso l k + 1 := IntWalk.i64_in _ (by omega)
  have hm := mul2 (a := (k : Int)) (b := s) (by omega) (by omega) (by omega) (by omega)
  have hw2 : IntKind.i64.wrap ((k : Int) * s) = (k : Int) * s := IntWalk.i64_in _ (by omega)
  have hw3 : IntKind.i64.wrap ((k : Int) * s + (uso l k + 1)) = (k : Int) * s + (uso l k + 1) := IntWalk.i64_in _ (by omega)
  have n1 := h.ge
  have n2 := h.gu
  have n3 := h.eu
  have n4 := Ne.symm h.ge
  have n5 := Ne.symm h.gu
  have n6 := Ne.symm h.eu
  go_enter Try.func42, Try.ntmps42
  go_wp2_with fail
  refine (H1.out).mono ?_
  rintro e w1 ⟨rfl, hk1⟩
  have h1 := h.keep hk1
  have HC := Lib.hid (fun W (k9 : Kp w1 W) => (h1.keep k9).c6)
  have HE := Lib.hid (fun W (k9 : Kp w1 W) => (h1.keep k9).c2 k hk)
  go_wp2_with fail
  have hInh := fun (x v : Value) => (⟨fun h => h _ ((Kp.refl w1).drew), fun h _ _ => h⟩ : (∀ W, (fun W => Kp w1 W) W → x = v) ↔ x = v)
  dsimp only at hInh
  refine wp_region_head 12 (C := fun W => Kp w1 W) (by kernel_rfl) (by kernel_rfl) ((Kp.refl w1).drew) ?_
  simp only [List.take_succ_cons, List.take_zero, List.drop_succ_cons, List.drop_zero]
  repeat (first | go_big_quiet_step ((intro hW; first | fail | (with_reducible rfl) | (obtain ⟨c0, c1, c2, c3, c4, c5⟩ := HC.out _ hW; obtain ⟨e0, e1⟩ := HE.out _ hW; (try go_simp); first | done | with_reducible rfl | exact ⟨rfl, rfl⟩))) | quiet_step ((intro hW; first | fail | (with_reducible rfl) | (obtain ⟨c0, c1, c2, c3, c4, c5⟩ := HC.out _ hW; obtain ⟨e0, e1⟩ := HE.out _ hW; (try go_simp); first | done | with_reducible rfl | exact ⟨rfl, rfl⟩))))
  refine wpQuiet_nil ?_
  intro wq hwq
  clear hInh
  have h2 := h1.keep hwq
  obtain ⟨c0, c1, c2, c3, c4, c5⟩ := h2.c6
  obtain ⟨e0, e1⟩ := h2.c2 k hk
  obtain ⟨f0, f1⟩ := h2.fr k
  go_wp2_with fail
  have h3 := h2.put1 k hk (uso l k + 1)
  have hm3 : Mv [g, b, u] W0 (wq.setCell ⟨u, k, none⟩ (.int .i64 (uso l k + 1))) := (Mv.of (hk1.trans hwq)).set (by simp) _
  have hk3 : k < (l.set k (epo l k, uso l k + 1)).length := by simpa using hk
  have hl3 : (l.set k (epo l k, uso l k + 1)).length = l.length := List.length_set
  have hu3 : uso (l.set k (epo l k, uso l k + 1)) k = uso l k + 1 := by unfold uso; simp [hk]
  generalize wq.setCell ⟨u, k, none⟩ (.int .i64 (uso l k + 1)) = w3 at *
  have HC3 := Lib.hid (fun W (k : Kp w3 W) => (h3.keep k).c6)
  have HE3 := Lib.hid (fun W (k9 : Kp w3 W) => (h3.keep k9).c2 k hk3)
  rw [hl3] at HC3
  rw [hu3] at HE3
  clear e0 e1 f0 f1 hl3 hu3 c0 c1 c2 c3 c4 c5
  have hInh := fun (x v : Value) => (⟨fun h => h _ ((Kp.refl w3).drew), fun h _ _ => h⟩ : (∀ W, (fun W => Kp w3 W) W → x = v) ↔ x = v)
  dsimp only at hInh
  refine wp_region_quietC (C := fun W => Kp w3 W) (by kernel_rfl) (by kernel_rfl) ((Kp.refl w3).drew) ?_
  repeat (first | go_big_quiet_step ((intro hW; first | fail | (with_reducible rfl) | (obtain ⟨c0, c1, c2, c3, c4, c5⟩ := HC3.out _ hW; obtain ⟨e0, e1⟩ := HE3.out _ hW; (try go_simp); first | done | with_reducible rfl | exact ⟨rfl, rfl⟩))) | quiet_step ((intro hW; first | fail | (with_reducible rfl) | (obtain ⟨c0, c1, c2, c3, c4, c5⟩ := HC3.out _ hW; obtain ⟨e0, e1⟩ := HE3.out _ hW; (try go_simp); first | done | with_reducible rfl | exact ⟨rfl, rfl⟩))))
  refine wpQuiet_nil ?_
  intro wq hwq
  clear hInh
  go_wp2_with fail
  go_ret2
  exact ⟨rfl, h3.keep hwq, hm3.trans (Mv.of hwq)⟩
end Go.Proofs.Ytbcoghfpomnkkaa
