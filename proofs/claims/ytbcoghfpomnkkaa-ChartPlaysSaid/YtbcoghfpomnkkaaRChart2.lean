/- The contracts of the reference's account: is, Left, Avail, Take, Erase, Set. -/
import Derived.Test.YtbcoghfpomnkkaaRChart
namespace Go.Proofs.Ytbcoghfpomnkkaa
open Go.RowKit
set_option linter.unusedVariables false

theorem rslotsK (p s r : Int) (h : RightG p s r) (w : World) :
    Calls Try.prog 18 #[geo p s r] w fun e w' => e = .returned (.int .i64 (s - 1)) ∧ Kp w w' :=
  (rslots_any p s r h w).mono fun _ _ ⟨he, hw⟩ => ⟨he, hw ▸ Kp.one _ _⟩
set_option maxHeartbeats 400000 in
theorem ris_yes (W : World) (g b u : Nat) (p s : Int) (l : List (Int × Int)) (o : Int) (h : RcAt W g b u p s l o) (i : Int) (h0 : 0 ≤ i) (hi : i < (l.length : Int)) :
    Calls Try.prog 47 #[.pointer (some ⟨g, 0, none⟩), .int .i64 i] W fun e w' => e = .returned (.bool true) ∧ W = w' := by
  obtain ⟨c0, c1, c2, c3, c4, c5⟩ := h.c6
  have d1 : decide (i < (l.length : Int)) = true := by simpa using hi
  go_enter Try.func47, Try.ntmps47
  go_wp2
  go_ret
  exact ⟨rfl, rfl⟩
set_option maxHeartbeats 400000 in
theorem ris_no (W : World) (g b u : Nat) (p s : Int) (l : List (Int × Int)) (o : Int) (h : RcAt W g b u p s l o) (i : Int) (hi : i < 0 ∨ (l.length : Int) ≤ i) :
    Calls Try.prog 47 #[.pointer (some ⟨g, 0, none⟩), .int .i64 i] W fun e w' => e = .returned (.bool false) ∧ W = w' := by
  obtain ⟨c0, c1, c2, c3, c4, c5⟩ := h.c6
  have hi' : i < 0 ∨ (0 ≤ i ∧ (l.length : Int) ≤ i) := by omega
  rcases hi' with h1 | ⟨h1, h2⟩
  · go_enter Try.func47, Try.ntmps47
    go_wp2
    go_ret
    exact ⟨rfl, rfl⟩
  · have d1 : decide (i < (l.length : Int)) = false := by simp; omega
    go_enter Try.func47, Try.ntmps47
    go_wp2
    go_ret
    exact ⟨rfl, rfl⟩
set_option maxHeartbeats 800000 in
theorem rerase_arg (W0 : World) (g b u : Nat) (p s : Int) (l : List (Int × Int)) (o : Int) (h : RcAt W0 g b u p s l o) (i : Int) (hi : i < 0 ∨ (l.length : Int) ≤ i) :
    Calls Try.prog 41 #[.pointer (some ⟨g, 0, none⟩), .int .i64 i] W0 fun e w' => e = .returned (.int .i64 1) ∧ Kp W0 w' := by
  go_enter Try.func41, Try.ntmps41
  go_wp2_with fail
  refine (ris_no W0 g b u p s l o h i hi).mono ?_
  rintro e w1 ⟨rfl, rfl⟩
  go_wp2_with fail
  go_ret
  exact ⟨rfl, Kp.refl _⟩
set_option maxHeartbeats 800000 in
theorem rerase_state (W0 : World) (g b u : Nat) (p s : Int) (l : List (Int × Int)) (o : Int) (h : RcAt W0 g b u p s l o) (hl : l.length ≤ 100) (k : Nat) (hk : k < l.length) (hz : epo l k = 0 ∨ (epo l k ≠ 0 ∧ o = k)) :
    Calls Try.prog 41 #[.pointer (some ⟨g, 0, none⟩), .int .i64 k] W0 fun e w' => e = .returned (.int .i64 7) ∧ Kp W0 w' := by
  obtain ⟨c0, c1, c2, c3, c4, c5⟩ := h.c6
  obtain ⟨e0, e1⟩ := h.c2 k hk
  have hk2 : (k : Int) < (l.length : Int) := by omega
  rcases hz with hz | ⟨hz, rfl⟩
  · rw [hz] at e0
    clear hz
    go_enter Try.func41, Try.ntmps41
    go_wp2_with fail
    refine (ris_yes W0 g b u p s l o h _ (by omega) (by omega)).mono ?_
    rintro e w1 ⟨rfl, rfl⟩
    go_wp2_with fail
    go_ret
    exact ⟨rfl, Kp.refl _⟩
  · have hb : (epo l k == 0) = false := by simpa using hz
    clear hz
    go_enter Try.func41, Try.ntmps41
    go_wp2_with fail
    refine (ris_yes W0 g b u p s l _ h _ (by omega) (by omega)).mono ?_
    rintro e w1 ⟨rfl, rfl⟩
    go_wp2_with fail
    go_ret
    exact ⟨rfl, Kp.refl _⟩
set_option maxHeartbeats 800000 in
theorem rerase_ok (W0 : World) (g b u : Nat) (p s : Int) (l : List (Int × Int)) (o : Int) (h : RcAt W0 g b u p s l o) (hl : l.length ≤ 100) (k : Nat) (hk : k < l.length) (hz : epo l k ≠ 0) (ho : o ≠ k) :
    Calls Try.prog 41 #[.pointer (some ⟨g, 0, none⟩), .int .i64 k] W0 fun e w' => e = .returned (.int .i64 0) ∧ RcAt w' g b u p s (l.set k (0, 0)) o ∧ Mv [g, b, u] W0 w' := by
  obtain ⟨c0, c1, c2, c3, c4, c5⟩ := h.c6
  obtain ⟨e0, e1⟩ := h.c2 k hk
  obtain ⟨f0, f1⟩ := h.fr k
  have hk2 : (k : Int) < (l.length : Int) := by omega
  have hb : (epo l k == 0) = false := by simpa using hz
  have hb2 : (o == (k : Int)) = false := by simpa using ho
  clear hz ho
  have n1 := h.ge
  have n2 := h.gu
  have n3 := h.eu
  have n4 := Ne.symm h.ge
  have n5 := Ne.symm h.gu
  have n6 := Ne.symm h.eu
  go_enter Try.func41, Try.ntmps41
  go_wp2_with fail
  refine (ris_yes W0 g b u p s l _ h _ (by omega) (by omega)).mono ?_
  rintro e w1 ⟨rfl, rfl⟩
  go_wp2_with fail
  go_ret
  exact ⟨rfl, h.put k 0 0, ((Mv.refl W0).set (by simp) _).set (by simp) _⟩

set_option maxHeartbeats 800000 in
theorem rset_arg (W0 : World) (g b u : Nat) (p s : Int) (l : List (Int × Int)) (o : Int) (h : RcAt W0 g b u p s l o) (hR : RightG p s (l.length : Nat)) (i e v : Int)
    (hi : (i < 0 ∨ (l.length : Int) ≤ i) ∨ (0 ≤ i ∧ i < (l.length : Int) ∧ e < 1) ∨ (0 ≤ i ∧ i < (l.length : Int) ∧ 1 ≤ e ∧ 2147483647 < e) ∨ (0 ≤ i ∧ i < (l.length : Int) ∧ 1 ≤ e ∧ e ≤ 2147483647 ∧ v < 0) ∨ (0 ≤ i ∧ i < (l.length : Int) ∧ 1 ≤ e ∧ e ≤ 2147483647 ∧ 0 ≤ v ∧ s - 1 < v)) :
    Calls Try.prog 38 #[.pointer (some ⟨g, 0, none⟩), .int .i64 i, .int .u32 e, .int .i64 v] W0 fun x w' => x = .returned (.int .i64 1) ∧ Kp W0 w' := by
  obtain ⟨c0, c1, c2, c3, c4, c5⟩ := h.c6
  obtain ⟨r1, r2, r3, r4, r5, r6⟩ := id hR
  rcases hi with hi | ⟨i0, i1, h1⟩ | ⟨i0, i1, h1, h2⟩ | ⟨i0, i1, h1, h2, h3⟩ | ⟨i0, i1, h1, h2, h3, h4⟩
  · go_enter Try.func38, Try.ntmps38
    go_wp2_with fail
    refine (ris_no W0 g b u p s l o h i hi).mono ?_
    rintro e w1 ⟨rfl, rfl⟩
    go_wp2_with fail
    go_ret
    exact ⟨rfl, Kp.refl _⟩
  · go_enter Try.func38, Try.ntmps38
    go_wp2_with fail
    refine (ris_yes W0 g b u p s l o h i i0 i1).mono ?_
    rintro e w1 ⟨rfl, rfl⟩
    go_wp2_with fail
    go_ret
    exact ⟨rfl, Kp.refl _⟩
  · go_enter Try.func38, Try.ntmps38
    go_wp2_with fail
    refine (ris_yes W0 g b u p s l o h i i0 i1).mono ?_
    rintro e w1 ⟨rfl, rfl⟩
    go_wp2_with fail
    go_ret
    exact ⟨rfl, Kp.refl _⟩
  · go_enter Try.func38, Try.ntmps38
    go_wp2_with fail
    refine (ris_yes W0 g b u p s l o h i i0 i1).mono ?_
    rintro e w1 ⟨rfl, rfl⟩
    go_wp2_with fail
    go_ret
    exact ⟨rfl, Kp.refl _⟩
  · have hd : decide (s - 1 < v) = true := by simpa using h4
    go_enter Try.func38, Try.ntmps38
    go_wp2_with fail
    refine (ris_yes W0 g b u p s l o h i i0 i1).mono ?_
    rintro e w1 ⟨rfl, rfl⟩
    go_wp2_with fail
    refine (rslotsK p s _ hR _).mono ?_
    rintro e w1 ⟨rfl, hk1⟩
    go_wp2_with fail
    go_ret
    exact ⟨rfl, hk1⟩
set_option maxHeartbeats 800000 in
theorem rset_state (W0 : World) (g b u : Nat) (p s : Int) (l : List (Int × Int)) (o : Int) (h : RcAt W0 g b u p s l o) (hR : RightG p s (l.length : Nat)) (k : Nat) (hk : k < l.length) (e v : Int)
    (h1 : 1 ≤ e) (h2 : e ≤ 2147483647) (h3 : 0 ≤ v) (h4 : v ≤ s - 1) (hz : 0 < epo l k) :
    Calls Try.prog 38 #[.pointer (some ⟨g, 0, none⟩), .int .i64 k, .int .u32 e, .int .i64 v] W0 fun x w' => x = .returned (.int .i64 7) ∧ Kp W0 w' := by
  obtain ⟨c0, c1, c2, c3, c4, c5⟩ := h.c6
  obtain ⟨r1, r2, r3, r4, r5, r6⟩ := id hR
  have hd : decide (s - 1 < v) = false := by simpa using h4
  have hk2 : (k : Int) < (l.length : Int) := by omega
  go_enter Try.func38, Try.ntmps38
  go_wp2_with fail
  refine (ris_yes W0 g b u p s l o h _ (by omega) (by omega)).mono ?_
  rintro e w1 ⟨rfl, rfl⟩
  go_wp2_with fail
  refine (rslotsK p s _ hR _).mono ?_
  rintro e w1 ⟨rfl, hk1⟩
  clear c0 c1 c2 c3 c4 c5
  obtain ⟨c0, c1, c2, c3, c4, c5⟩ := (h.keep hk1).c6
  obtain ⟨e0, e1⟩ := (h.keep hk1).c2 k hk
  go_wp2_with fail
  go_ret
  exact ⟨rfl, hk1⟩
set_option maxHeartbeats 800000 in
theorem rset_ok (W0 : World) (g b u : Nat) (p s : Int) (l : List (Int × Int)) (o : Int) (h : RcAt W0 g b u p s l o) (hR : RightG p s (l.length : Nat)) (k : Nat) (hk : k < l.length) (e v : Int)
    (h1 : 1 ≤ e) (h2 : e ≤ 2147483647) (h3 : 0 ≤ v) (h4 : v ≤ s - 1) (hz : epo l k = 0) :
    Calls Try.prog 38 #[.pointer (some ⟨g, 0, none⟩), .int .i64 k, .int .u32 e, .int .i64 v] W0 fun x w' => x = .returned (.int .i64 0) ∧ RcAt w' g b u p s (l.set k (e, v)) o ∧ Mv [g, b, u] W0 w' := by
  obtain ⟨c0, c1, c2, c3, c4, c5⟩ := h.c6
  obtain ⟨r1, r2, r3, r4, r5, r6⟩ := id hR
  have hd : decide (s - 1 < v) = false := by simpa using h4
  have hk2 : (k : Int) < (l.length : Int) := by omega
  have n1 := h.ge
  have n2 := h.gu
  have n3 := h.eu
  have n4 := Ne.symm h.ge
  have n5 := Ne.symm h.gu
  have n6 := Ne.symm h.eu
  go_enter Try.func38, Try.ntmps38
  go_wp2_with fail
  refine (ris_yes W0 g b u p s l o h _ (by omega) (by omega)).mono ?_
  rintro e' w1 ⟨rfl, rfl⟩
  go_wp2_with fail
  refine (rslotsK p s _ hR _).mono ?_
  rintro e' w1 ⟨rfl, hk1⟩
  clear c0 c1 c2 c3 c4 c5
  obtain ⟨c0, c1, c2, c3, c4, c5⟩ := (h.keep hk1).c6
  obtain ⟨e0, e1⟩ := (h.keep hk1).c2 k hk
  obtain ⟨f0, f1⟩ := (h.keep hk1).fr k
  rw [hz] at e0
  clear hz
  go_wp2_with fail
  go_ret
  exact ⟨rfl, (h.keep hk1).put k e v, ((Mv.of hk1).set (by simp) _).set (by simp) _⟩
end Go.Proofs.Ytbcoghfpomnkkaa
