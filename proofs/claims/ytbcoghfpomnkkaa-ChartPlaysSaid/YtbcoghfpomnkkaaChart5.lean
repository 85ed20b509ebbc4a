/- The contracts of package chart: Take, Erase, Set, New and the small ones. -/
import Derived.Test.YtbcoghfpomnkkaaChart4
namespace Go.Proofs.Ytbcoghfpomnkkaa
open Go.RowKit
set_option linter.unusedVariables false

theorem pageK (p s r a b : Int) (h : RightG p s r) (ha : 0 ≤ a) (ha2 : a < r) (hb : 0 ≤ b) (hb2 : b < s) (w : World) :
    Calls Try.prog 37 #[geo p s r, .int .i64 a, .int .i64 b] w fun e w' => e = .returned (.tuple #[.int .i64 (a * s + b), .bool true]) ∧ Kp w w' := page_yes p s r a b h ha ha2 hb hb2 w
set_option maxHeartbeats 800000 in
theorem ctake_no (W0 : World) (g q : Nat) (p s : Int) (l : List (Int × Int)) (o : Int) (h : ChAt W0 g q p s l o) (ok : ChOk p s l o) (hz : leftF s l o ≤ 0) :
    Calls Try.prog 22 #[.pointer (some ⟨g, 0, none⟩)] W0 fun e w' => e = .returned (.tuple #[.int .i64 0, .bool false]) ∧ Kp W0 w' := by
  have H1 := Lib.hid (cleft_any W0 g q p s l o h ok)
  generalize leftF s l o = lf at *
  go_enter Try.func22, Try.ntmps22
  go_wp2_with fail
  refine (H1.out).mono ?_
  rintro e w1 ⟨rfl, hk1⟩
  go_wp2_with fail
  go_ret2
  exact ⟨rfl, hk1⟩
set_option maxHeartbeats 1600000 in
theorem ctake_yes (W0 : World) (g q : Nat) (p s : Int) (l : List (Int × Int)) (k : Nat) (h : ChAt W0 g q p s l k) (ok : ChOk p s l k) (hk : k < l.length) (hz : uso l k < s - 1) :
    Calls Try.prog 22 #[.pointer (some ⟨g, 0, none⟩)] W0 fun e w' => e = .returned (.tuple #[.int .i64 ((k : Int) * s + (uso l k + 1)), .bool true]) ∧ ChAt w' g q p s (l.set k (epo l k, uso l k + 1)) k ∧ Mv [g, q] W0 w' := by
  have H1 := Lib.hid (cleft_any W0 g q p s l k h ok)
  have hl : leftF s l (k : Int) = s - 1 - uso l k := by unfold leftF; rw [if_neg (by omega)]; simp
  rw [hl] at H1
  clear hl
  have hR := ok.right
  have hlen := ok.len
  have u0 := ok.us0 k
  obtain ⟨r1, r2, r3, r4, r5, r6⟩ := id ok.right
  have hk2 : (k : Int) < (l.length : Int) := by omega
  go_enter Try.func22, Try.ntmps22
  go_wp2_with fail
  refine (H1.out).mono ?_
  rintro e w1 ⟨rfl, hk1⟩
  have h1 := h.keep hk1
  have HC := Lib.hid (fun W (k : Kp w1 W) => (h1.keep k).c5)
  go_wp2_with fail
  have hInh := fun (x v : Value) => (⟨fun h => h _ ((Kp.refl w1).drew), fun h _ _ => h⟩ : (∀ W, (fun W => Kp w1 W) W → x = v) ↔ x = v)
  dsimp only at hInh
  refine wp_region_quietC (C := fun W => Kp w1 W) (by kernel_rfl) (by kernel_rfl) ((Kp.refl w1).drew) ?_
  repeat (first | go_big_quiet_step ((intro hW; first | fail | (with_reducible rfl) | (obtain ⟨c0, c1, c2, c3, c4⟩ := HC.out _ hW; (try go_simp); first | done | with_reducible rfl | exact ⟨rfl, rfl⟩))) | quiet_step ((intro hW; first | fail | (with_reducible rfl) | (obtain ⟨c0, c1, c2, c3, c4⟩ := HC.out _ hW; (try go_simp); first | done | with_reducible rfl | exact ⟨rfl, rfl⟩))))
  refine wpQuiet_nil ?_
  intro wq hwq
  clear hInh
  have h2 := h1.keep hwq
  obtain ⟨e0, e1⟩ := h2.eu k hk
  have f1 := (h2.fr k).2
  go_wp2_with fail
  have h3 := h2.put1 k hk (uso l k + 1)
  rw [ep_in l k hk] at h3
  have hm3 : Mv [g, q] W0 (wq.setCell ⟨q, k * 2 + 1, none⟩ (.int .i64 (uso l k + 1))) := (Mv.of (hk1.trans hwq)).set (by simp) _
  have hk3 : k < (l.set k (epo l k, uso l k + 1)).length := by simpa using hk
  have hl3 : (l.set k (epo l k, uso l k + 1)).length = l.length := List.length_set
  have hu3 : uso (l.set k (epo l k, uso l k + 1)) k = uso l k + 1 := by unfold uso; simp [hk]
  generalize wq.setCell ⟨q, k * 2 + 1, none⟩ (.int .i64 (uso l k + 1)) = w3 at *
  have HC3 := Lib.hid (fun W (k : Kp w3 W) => (h3.keep k).c5)
  have HE3 := Lib.hid (fun W (k9 : Kp w3 W) => (h3.keep k9).eu k hk3)
  rw [hl3] at HC3
  rw [hu3] at HE3
  clear e0 e1 f1 hl3 hu3
  have hInh := fun (x v : Value) => (⟨fun h => h _ ((Kp.refl w3).drew), fun h _ _ => h⟩ : (∀ W, (fun W => Kp w3 W) W → x = v) ↔ x = v)
  dsimp only at hInh
  refine wp_region_quietC (C := fun W => Kp w3 W) (by kernel_rfl) (by kernel_rfl) ((Kp.refl w3).drew) ?_
  repeat (first | go_big_quiet_step ((intro hW; first | (go_at_call 37; refine (pageK p s _ _ _ hR (by omega) (by omega) (by omega) (by omega) _).mono ?_; rintro e w' ⟨rfl, hk9⟩; exact ⟨rfl, hW.trans hk9⟩) | (with_reducible rfl) | (obtain ⟨c0, c1, c2, c3, c4⟩ := HC3.out _ hW; obtain ⟨e0, e1⟩ := HE3.out _ hW; (try go_simp); first | done | with_reducible rfl | exact ⟨rfl, rfl⟩))) | quiet_step ((intro hW; first | (go_at_call 37; refine (pageK p s _ _ _ hR (by omega) (by omega) (by omega) (by omega) _).mono ?_; rintro e w' ⟨rfl, hk9⟩; exact ⟨rfl, hW.trans hk9⟩) | (with_reducible rfl) | (obtain ⟨c0, c1, c2, c3, c4⟩ := HC3.out _ hW; obtain ⟨e0, e1⟩ := HE3.out _ hW; (try go_simp); first | done | with_reducible rfl | exact ⟨rfl, rfl⟩))))
  refine wpQuiet_nil ?_
  intro wq hwq
  clear hInh
  go_wp2_with fail
  go_ret2
  exact ⟨rfl, h3.keep hwq, hm3.trans (Mv.of hwq)⟩

set_option maxHeartbeats 800000 in
theorem cerase_arg (W0 : World) (g q : Nat) (p s : Int) (l : List (Int × Int)) (o : Int) (h : ChAt W0 g q p s l o) (i : Int) (hi : i < 0 ∨ (l.length : Int) ≤ i) :
    Calls Try.prog 15 #[.pointer (some ⟨g, 0, none⟩), .int .i64 i] W0 fun e w' => e = .returned (.int .i64 1) ∧ Kp W0 w' := by
  go_enter Try.func15, Try.ntmps15
  go_wp2_with fail
  refine (chas_no W0 g q p s l o h i hi).mono ?_
  rintro e w1 ⟨rfl, rfl⟩
  go_wp2_with fail
  go_ret
  exact ⟨rfl, Kp.refl _⟩
set_option maxHeartbeats 800000 in
theorem cerase_state (W0 : World) (g q : Nat) (p s : Int) (l : List (Int × Int)) (o : Int) (h : ChAt W0 g q p s l o) (hl : l.length ≤ 100) (k : Nat) (hk : k < l.length) (hz : epo l k = 0 ∨ (epo l k ≠ 0 ∧ o = k)) :
    Calls Try.prog 15 #[.pointer (some ⟨g, 0, none⟩), .int .i64 k] W0 fun e w' => e = .returned (.int .i64 7) ∧ Kp W0 w' := by
  obtain ⟨c0, c1, c2, c3, c4⟩ := h.c5
  obtain ⟨e0, e1⟩ := h.eu k hk
  have hk2 : (k : Int) < (l.length : Int) := by omega
  rcases hz with hz | ⟨hz, rfl⟩
  · rw [hz] at e0
    clear hz
    go_enter Try.func15, Try.ntmps15
    go_wp2_with fail
    refine (chas_yes W0 g q p s l o h _ (by omega) (by omega)).mono ?_
    rintro e w1 ⟨rfl, rfl⟩
    go_wp2_with fail
    go_ret
    exact ⟨rfl, Kp.refl _⟩
  · have hb : (epo l k == 0) = false := by simpa using hz
    clear hz
    go_enter Try.func15, Try.ntmps15
    go_wp2_with fail
    refine (chas_yes W0 g q p s l _ h _ (by omega) (by omega)).mono ?_
    rintro e w1 ⟨rfl, rfl⟩
    go_wp2_with fail
    go_ret
    exact ⟨rfl, Kp.refl _⟩
set_option maxHeartbeats 800000 in
theorem cerase_ok (W0 : World) (g q : Nat) (p s : Int) (l : List (Int × Int)) (o : Int) (h : ChAt W0 g q p s l o) (hl : l.length ≤ 100) (k : Nat) (hk : k < l.length) (hz : epo l k ≠ 0) (ho : o ≠ k) :
    Calls Try.prog 15 #[.pointer (some ⟨g, 0, none⟩), .int .i64 k] W0 fun e w' => e = .returned (.int .i64 0) ∧ ChAt w' g q p s (l.set k (0, 0)) o ∧ Mv [g, q] W0 w' := by
  obtain ⟨c0, c1, c2, c3, c4⟩ := h.c5
  obtain ⟨e0, e1⟩ := h.eu k hk
  obtain ⟨f0, f1⟩ := h.fr k
  have hk2 : (k : Int) < (l.length : Int) := by omega
  have hb : (epo l k == 0) = false := by simpa using hz
  have hb2 : (o == (k : Int)) = false := by simpa using ho
  clear hz ho
  go_enter Try.func15, Try.ntmps15
  go_wp2_with fail
  refine (chas_yes W0 g q p s l _ h _ (by omega) (by omega)).mono ?_
  rintro e w1 ⟨rfl, rfl⟩
  go_wp2_with fail
  go_ret
  exact ⟨rfl, h.put k 0 0, ((Mv.refl W0).set (by simp) _).set (by simp) _⟩

set_option maxHeartbeats 800000 in
theorem cset_arg (W0 : World) (g q : Nat) (p s : Int) (l : List (Int × Int)) (o : Int) (h : ChAt W0 g q p s l o) (hR : RightG p s (l.length : Nat)) (i e u : Int)
    (hi : (i < 0 ∨ (l.length : Int) ≤ i) ∨ (0 ≤ i ∧ i < (l.length : Int) ∧ e < 1) ∨ (0 ≤ i ∧ i < (l.length : Int) ∧ 1 ≤ e ∧ 2147483647 < e) ∨ (0 ≤ i ∧ i < (l.length : Int) ∧ 1 ≤ e ∧ e ≤ 2147483647 ∧ u < 0) ∨ (0 ≤ i ∧ i < (l.length : Int) ∧ 1 ≤ e ∧ e ≤ 2147483647 ∧ 0 ≤ u ∧ s - 1 < u)) :
    Calls Try.prog 17 #[.pointer (some ⟨g, 0, none⟩), .int .i64 i, .int .u32 e, .int .i64 u] W0 fun x w' => x = .returned (.int .i64 1) ∧ Kp W0 w' := by
  obtain ⟨c0, c1, c2, c3, c4⟩ := h.c5
  obtain ⟨r1, r2, r3, r4, r5, r6⟩ := id hR
  rcases hi with hi | ⟨i0, i1, h1⟩ | ⟨i0, i1, h1, h2⟩ | ⟨i0, i1, h1, h2, h3⟩ | ⟨i0, i1, h1, h2, h3, h4⟩
  · go_enter Try.func17, Try.ntmps17
    go_wp2_with fail
    refine (chas_no W0 g q p s l o h i hi).mono ?_
    rintro e w1 ⟨rfl, rfl⟩
    go_wp2_with fail
    go_ret
    exact ⟨rfl, Kp.refl _⟩
  · go_enter Try.func17, Try.ntmps17
    go_wp2_with fail
    refine (chas_yes W0 g q p s l o h i i0 i1).mono ?_
    rintro e w1 ⟨rfl, rfl⟩
    go_wp2_with fail
    go_ret
    exact ⟨rfl, Kp.refl _⟩
  · go_enter Try.func17, Try.ntmps17
    go_wp2_with fail
    refine (chas_yes W0 g q p s l o h i i0 i1).mono ?_
    rintro e w1 ⟨rfl, rfl⟩
    go_wp2_with fail
    go_ret
    exact ⟨rfl, Kp.refl _⟩
  · go_enter Try.func17, Try.ntmps17
    go_wp2_with fail
    refine (chas_yes W0 g q p s l o h i i0 i1).mono ?_
    rintro e w1 ⟨rfl, rfl⟩
    go_wp2_with fail
    go_ret
    exact ⟨rfl, Kp.refl _⟩
  · have hd : decide (s - 1 < u) = true := by simpa using h4
    go_enter Try.func17, Try.ntmps17
    go_wp2_with fail
    refine (chas_yes W0 g q p s l o h i i0 i1).mono ?_
    rintro e w1 ⟨rfl, rfl⟩
    go_wp2_with fail
    refine (slotsK p s _ hR _).mono ?_
    rintro e w1 ⟨rfl, hk1⟩
    go_wp2_with fail
    go_ret
    exact ⟨rfl, hk1⟩
set_option maxHeartbeats 800000 in
theorem cset_state (W0 : World) (g q : Nat) (p s : Int) (l : List (Int × Int)) (o : Int) (h : ChAt W0 g q p s l o) (hR : RightG p s (l.length : Nat)) (k : Nat) (hk : k < l.length) (e u : Int)
    (h1 : 1 ≤ e) (h2 : e ≤ 2147483647) (h3 : 0 ≤ u) (h4 : u ≤ s - 1) (hz : 0 < epo l k) :
    Calls Try.prog 17 #[.pointer (some ⟨g, 0, none⟩), .int .i64 k, .int .u32 e, .int .i64 u] W0 fun x w' => x = .returned (.int .i64 7) ∧ Kp W0 w' := by
  obtain ⟨c0, c1, c2, c3, c4⟩ := h.c5
  obtain ⟨r1, r2, r3, r4, r5, r6⟩ := id hR
  have hd : decide (s - 1 < u) = false := by simpa using h4
  have hk2 : (k : Int) < (l.length : Int) := by omega
  go_enter Try.func17, Try.ntmps17
  go_wp2_with fail
  refine (chas_yes W0 g q p s l o h _ (by omega) (by omega)).mono ?_
  rintro e w1 ⟨rfl, rfl⟩
  go_wp2_with fail
  refine (slotsK p s _ hR _).mono ?_
  rintro e w1 ⟨rfl, hk1⟩
  clear c0 c1 c2 c3 c4
  obtain ⟨c0, c1, c2, c3, c4⟩ := (h.keep hk1).c5
  obtain ⟨e0, e1⟩ := (h.keep hk1).eu k hk
  go_wp2_with fail
  go_ret
  exact ⟨rfl, hk1⟩
set_option maxHeartbeats 800000 in
theorem cset_ok (W0 : World) (g q : Nat) (p s : Int) (l : List (Int × Int)) (o : Int) (h : ChAt W0 g q p s l o) (hR : RightG p s (l.length : Nat)) (k : Nat) (hk : k < l.length) (e u : Int)
    (h1 : 1 ≤ e) (h2 : e ≤ 2147483647) (h3 : 0 ≤ u) (h4 : u ≤ s - 1) (hz : epo l k = 0) :
    Calls Try.prog 17 #[.pointer (some ⟨g, 0, none⟩), .int .i64 k, .int .u32 e, .int .i64 u] W0 fun x w' => x = .returned (.int .i64 0) ∧ ChAt w' g q p s (l.set k (e, u)) o ∧ Mv [g, q] W0 w' := by
  obtain ⟨c0, c1, c2, c3, c4⟩ := h.c5
  obtain ⟨r1, r2, r3, r4, r5, r6⟩ := id hR
  have hd : decide (s - 1 < u) = false := by simpa using h4
  have hk2 : (k : Int) < (l.length : Int) := by omega
  go_enter Try.func17, Try.ntmps17
  go_wp2_with fail
  refine (chas_yes W0 g q p s l o h _ (by omega) (by omega)).mono ?_
  rintro e' w1 ⟨rfl, rfl⟩
  go_wp2_with fail
  refine (slotsK p s _ hR _).mono ?_
  rintro e' w1 ⟨rfl, hk1⟩
  clear c0 c1 c2 c3 c4
  obtain ⟨c0, c1, c2, c3, c4⟩ := (h.keep hk1).c5
  obtain ⟨e0, e1⟩ := (h.keep hk1).eu k hk
  obtain ⟨f0, f1⟩ := (h.keep hk1).fr k
  rw [hz] at e0
  clear hz
  go_wp2_with fail
  go_ret
  exact ⟨rfl, (h.keep hk1).put k e u, ((Mv.of hk1).set (by simp) _).set (by simp) _⟩
end Go.Proofs.Ytbcoghfpomnkkaa
