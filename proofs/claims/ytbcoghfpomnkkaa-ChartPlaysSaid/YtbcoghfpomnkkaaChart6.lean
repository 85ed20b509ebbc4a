/- The contracts of package chart: New, Open, Oldest, Resume, the small ones; of none. -/
import Derived.Test.YtbcoghfpomnkkaaChart5
namespace Go.Proofs.Ytbcoghfpomnkkaa
open Go.RowKit
set_option linter.unusedVariables false

/-- A new account. -/
def NewPost (w : World) (p s : Int) (n : Nat) (e : Ending) (w' : World) : Prop :=
  ∃ g q : Nat, e = .returned (.pointer (some ⟨g, 0, none⟩)) ∧ w.heap.size ≤ g ∧ w.heap.size ≤ q ∧ ChAt w' g q p s (List.replicate n (0, 0)) (-1) ∧ Kp w w'
theorem Bk.atc (W : World) (t : TypeId) (cs : List Value) (g : Nat) (h : W.heap.size = g) : Bk (W.alloc (.cells cs.toArray t)) g t cs := by subst h; exact Bk.new W t cs
theorem new_at (p s : Int) (n : Nat) (W : World) (q g : Nat) (hq : q = W.heap.size) (hg : g = W.heap.size + 1) :
    ChAt ((W.alloc (.cells (flat (List.replicate n (0, 0))).toArray 62)).alloc (.cells #[.int .i64 p, .int .i64 s, .int .i64 n, .slice (some ⟨q, 0, none⟩) n n, .int .i64 (-1)] 58)) g q p s (List.replicate n (0, 0)) (-1) := by
  subst hq
  subst hg
  refine ⟨?_, (Bk.new W 62 (flat (List.replicate n (0, 0)))).alloc _, by omega⟩
  rw [List.length_replicate]
  exact Bk.atc _ _ [_, _, _, _, _] _ (World.size_alloc _ _)
set_option maxHeartbeats 800000 in
theorem cnew_yes (p s : Int) (n : Nat) (hR : RightG p s n) (w : World) :
    Calls Try.prog 11 #[geo p s n] w (NewPost w p s n) := by
  obtain ⟨r1, r2, r3, r4, r5, r6⟩ := id hR
  have hmk := make_states n (by omega)
  go_enter Try.func11, Try.ntmps11
  go_wp2_with fail
  refine (right_yes p s n hR _).mono ?_
  rintro e w1 ⟨rfl, rfl⟩
  go_wp2_with fail
  go_region
  all_goals go_wp2_with fail
  all_goals go_ret
  all_goals exact ⟨w.heap.size + 1 + 1 + 1, w.heap.size + 1 + 1, rfl, by omega, by omega, (new_at p s n _ _ _ (by simp [go_sem]) (by simp [go_sem])).keep (Kp.refl _).drew, by (repeat (first | with_reducible exact Kp.refl _ | with_reducible assumption | with_reducible refine Kp.alloc ?_ _ | with_reducible refine Kp.drew ?_ | with_reducible refine Kp.drewN ?_ _ | exact Kp.refl _ | assumption | refine Kp.alloc ?_ _ | refine Kp.drew ?_ | refine Kp.drewN ?_ _ | refine Kp.trans ?_ (by assumption)))⟩
set_option maxHeartbeats 800000 in
theorem cnew_no (p s r : Int) (hR : ¬ RightG p s r) (w : World) :
    Calls Try.prog 11 #[geo p s r] w fun e w' => e = .returned (.pointer none) ∧ Kp w w' := by
  go_enter Try.func11, Try.ntmps11
  go_wp2_with fail
  refine (right_no p s r hR _).mono ?_
  rintro e w1 ⟨rfl, rfl⟩
  go_wp2_with fail
  go_ret
  exact ⟨rfl, by (repeat (first | with_reducible exact Kp.refl _ | with_reducible assumption | with_reducible refine Kp.alloc ?_ _ | with_reducible refine Kp.drew ?_ | with_reducible refine Kp.drewN ?_ _ | exact Kp.refl _ | assumption | refine Kp.alloc ?_ _ | refine Kp.drew ?_ | refine Kp.drewN ?_ _ | refine Kp.trans ?_ (by assumption)))⟩

set_option maxHeartbeats 800000 in
theorem copen_no (W0 : World) (g q : Nat) (p s : Int) (l : List (Int × Int)) (o : Int) (h : ChAt W0 g q p s l o) (hl : l.length ≤ 100) (hr : ∀ k, 0 ≤ epo l k) (hz : frees l l.length = 0 ∨ (0 < frees l l.length ∧ 2147483647 ≤ (nwst l l.length).2)) :
    Calls Try.prog 14 #[.pointer (some ⟨g, 0, none⟩)] W0 fun e w' => e = .returned (.tuple #[.int .i64 0, .int .u32 0, .bool false]) ∧ Kp W0 w' := by
  have HN := Lib.hid (cnewest_any W0 g q p s l o h hl hr)
  have HF := Lib.hid (fun W (k : Kp W0 W) => cfree_any W g q p s l o (h.keep k) hl hr)
  generalize nwst l l.length = z at *
  generalize frees l l.length = f at *
  rcases hz with rfl | ⟨h0, h1⟩
  · go_enter Try.func14, Try.ntmps14
    go_wp2_with fail
    refine (HN.out).mono ?_
    rintro e w1 ⟨rfl, hk1⟩
    go_wp2_with fail
    refine (HF.out _ hk1).mono ?_
    rintro e w2 ⟨rfl, hk2⟩
    go_wp2_with fail
    go_ret3
    exact ⟨rfl, hk1.trans hk2⟩
  · have hb : ((f : Int) == 0) = false := by simp; omega
    go_enter Try.func14, Try.ntmps14
    go_wp2_with fail
    refine (HN.out).mono ?_
    rintro e w1 ⟨rfl, hk1⟩
    go_wp2_with fail
    refine (HF.out _ hk1).mono ?_
    rintro e w2 ⟨rfl, hk2⟩
    go_wp2_with fail
    go_ret3
    exact ⟨rfl, hk1.trans hk2⟩

/-- The j-th region behind the newest one. -/
def nth (l : List (Int × Int)) (j : Nat) : Nat := (((nwst l l.length).1 + (j : Int)) % (l.length : Int)).toNat
theorem nwst_at (l : List (Int × Int)) : ∀ k : Nat, -1 ≤ (nwst l k).1 ∧ (nwst l k).1 < (k : Int)
  | 0 => by simp [nwst]
  | k + 1 => by have := nwst_at l k; unfold nwst; split <;> simp <;> omega
set_option maxHeartbeats 1600000 in
theorem copen_yes (W0 : World) (g q : Nat) (p s : Int) (l : List (Int × Int)) (o : Int) (h : ChAt W0 g q p s l o) (hl0 : 0 < l.length) (hl : l.length ≤ 100) (hr : ∀ k, 0 ≤ epo l k) (hf : 0 < frees l l.length) (ht : (nwst l l.length).2 < 2147483647)
    (j : Nat) (hj : 1 ≤ j) (hj2 : j ≤ l.length) (hn : ∀ i, 1 ≤ i → i < j → epo l (nth l i) ≠ 0) (hz : epo l (nth l j) = 0) :
    Calls Try.prog 14 #[.pointer (some ⟨g, 0, none⟩)] W0 fun e w' => e = .returned (.tuple #[.int .i64 (nth l j : Nat), .int .u32 ((nwst l l.length).2 + 1), .bool true]) ∧ ChAt w' g q p s (l.set (nth l j) ((nwst l l.length).2 + 1, 0)) (nth l j : Nat) ∧ Mv [g, q] W0 w' := by
  have HN := Lib.hid (cnewest_any W0 g q p s l o h hl hr)
  have HF := Lib.hid (fun W (k : Kp W0 W) => cfree_any W g q p s l o (h.keep k) hl hr)
  have hat := nwst_at l l.length
  have htp := nwst_top l l.length
  have hnth : ∀ i : Nat, 1 ≤ i → ((nwst l l.length).1 + (i : Int)) % (l.length : Int) = (nth l i : Nat) ∧ nth l i < l.length := by
    intro i hi
    have h1 := Int.emod_nonneg ((nwst l l.length).1 + (i : Int)) (show (l.length : Int) ≠ 0 by omega)
    have h2 := Int.emod_lt_of_pos ((nwst l l.length).1 + (i : Int)) (show 0 < (l.length : Int) by omega)
    unfold nth
    omega
  generalize nwst l l.length = z at *
  generalize frees l l.length = f at *
  have hb : ((f : Int) == 0) = false := by simp; omega
  have hd0 : ((l.length : Int) == 0) = false := beq_eq_false_iff_ne.2 (by omega)
  have HT := Lib.hid hnth
  clear hnth
  have HNN := Lib.hid hn
  have HZ := Lib.hid hz
  clear hn hz
  go_enter Try.func14, Try.ntmps14
  go_wp2_with fail
  refine (HN.out).mono ?_
  rintro e w1 ⟨rfl, hk1⟩
  go_wp2_with fail
  refine (HF.out _ hk1).mono ?_
  rintro e w2 ⟨rfl, hk2⟩
  have h2 := h.keep (hk1.trans hk2)
  have hK2 := hk1.trans hk2
  obtain ⟨c0, c1, c2, c3, c4⟩ := h2.c5
  go_wp2_with fail
  go_loop [8] (fun i => ∃ k : Nat, 1 ≤ k ∧ k ≤ j ∧ i = .int .i64 k) (fun i => j - (intOf i).toNat)
  case atStart => exact ⟨1, by omega, by omega, rfl⟩
  case round =>
    obtain ⟨k, hk1', hk2', rfl⟩ := hrel
    obtain ⟨hm, hml⟩ := HT.out k hk1'
    obtain ⟨e0, e1⟩ := h2.eu (nth l k) hml
    obtain ⟨f0, f1⟩ := h2.fr (nth l k)
    have hml2 : ((nth l k : Nat) : Int) < (l.length : Int) := by omega
    have h0 : 0 ≤ z.1 + (k : Int) := by omega
    have hf4 := h2.box.free 4
    by_cases hkj : k < j
    · have hne := HNN.out k hk1' hkj
      have hb3 : (epo l (nth l k) == 0) = false := by simpa using hne
      clear hne
      generalize nth l k = m at *
      go_wp2_with fail
      go_round
      case rel => exact ⟨k + 1, by omega, by omega, by go_num⟩
      case measure => simp [intOf]; omega
    · obtain rfl : k = j := by omega
      rw [HZ.out] at e0
      have hgq : ¬ (q = g) := Ne.symm h2.ne
      have hgq2 : ¬ (g = q) := h2.ne
      generalize hmm : nth l k = m at *
      have HM := Lib.hid hmm
      clear hmm
      go_wp2_with fail
      go_ret3
      rw [HM.out]
      exact ⟨rfl, (h2.put m (z.2 + 1) 0).opn (m : Nat), (((Mv.of hK2).set (by simp) _).set (by simp) _).set (by simp) _⟩
end Go.Proofs.Ytbcoghfpomnkkaa
