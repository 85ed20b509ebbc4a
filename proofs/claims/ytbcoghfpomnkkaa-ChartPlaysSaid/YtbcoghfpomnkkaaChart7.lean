/- The contracts of package chart, of none; 'alive'. -/
import Derived.Test.YtbcoghfpomnkkaaChart6
namespace Go.Proofs.Ytbcoghfpomnkkaa
open Go.RowKit
set_option linter.unusedVariables false

theorem nhas (i : Int) (w : World) : Calls Try.prog 34 #[.pointer none, .int .i64 i] w fun e w' => e = .returned (.bool false) ∧ w = w' := by
  go_enter Try.func34, Try.ntmps34
  go_wp2
  go_ret
  exact ⟨rfl, rfl⟩
theorem nopened (w : World) : Calls Try.prog 36 #[.pointer none] w fun e w' => e = .returned (.bool false) ∧ Kp w w' := by
  go_enter Try.func36, Try.ntmps36
  go_wp2_with fail
  go_quiet (fail)
  go_wp2_with fail
  go_ret
  exact ⟨rfl, by (repeat (first | with_reducible exact Kp.refl _ | with_reducible assumption | with_reducible refine Kp.alloc ?_ _ | with_reducible refine Kp.drew ?_ | with_reducible refine Kp.drewN ?_ _ | exact Kp.refl _ | assumption | refine Kp.alloc ?_ _ | refine Kp.drew ?_ | refine Kp.drewN ?_ _ | refine Kp.trans ?_ (by assumption)))⟩
theorem nopen (w : World) : Calls Try.prog 14 #[.pointer none] w fun e w' => e = .returned (.tuple #[.int .i64 0, .int .u32 0, .bool false]) ∧ Kp w w' := by
  go_enter Try.func14, Try.ntmps14
  go_wp2
  go_ret3
  exact ⟨rfl, Kp.refl _⟩
theorem nfree (w : World) : Calls Try.prog 16 #[.pointer none] w fun e w' => e = .returned (.int .i64 0) ∧ Kp w w' := by
  go_enter Try.func16, Try.ntmps16
  go_wp2
  go_ret
  exact ⟨rfl, Kp.refl _⟩
theorem nleft (w : World) : Calls Try.prog 20 #[.pointer none] w fun e w' => e = .returned (.int .i64 0) ∧ Kp w w' := by
  go_enter Try.func20, Try.ntmps20
  go_wp2_with fail
  refine (nopened _).mono ?_
  rintro e w1 ⟨rfl, hk⟩
  go_wp2_with fail
  go_ret
  exact ⟨rfl, hk⟩
theorem navail (w : World) : Calls Try.prog 21 #[.pointer none] w fun e w' => e = .returned (.int .i64 0) ∧ Kp w w' := by
  go_enter Try.func21, Try.ntmps21
  go_wp2
  go_ret
  exact ⟨rfl, Kp.refl _⟩
theorem ntake (w : World) : Calls Try.prog 22 #[.pointer none] w fun e w' => e = .returned (.tuple #[.int .i64 0, .bool false]) ∧ Kp w w' := by
  go_enter Try.func22, Try.ntmps22
  go_wp2_with fail
  refine (nleft _).mono ?_
  rintro e w1 ⟨rfl, hk⟩
  go_wp2_with fail
  go_ret2
  exact ⟨rfl, hk⟩
theorem noldest (w : World) : Calls Try.prog 23 #[.pointer none] w fun e w' => e = .returned (.tuple #[.int .i64 0, .bool false]) ∧ Kp w w' := by
  go_enter Try.func23, Try.ntmps23
  go_wp2
  go_ret2
  exact ⟨rfl, Kp.refl _⟩
theorem nepoch (i : Int) (w : World) : Calls Try.prog 30 #[.pointer none, .int .i64 i] w fun e w' => e = .returned (.int .u32 0) ∧ Kp w w' := by
  go_enter Try.func30, Try.ntmps30
  go_wp2_with fail
  refine (nhas _ _).mono ?_
  rintro e w1 ⟨rfl, rfl⟩
  go_wp2_with fail
  go_ret
  exact ⟨rfl, Kp.refl _⟩
theorem nused (i : Int) (w : World) : Calls Try.prog 31 #[.pointer none, .int .i64 i] w fun e w' => e = .returned (.int .i64 0) ∧ Kp w w' := by
  go_enter Try.func31, Try.ntmps31
  go_wp2_with fail
  refine (nhas _ _).mono ?_
  rintro e w1 ⟨rfl, rfl⟩
  go_wp2_with fail
  go_ret
  exact ⟨rfl, Kp.refl _⟩
theorem nset (i e u : Int) (w : World) : Calls Try.prog 17 #[.pointer none, .int .i64 i, .int .u32 e, .int .i64 u] w fun e w' => e = .returned (.int .i64 1) ∧ Kp w w' := by
  go_enter Try.func17, Try.ntmps17
  go_wp2_with fail
  refine (nhas _ _).mono ?_
  rintro e w1 ⟨rfl, rfl⟩
  go_wp2_with fail
  go_ret
  exact ⟨rfl, Kp.refl _⟩
theorem nresume (i : Int) (w : World) : Calls Try.prog 19 #[.pointer none, .int .i64 i] w fun e w' => e = .returned (.int .i64 1) ∧ Kp w w' := by
  go_enter Try.func19, Try.ntmps19
  go_wp2_with fail
  refine (nhas _ _).mono ?_
  rintro e w1 ⟨rfl, rfl⟩
  go_wp2_with fail
  go_ret
  exact ⟨rfl, Kp.refl _⟩
theorem nerase (i : Int) (w : World) : Calls Try.prog 15 #[.pointer none, .int .i64 i] w fun e w' => e = .returned (.int .i64 1) ∧ Kp w w' := by
  go_enter Try.func15, Try.ntmps15
  go_wp2_with fail
  refine (nhas _ _).mono ?_
  rintro e w1 ⟨rfl, rfl⟩
  go_wp2_with fail
  go_ret
  exact ⟨rfl, Kp.refl _⟩
theorem ngeom (w : World) : Calls Try.prog 26 #[.pointer none] w fun e w' => e = .returned (geo 0 0 0) ∧ Kp w w' := by
  go_enter Try.func26, Try.ntmps26
  go_wp2
  refine bodyPost_ret (v := geo 0 0 0) (by simp [results, Try.results26, go_sem]) rfl ⟨rfl, ?_⟩
  (repeat (first | with_reducible exact Kp.refl _ | with_reducible assumption | with_reducible refine Kp.alloc ?_ _ | with_reducible refine Kp.drew ?_ | with_reducible refine Kp.drewN ?_ _ | exact Kp.refl _ | assumption | refine Kp.alloc ?_ _ | refine Kp.drew ?_ | refine Kp.drewN ?_ _ | refine Kp.trans ?_ (by assumption)))

theorem ok4 (l : List (Int × Int)) (o : Int) (h4 : l.length = 4) (hb : l.all (fun x => decide (0 ≤ x.1 ∧ x.1 ≤ 2147483647 ∧ 0 ≤ x.2 ∧ x.2 ≤ 2)) = true) (ho : o = -1 ∨ ∃ k : Nat, k < l.length ∧ o = k ∧ 0 < epo l k) : ChOk 32 3 l o := by
  have hk : ∀ k, 0 ≤ epo l k ∧ epo l k ≤ 2147483647 ∧ 0 ≤ uso l k ∧ uso l k ≤ 2 := by
    intro k
    by_cases h : k < l.length
    · have := List.all_eq_true.1 hb l[k] (List.getElem_mem h)
      rw [← ep_in l k h, ← us_in l k h]
      simpa using this
    · unfold epo uso
      simp [List.getD_eq_getElem?_getD, List.getElem?_eq_none (by omega : l.length ≤ k)]
  refine ⟨?_, fun k => (hk k).1, fun k => (hk k).2.1, fun k => (hk k).2.2.1, fun k => by have := (hk k).2.2.2; omega, ho⟩
  rw [h4]; unfold RightG; omega

theorem rep0 (n k : Nat) : epo (List.replicate n (0, 0)) k = 0 ∧ uso (List.replicate n (0, 0)) k = 0 := by
  unfold epo uso
  simp only [List.getD_eq_getElem?_getD, List.getElem?_replicate]
  by_cases h : k < n
  · rw [if_pos h]; exact ⟨rfl, rfl⟩
  · rw [if_neg h]; exact ⟨rfl, rfl⟩
abbrev lv (a b : Int) : List (Int × Int) := [(a, b), (0, 0), (0, 0), (0, 0)]
theorem aok (u : Int) (h0 : 0 ≤ u) (h2 : u ≤ 2) : ChOk 32 3 (lv 1 u) ((0 : Nat) : Int) := by
  have : u = 0 ∨ u = 1 ∨ u = 2 := by omega
  rcases this with rfl | rfl | rfl <;> exact ok4 _ _ rfl (by decide) (Or.inr ⟨0, by decide, rfl, by decide⟩)
theorem a_open (w : World) (g q : Nat) (h : ChAt w g q 32 3 (lv 0 0) (-1)) :
    Calls Try.prog 14 #[.pointer (some ⟨g, 0, none⟩)] w fun e w' => e = .returned (.tuple #[.int .i64 0, .int .u32 1, .bool true]) ∧ ChAt w' g q 32 3 (lv 1 0) ((0 : Nat) : Int) ∧ Mv [g, q] w w' := by
  have H := copen_yes w g q 32 3 (lv 0 0) (-1) h (by decide) (by decide) (fun k => by have := rep0 4 k; exact Int.le_of_eq this.1.symm) (by decide) (by decide) 1 (by omega) (by decide) (fun i h1 h2 => by omega) (by decide)
  have e1 : (lv 0 0).set (nth (lv 0 0) 1) ((nwst (lv 0 0) (lv 0 0).length).2 + 1, 0) = lv 1 0 := by decide
  have e2 : nth (lv 0 0) 1 = 0 := by decide
  have e3 : (nwst (lv 0 0) (lv 0 0).length).2 + 1 = 1 := by decide
  rwa [e1, e2, e3] at H
theorem a_take0 (w : World) (g q : Nat) (h : ChAt w g q 32 3 (lv 1 0) ((0 : Nat) : Int)) :
    Calls Try.prog 22 #[.pointer (some ⟨g, 0, none⟩)] w fun e w' => e = .returned (.tuple #[.int .i64 1, .bool true]) ∧ ChAt w' g q 32 3 (lv 1 1) ((0 : Nat) : Int) ∧ Mv [g, q] w w' :=
  ctake_yes w g q 32 3 (lv 1 0) 0 h (aok 0 (by omega) (by omega)) (by decide) (by decide)
theorem a_take1 (w : World) (g q : Nat) (h : ChAt w g q 32 3 (lv 1 1) ((0 : Nat) : Int)) :
    Calls Try.prog 22 #[.pointer (some ⟨g, 0, none⟩)] w fun e w' => e = .returned (.tuple #[.int .i64 2, .bool true]) ∧ ChAt w' g q 32 3 (lv 1 2) ((0 : Nat) : Int) ∧ Mv [g, q] w w' :=
  ctake_yes w g q 32 3 (lv 1 1) 0 h (aok 1 (by omega) (by omega)) (by decide) (by decide)
theorem a_take2 (w : World) (g q : Nat) (h : ChAt w g q 32 3 (lv 1 2) ((0 : Nat) : Int)) :
    Calls Try.prog 22 #[.pointer (some ⟨g, 0, none⟩)] w fun e w' => e = .returned (.tuple #[.int .i64 0, .bool false]) ∧ Kp w w' :=
  ctake_no w g q 32 3 (lv 1 2) _ h (aok 2 (by omega) (by omega)) (by decide)
theorem a_left (w : World) (g q : Nat) (h : ChAt w g q 32 3 (lv 1 2) ((0 : Nat) : Int)) :
    Calls Try.prog 20 #[.pointer (some ⟨g, 0, none⟩)] w fun e w' => e = .returned (.int .i64 0) ∧ Kp w w' :=
  cleft_any w g q 32 3 (lv 1 2) _ h (aok 2 (by omega) (by omega))
theorem a_avail (w : World) (g q : Nat) (h : ChAt w g q 32 3 (lv 1 2) ((0 : Nat) : Int)) :
    Calls Try.prog 21 #[.pointer (some ⟨g, 0, none⟩)] w fun e w' => e = .returned (.int .i64 2) ∧ Kp w w' :=
  cavail_any w g q 32 3 (lv 1 2) _ h (aok 2 (by omega) (by omega))
set_option maxRecDepth 20000 in
set_option maxHeartbeats 1600000 in
theorem alive_any (w : World) : Calls Try.prog 12 #[] w fun e w' => e = .returned (.bool true) ∧ Kp w w' := by
  have H0 := Lib.hid (cnew_yes 32 3 4 (by unfold RightG; omega))
  go_enter Try.func12, Try.ntmps12
  go_wp2_with fail
  refine (H0.out _).mono ?_
  rintro e w1 ⟨g, q, rfl, hg, hq, h0, hk1⟩
  clear H0
  have hS := Lib.hid (fun b (hb : b ∈ [g, q]) => (by simp at hb; rcases hb with rfl | rfl <;> assumption : w.heap.size ≤ b))
  go_wp2_with fail
  refine (a_open w1 g q h0).mono ?_
  rintro e w2 ⟨rfl, h1, m1⟩
  have k2 := Mv.kp hk1 hS.out m1
  clear h0 m1 hk1
  go_wp2_with fail
  refine (a_take0 w2 g q h1).mono ?_
  rintro e w3 ⟨rfl, h2, m2⟩
  have k3 := Mv.kp k2 hS.out m2
  clear h1 m2 k2
  go_wp2_with fail
  refine (a_take1 w3 g q h2).mono ?_
  rintro e w4 ⟨rfl, h3, m3⟩
  have k4 := Mv.kp k3 hS.out m3
  clear h2 m3 k3
  go_wp2_with fail
  refine (a_take2 w4 g q h3).mono ?_
  rintro e w5 ⟨rfl, m4⟩
  go_wp2_with fail
  refine (a_left w5 g q (h3.keep m4)).mono ?_
  rintro e w6 ⟨rfl, m5⟩
  go_wp2_with fail
  refine (a_avail w6 g q ((h3.keep m4).keep m5)).mono ?_
  rintro e w7 ⟨rfl, m6⟩
  go_wp2_with fail
  go_ret
  exact ⟨rfl, ((k4.trans m4).trans m5).trans m6⟩

set_option maxRecDepth 20000 in
set_option maxHeartbeats 1600000 in
theorem ChartNone_walk (w : World) : Calls Try.prog 9 #[] w fun e w' => e = .returned (.bool true) ∧ Kp w w' := by
  go_enter Try.func9, Try.ntmps9
  go_wp2_with fail
  refine (nopen _).mono ?_
  rintro e w1 ⟨rfl, k1⟩
  go_wp2_with fail
  refine (ntake _).mono ?_
  rintro e w2 ⟨rfl, k2⟩
  go_wp2_with fail
  refine (noldest _).mono ?_
  rintro e w3 ⟨rfl, k3⟩
  go_wp2_with fail
  refine (alive_any _).mono ?_
  rintro e w4 ⟨rfl, k4⟩
  go_wp2_with fail
  refine (nset _ _ _ _).mono ?_
  rintro e w5 ⟨rfl, k5⟩
  go_wp2_with fail
  refine (nresume _ _).mono ?_
  rintro e w6 ⟨rfl, k6⟩
  go_wp2_with fail
  refine (nerase _ _).mono ?_
  rintro e w7 ⟨rfl, k7⟩
  go_wp2_with fail
  refine (nfree _).mono ?_
  rintro e w8 ⟨rfl, k8⟩
  go_wp2_with fail
  refine (nleft _).mono ?_
  rintro e w9 ⟨rfl, k9⟩
  go_wp2_with fail
  refine (navail _).mono ?_
  rintro e w10 ⟨rfl, k10⟩
  go_wp2_with fail
  refine (nepoch _ _).mono ?_
  rintro e w11 ⟨rfl, k11⟩
  go_wp2_with fail
  refine (nused _ _).mono ?_
  rintro e w12 ⟨rfl, k12⟩
  go_wp2_with fail
  refine (ngeom _).mono ?_
  rintro e w13 ⟨rfl, k13⟩
  go_wp2_with fail
  go_ret
  exact ⟨rfl, (((((((((((k1.trans k2).trans k3).trans k4).trans k5).trans k6).trans k7).trans k8).trans k9).trans k10).trans k11).trans k12).trans k13⟩
end Go.Proofs.Ytbcoghfpomnkkaa
