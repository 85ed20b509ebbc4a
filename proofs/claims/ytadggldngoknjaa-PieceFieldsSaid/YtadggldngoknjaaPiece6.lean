/- The reference's PieceRight as a whole; 'alive'; 'one'. -/
import Derived.Test.YtadggldngoknjaaPiece5
namespace Go.Proofs.Ytadggldngoknjaa
open Go.RowKit
set_option linter.unusedVariables false

theorem ofP_in (k a b : Int) (s : ByteArray) (h1 : 1 ≤ a) (h2 : a ≤ 2147483647) : ofP k a b s =
    if k = 1 ∧ s.toList.isEmpty = true then some (.head a b)
    else if k = 2 ∧ s.toList.isEmpty = false then some (.part a b s)
    else if k = 3 ∧ s.size = 16 ∧ b ≠ 0 ∧ (get4 s 0 : Int) < a ∧ 1 ≤ get4 s 4 ∧ (get4 s 4 : Int) ≤ a ∧ get4 s 12 ≠ 0 then some (.slp a b (get4 s 0) (get4 s 4) (get4 s 8) (get4 s 12))
    else if k = 4 ∧ s.size = 4 ∧ (get4 s 0 : Int) ≤ a then some (.floor a b (get4 s 0))
    else none := by
  unfold ofP; rw [if_pos ⟨h1, h2⟩]
theorem seal_way (a b : Int) (s : ByteArray) (h1 : 1 ≤ a) (h2 : a ≤ 2147483647) : SealWay a b s (ofP 3 a b s).isSome := by
  rw [ofP_in _ _ _ _ h1 h2, if_neg (by omega), if_neg (by omega)]
  unfold SealWay
  by_cases e1 : b = 0
  · refine Or.inl ⟨by simp [e1], ?_⟩
    rw [if_neg (fun h => h.2.2.1 e1), if_neg (by omega)]; rfl
  have f1 : (b != 0) = true := by simpa using e1
  by_cases e2 : s.size = 16
  rotate_left
  · refine Or.inr (Or.inl ⟨f1, by simp; omega, ?_⟩)
    rw [if_neg (fun h => e2 h.2.1), if_neg (by omega)]; rfl
  have f2 : ((s.size : Int) == 16) = true := by simp [e2]
  by_cases e3 : (get4 s 0 : Int) < a
  rotate_left
  · refine Or.inr (Or.inr (Or.inl ⟨f1, f2, e2, by simpa using e3, ?_⟩))
    rw [if_neg (fun h => e3 h.2.2.2.1), if_neg (by omega)]; rfl
  by_cases e4 : 1 ≤ get4 s 4
  rotate_left
  · refine Or.inr (Or.inr (Or.inr (Or.inl ⟨f1, f2, e2, by simpa using e3, by simp; omega, ?_⟩)))
    rw [if_neg (fun h => e4 h.2.2.2.2.1), if_neg (by omega)]; rfl
  by_cases e5 : (get4 s 4 : Int) ≤ a
  rotate_left
  · refine Or.inr (Or.inr (Or.inr (Or.inr (Or.inl ⟨f1, f2, e2, by simpa using e3, by simp; omega, by simpa using e5, ?_⟩))))
    rw [if_neg (fun h => e5 h.2.2.2.2.2.1), if_neg (by omega)]; rfl
  refine Or.inr (Or.inr (Or.inr (Or.inr (Or.inr ⟨f1, f2, e2, by simpa using e3, by simp; omega, by simpa using e5, ?_⟩))))
  by_cases e6 : get4 s 12 = 0
  · rw [if_neg (fun h => h.2.2.2.2.2.2 e6), if_neg (by omega)]; simp [e6]
  · rw [if_pos ⟨rfl, e2, e1, e3, e4, e5, e6⟩]; simp; omega
theorem floor_way (a b : Int) (s : ByteArray) (h1 : 1 ≤ a) (h2 : a ≤ 2147483647) : FloorWay a s (ofP 4 a b s).isSome := by
  rw [ofP_in _ _ _ _ h1 h2, if_neg (by omega), if_neg (by omega), if_neg (by omega)]
  unfold FloorWay
  by_cases e2 : s.size = 4
  rotate_left
  · refine Or.inl ⟨by simp; omega, ?_⟩
    rw [if_neg (fun h => e2 h.2.1)]; rfl
  refine Or.inr ⟨by simp [e2], e2, ?_⟩
  by_cases e3 : (get4 s 0 : Int) ≤ a
  · rw [if_pos ⟨rfl, e2, e3⟩]; simp [e3]
  · rw [if_neg (fun h => e3 h.2.2)]; simp [e3]
theorem pr_any (k a b : Int) (s : ByteArray) (hs : s.size ≤ 9223372036854775807) (w : World) :
    Calls Try.prog 14 #[frv k a b s] w fun e w' => e = .returned (.bool (ofP k a b s).isSome) ∧ Kp w w' := by
  by_cases h : 1 ≤ a ∧ a ≤ 2147483647
  rotate_left
  · have e : ofP k a b s = none := by unfold ofP; rw [if_neg h]
    rw [e]; exact pr_bad k a b s (by omega) w
  obtain ⟨h1, h2⟩ := h
  by_cases k1 : k = 1
  · subst k1
    refine pr_easy 1 a b s h1 h2 _ (Or.inl ⟨rfl, ?_⟩) w
    rw [ofP_in _ _ _ _ h1 h2]
    rcases hb : s.toList.isEmpty with _ | _
    · rw [if_neg (by simp), if_neg (by omega), if_neg (by omega), if_neg (by omega)]; rfl
    · rw [if_pos ⟨rfl, rfl⟩]; rfl
  by_cases k2 : k = 2
  · subst k2
    refine pr_easy 2 a b s h1 h2 _ (Or.inr (Or.inl ⟨rfl, ?_⟩)) w
    rw [ofP_in _ _ _ _ h1 h2, if_neg (by omega)]
    rcases hb : s.toList.isEmpty with _ | _
    · rw [if_pos ⟨rfl, rfl⟩]; rfl
    · rw [if_neg (by simp), if_neg (by omega), if_neg (by omega)]; rfl
  by_cases k3 : k = 3
  · subst k3; exact pr_seal a b s h1 h2 hs _ (seal_way a b s h1 h2) w
  by_cases k4 : k = 4
  · subst k4; exact pr_floor a b s h1 h2 hs _ (floor_way a b s h1 h2) w
  refine pr_easy k a b s h1 h2 _ (Or.inr (Or.inr ⟨by simpa using k1, by simpa using k2, by simpa using k3, by simpa using k4, ?_⟩)) w
  rw [ofP_in _ _ _ _ h1 h2, if_neg (fun h => k1 h.1), if_neg (fun h => k2 h.1), if_neg (fun h => k3 h.1), if_neg (fun h => k4 h.1)]; rfl

theorem emp : (ByteArray.mk #[]).toList.isEmpty = true := by decide +kernel
theorem of_h12 (w : World) : Calls Try.prog 13 #[frv 1 1 2 ⟨#[]⟩] w fun e w' => e = .returned (.tuple #[pval (some (.head 1 2)), .int .i64 0]) ∧ Kp w w' :=
  of_head 1 2 ⟨#[]⟩ (by omega) (by omega) emp w
theorem frame_h12 (w : World) : Calls Try.prog 15 #[pval (some (.head 1 2))] w fun e w' => e = .returned (.tuple #[frv 1 1 2 ⟨#[]⟩, .int .i64 0]) ∧ Kp w w' := by
  have := frame_any (some (.head 1 2)) trivial w
  have e : frameV (fkOf (some (.head 1 2))) (faOf (some (.head 1 2))) (fbOf (some (.head 1 2))) (fsOf (some (.head 1 2))) = .tuple #[frv 1 1 2 ⟨#[]⟩, .int .i64 0] := by
    simp only [fkOf, faOf, fbOf, fsOf]
    have : ofP 1 1 2 ⟨#[]⟩ = some (.head 1 2) := by rw [ofP_in _ _ _ _ (by omega) (by omega), if_pos ⟨rfl, emp⟩]
    unfold frameV; rw [this]
  rwa [e] at this

set_option maxRecDepth 20000 in
set_option maxHeartbeats 1600000 in
theorem alive_any (w : World) : Calls Try.prog 9 #[] w fun e w' => e = .returned (.bool true) ∧ Kp w w' := by
  have h1 := of_h12
  have h2 := fun w => asseal_any (some (.head 1 2)) w
  have h3 := frame_h12
  simp only [pval, sealV] at h1 h2 h3
  have H1 := Lib.hid h1
  have H2 := Lib.hid h2
  have H3 := Lib.hid h3
  clear h1 h2 h3
  go_enter Try.func9, Try.ntmps9
  go_wp2_with fail
  refine (H1.out _).mono ?_
  rintro e w1 ⟨rfl, hk1⟩
  go_wp2_with fail
  refine (H2.out _).mono ?_
  rintro e w2 ⟨rfl, hk2⟩
  go_wp2_with fail
  refine (H3.out _).mono ?_
  rintro e w3 ⟨rfl, hk3⟩
  go_wp2_with fail
  go_ret
  exact ⟨rfl, by (repeat (first | with_reducible exact Kp.refl _ | with_reducible assumption | with_reducible refine Kp.alloc ?_ _ | with_reducible refine Kp.drew ?_ | with_reducible refine Kp.drewN ?_ _ | exact Kp.refl _ | assumption | refine Kp.alloc ?_ _ | refine Kp.drew ?_ | refine Kp.drewN ?_ _ | refine Kp.trans ?_ (by assumption)))⟩
end Go.Proofs.Ytadggldngoknjaa
