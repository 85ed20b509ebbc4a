/- The contracts of Blank, Bytes, and of the reference's. -/
import Derived.Test.YtdolclmeflaipaaFrame2
namespace Go.Proofs.Ytdolclmeflaipaa
open Go.RowKit
set_option linter.unusedVariables false

/-- Are all bytes 255? -/
def blankB (s : ByteArray) : Bool := (nb s).all (· == 255)
theorem blank_cases (s : ByteArray) : (blankB s = true ∧ ∀ i (h : i < s.size), s[i].toNat = 255) ∨ (blankB s = false ∧ ∃ j, ∃ h : j < s.size, s[j].toNat ≠ 255) := by
  rcases hb : blankB s with _ | _
  · refine Or.inr ⟨rfl, ?_⟩
    unfold blankB at hb
    rw [List.all_eq_false] at hb
    obtain ⟨x, hx, hne⟩ := hb
    obtain ⟨j, hj, rfl⟩ := List.mem_iff_getElem.1 hx
    have hj2 : j < s.size := by rw [nb_len] at hj; exact hj
    refine ⟨j, hj2, ?_⟩
    intro e
    apply hne
    have : (nb s)[j] = s[j].toNat := by simp [nb]; rfl
    rw [this, e]
    rfl
  · refine Or.inl ⟨rfl, fun i h => ?_⟩
    unfold blankB at hb
    rw [List.all_eq_true] at hb
    have hm : (nb s)[i]'(by rw [nb_len]; exact h) ∈ nb s := List.getElem_mem _
    have := hb _ hm
    have e : (nb s)[i]'(by rw [nb_len]; exact h) = s[i].toNat := by simp [nb]; rfl
    rw [e] at this
    simpa using this
set_option maxHeartbeats 800000 in
theorem blank_any (s : ByteArray) (hs : s.size ≤ 9223372036854775807) (w : World) :
    Calls Try.prog 18 #[.string s] w fun e w' => e = .returned (.bool (blankB s)) ∧ w = w' := by
  rcases blank_cases s with ⟨hb, H⟩ | ⟨hb, j, hj, hne⟩
  · rw [hb]
    have HH := Lib.hid H
    clear H hb
    go_enter Try.func18, Try.ntmps18
    go_wp2_with fail
    go_loop [6] (fun i => ∃ k : Nat, k ≤ s.size ∧ i = .int .i64 k) (fun i => s.size - (intOf i).toNat)
    case atStart => exact ⟨0, by omega, rfl⟩
    case round =>
      obtain ⟨k, hk, rfl⟩ := hrel
      by_cases hlt : k < s.size
      · have he := HH.out k hlt
        have hd : ((s[k].toNat : Int) != 255) = false := by rw [he]; rfl
        clear he
        go_wp2_with fail
        go_round
        case rel => exact ⟨k + 1, by omega, by go_num⟩
        case measure => simp [intOf]; omega
      · go_wp2_with fail
        go_ret
        exact ⟨rfl, rfl⟩
  · rw [hb]
    clear hb
    go_enter Try.func18, Try.ntmps18
    go_wp2_with fail
    go_loop [6] (fun i => ∃ k : Nat, k ≤ j ∧ i = .int .i64 k) (fun i => s.size - (intOf i).toNat)
    case atStart => exact ⟨0, by omega, rfl⟩
    case round =>
      obtain ⟨k, hk, rfl⟩ := hrel
      have hlt : k < s.size := by omega
      by_cases he : s[k].toNat = 255
      · have hd : ((s[k].toNat : Int) != 255) = false := by rw [he]; rfl
        have hkj : k ≠ j := fun e => by subst e; exact hne he
        clear he
        go_wp2_with fail
        go_round
        case rel => exact ⟨k + 1, by omega, by go_num⟩
        case measure => simp [intOf]; omega
      · have hd : ((s[k].toNat : Int) != 255) = true := by simp; omega
        clear he
        go_wp2_with fail
        go_ret
        exact ⟨rfl, rfl⟩
set_option maxHeartbeats 800000 in
theorem rblank_any (s : ByteArray) (hs : s.size ≤ 9223372036854775807) (w : World) :
    Calls Try.prog 19 #[.string s] w fun e w' => e = .returned (.bool (blankB s)) ∧ w = w' := by
  rcases blank_cases s with ⟨hb, H⟩ | ⟨hb, j, hj, hne⟩
  · rw [hb]
    have HH := Lib.hid H
    clear H hb
    go_enter Try.func19, Try.ntmps19
    go_wp2_with fail
    go_loop [3] (fun i => ∃ k : Nat, k ≤ s.size ∧ i = .int .i64 k) (fun i => s.size - (intOf i).toNat)
    case atStart => exact ⟨0, by omega, rfl⟩
    case round =>
      obtain ⟨k, hk, rfl⟩ := hrel
      by_cases hlt : k < s.size
      · have he := HH.out k hlt
        have hd : ((s[k].toNat : Int) != 255) = false := by rw [he]; rfl
        clear he
        go_wp2_with fail
        go_round
        case rel => exact ⟨k + 1, by omega, by go_num⟩
        case measure => simp [intOf]; omega
      · go_wp2_with fail
        go_ret
        exact ⟨rfl, rfl⟩
  · rw [hb]
    clear hb
    go_enter Try.func19, Try.ntmps19
    go_wp2_with fail
    go_loop [3] (fun i => ∃ k : Nat, k ≤ j ∧ i = .int .i64 k) (fun i => s.size - (intOf i).toNat)
    case atStart => exact ⟨0, by omega, rfl⟩
    case round =>
      obtain ⟨k, hk, rfl⟩ := hrel
      have hlt : k < s.size := by omega
      by_cases he : s[k].toNat = 255
      · have hd : ((s[k].toNat : Int) != 255) = false := by rw [he]; rfl
        have hkj : k ≠ j := fun e => by subst e; exact hne he
        clear he
        go_wp2_with fail
        go_round
        case rel => exact ⟨k + 1, by omega, by go_num⟩
        case measure => simp [intOf]; omega
      · have hd : ((s[k].toNat : Int) != 255) = true := by simp; omega
        clear he
        go_wp2_with fail
        go_ret
        exact ⟨rfl, rfl⟩

/-- What Bytes tells. -/
def fbS (p s r k a b : Int) (t : ByteArray) : ByteArray × Int :=
  if ¬ (32 ≤ p ∧ p ≤ 128 ∧ 3 ≤ s ∧ s ≤ 10 ∧ 4 ≤ r ∧ r ≤ 12) then (⟨#[]⟩, 1) else if k < 1 ∨ 4 < k then (⟨#[]⟩, 2) else if p - 15 < t.size then (⟨#[]⟩, 4) else (pageS p k a b t, 0)
theorem rightK (p s r : Int) (h : RightG p s r) (w : World) : Calls Try.prog 25 #[geo p s r] w fun e w' => e = .returned (.bool true) ∧ Kp w w' :=
  (right_yes p s r h w).mono fun _ _ ⟨he, hw⟩ => ⟨he, hw ▸ Kp.one _ _⟩
theorem roomK (p s r : Int) (h : RightG p s r) (w : World) : Calls Try.prog 26 #[geo p s r] w fun e w' => e = .returned (.int .i64 (p - 15)) ∧ Kp w w' :=
  (room_yes p s r h w).mono fun _ _ ⟨he, hw⟩ => ⟨he, by first | exact hw | (subst hw; (repeat (first | with_reducible exact Kp.refl _ | with_reducible assumption | with_reducible refine Kp.alloc ?_ _ | with_reducible refine Kp.drew ?_ | with_reducible refine Kp.drewN ?_ _ | exact Kp.refl _ | assumption | refine Kp.alloc ?_ _ | refine Kp.drew ?_ | refine Kp.drewN ?_ _ | refine Kp.trans ?_ (by assumption))))⟩
theorem rrightK (p s r : Int) (h : RightG p s r) (w : World) : Calls Try.prog 28 #[geo p s r] w fun e w' => e = .returned (.bool true) ∧ Kp w w' :=
  (rright_yes p s r h w).mono fun _ _ ⟨he, hw⟩ => ⟨he, hw ▸ Kp.one _ _⟩
theorem rroomK (p s r : Int) (h : RightG p s r) (w : World) : Calls Try.prog 24 #[geo p s r] w fun e w' => e = .returned (.int .i64 (p - 15)) ∧ Kp w w' :=
  (rroom_any p s r h w).mono fun _ _ ⟨he, hw⟩ => ⟨he, hw ▸ Kp.one _ _⟩
set_option maxHeartbeats 1600000 in
theorem fbytes_any (p s r k a b : Int) (t : ByteArray) (ht : t.size ≤ 9223372036854775807) (ha : 0 ≤ a ∧ a ≤ 4294967295) (hb : 0 ≤ b ∧ b ≤ 4294967295) (w : World) :
    Calls Try.prog 12 #[geo p s r, frv k a b t] w fun e w' => e = .returned (.tuple #[.string (fbS p s r k a b t).1, .int .i64 (fbS p s r k a b t).2]) ∧ Kp w w' := by
  have HG := Lib.hid (fun (W : World) (h : Kp ((w.alloc (gob p s r)).alloc (fob k a b t)) W) => (Gat.new w p s r).keep ((Kp.one _ _).trans h))
  have HB := Lib.hid (fun (W : World) (h : Kp ((w.alloc (gob p s r)).alloc (fob k a b t)) W) => FrkB (w.alloc (gob p s r)) (w.heap.size + 1) (by simp) k a b t W h)
  have hK0 := (Kp.one w (gob p s r)).alloc (fob k a b t)
  by_cases hR : RightG p s r
  · have e1 : fbS p s r k a b t = if k < 1 ∨ 4 < k then (⟨#[]⟩, 2) else if p - 15 < t.size then (⟨#[]⟩, 4) else (pageS p k a b t, 0) := if_neg (fun h => h hR)
    obtain ⟨r1, r2, r3, r4, r5, r6⟩ := id hR
    have hcases : k < 1 ∨ (1 ≤ k ∧ 4 < k) ∨ (1 ≤ k ∧ k ≤ 4 ∧ p - 15 < t.size) ∨ (1 ≤ k ∧ k ≤ 4 ∧ t.size ≤ p - 15) := by omega
    rcases hcases with hc | ⟨hc1, hc⟩ | ⟨hc1, hc2, hc⟩ | ⟨hc1, hc2, hc⟩
    · rw [if_pos (Or.inl hc)] at e1
      rw [e1]
      clear e1
      go_enter Try.func12, Try.ntmps12
      go_wp2_with fail
      refine (rightK p s r hR _).mono ?_
      rintro e w1 ⟨rfl, hk1⟩
      obtain ⟨b0, b1, b2, b3⟩ := HB.out _ hk1
      go_wp2_with fail
      go_ret2
      exact ⟨rfl, hK0.trans hk1⟩
    · rw [if_pos (Or.inr hc)] at e1
      rw [e1]
      clear e1
      go_enter Try.func12, Try.ntmps12
      go_wp2_with fail
      refine (rightK p s r hR _).mono ?_
      rintro e w1 ⟨rfl, hk1⟩
      obtain ⟨b0, b1, b2, b3⟩ := HB.out _ hk1
      go_wp2_with fail
      go_ret2
      exact ⟨rfl, hK0.trans hk1⟩
    · rw [if_neg (by omega), if_pos hc] at e1
      rw [e1]
      clear e1
      have hd : decide (p - 15 < (t.size : Int)) = true := by simpa using hc
      go_enter Try.func12, Try.ntmps12
      go_wp2_with fail
      refine (rightK p s r hR _).mono ?_
      rintro e w1 ⟨rfl, hk1⟩
      have HG1 := Lib.hid (fun W (k9 : Kp w1 W) => HG.out W (hk1.trans k9))
      have HB1 := Lib.hid (fun W (k9 : Kp w1 W) => HB.out W (hk1.trans k9))
      obtain ⟨b0, b1, b2, b3⟩ := HB.out _ hk1
      go_wp2_with fail
      have hInh := fun (x v : Value) => (⟨fun h => h _ ((Kp.refl w1).drew), fun h _ _ => h⟩ : (∀ W, (fun W => Kp w1 W) W → x = v) ↔ x = v)
      dsimp only at hInh
      refine wp_region_quietC (C := fun W => Kp w1 W) (by kernel_rfl) (by kernel_rfl) ((Kp.refl w1).drew) ?_
      repeat (first | go_big_quiet_step ((intro hW; first | (go_at_call 26; refine (roomK p s r hR _).mono ?_; rintro e w' ⟨rfl, hk9⟩; exact ⟨rfl, hW.trans hk9⟩) | (with_reducible rfl) | (obtain ⟨b0, b1, b2, b3⟩ := HB1.out _ hW; obtain ⟨g0, g1, g2⟩ := HG1.out _ hW; (try go_simp); first | done | with_reducible rfl | exact ⟨rfl, rfl⟩))) | quiet_step ((intro hW; first | (go_at_call 26; refine (roomK p s r hR _).mono ?_; rintro e w' ⟨rfl, hk9⟩; exact ⟨rfl, hW.trans hk9⟩) | (with_reducible rfl) | (obtain ⟨b0, b1, b2, b3⟩ := HB1.out _ hW; obtain ⟨g0, g1, g2⟩ := HG1.out _ hW; (try go_simp); first | done | with_reducible rfl | exact ⟨rfl, rfl⟩))))
      refine wpQuiet_nil ?_
      intro wq hwq
      clear hInh
      go_wp2_with fail
      go_ret2
      exact ⟨rfl, (hK0.trans hk1).trans hwq⟩
    · rw [if_neg (by omega), if_neg (by omega)] at e1
      rw [e1]
      clear e1
      have hd : decide (p - 15 < (t.size : Int)) = false := by simp; omega
      go_enter Try.func12, Try.ntmps12
      go_wp2_with fail
      refine (rightK p s r hR _).mono ?_
      rintro e w1 ⟨rfl, hk1⟩
      have HG1 := Lib.hid (fun W (k9 : Kp w1 W) => HG.out W (hk1.trans k9))
      have HB1 := Lib.hid (fun W (k9 : Kp w1 W) => HB.out W (hk1.trans k9))
      obtain ⟨b0, b1, b2, b3⟩ := HB.out _ hk1
      go_wp2_with fail
      have hInh := fun (x v : Value) => (⟨fun h => h _ ((Kp.refl w1).drew), fun h _ _ => h⟩ : (∀ W, (fun W => Kp w1 W) W → x = v) ↔ x = v)
      dsimp only at hInh
      refine wp_region_quietC (C := fun W => Kp w1 W) (by kernel_rfl) (by kernel_rfl) ((Kp.refl w1).drew) ?_
      repeat (first | go_big_quiet_step ((intro hW; first | (go_at_call 26; refine (roomK p s r hR _).mono ?_; rintro e w' ⟨rfl, hk9⟩; exact ⟨rfl, hW.trans hk9⟩) | (with_reducible rfl) | (obtain ⟨b0, b1, b2, b3⟩ := HB1.out _ hW; obtain ⟨g0, g1, g2⟩ := HG1.out _ hW; (try go_simp); first | done | with_reducible rfl | exact ⟨rfl, rfl⟩))) | quiet_step ((intro hW; first | (go_at_call 26; refine (roomK p s r hR _).mono ?_; rintro e w' ⟨rfl, hk9⟩; exact ⟨rfl, hW.trans hk9⟩) | (with_reducible rfl) | (obtain ⟨b0, b1, b2, b3⟩ := HB1.out _ hW; obtain ⟨g0, g1, g2⟩ := HG1.out _ hW; (try go_simp); first | done | with_reducible rfl | exact ⟨rfl, rfl⟩))))
      refine wpQuiet_nil ?_
      intro wq hwq
      clear hInh
      clear b0 b1 b2 b3
      obtain ⟨b0, b1, b2, b3⟩ := HB1.out _ hwq
      obtain ⟨g0, g1, g2⟩ := HG1.out _ hwq
      go_wp2_with fail
      refine (page_any p k a b t ⟨hc1, hc2⟩ ha hb r2 (by omega) _).mono ?_
      rintro e w2 ⟨rfl, hk2⟩
      go_wp2_with fail
      go_ret2
      exact ⟨rfl, ((hK0.trans hk1).trans hwq).trans hk2⟩
  · have e1 : fbS p s r k a b t = (⟨#[]⟩, 1) := if_pos hR
    rw [e1]
    clear e1
    go_enter Try.func12, Try.ntmps12
    go_wp2_with fail
    refine (right_no p s r hR _).mono ?_
    rintro e w1 ⟨rfl, rfl⟩
    go_wp2_with fail
    go_ret2
    exact ⟨rfl, hK0.alloc _⟩
set_option maxHeartbeats 1600000 in
theorem rfbytes_any (p s r k a b : Int) (t : ByteArray) (ht : t.size ≤ 9223372036854775807) (ha : 0 ≤ a ∧ a ≤ 4294967295) (hb : 0 ≤ b ∧ b ≤ 4294967295) (w : World) :
    Calls Try.prog 13 #[geo p s r, frv k a b t] w fun e w' => e = .returned (.tuple #[.string (fbS p s r k a b t).1, .int .i64 (fbS p s r k a b t).2]) ∧ Kp w w' := by
  have HG := Lib.hid (fun (W : World) (h : Kp ((w.alloc (gob p s r)).alloc (fob k a b t)) W) => (Gat.new w p s r).keep ((Kp.one _ _).trans h))
  have HB := Lib.hid (fun (W : World) (h : Kp ((w.alloc (gob p s r)).alloc (fob k a b t)) W) => FrkB (w.alloc (gob p s r)) (w.heap.size + 1) (by simp) k a b t W h)
  have hK0 := (Kp.one w (gob p s r)).alloc (fob k a b t)
  by_cases hR : RightG p s r
  · have e1 : fbS p s r k a b t = if k < 1 ∨ 4 < k then (⟨#[]⟩, 2) else if p - 15 < t.size then (⟨#[]⟩, 4) else (pageS p k a b t, 0) := if_neg (fun h => h hR)
    obtain ⟨r1, r2, r3, r4, r5, r6⟩ := id hR
    have hcases : k < 1 ∨ (1 ≤ k ∧ 4 < k) ∨ (1 ≤ k ∧ k ≤ 4 ∧ p - 15 < t.size) ∨ (1 ≤ k ∧ k ≤ 4 ∧ t.size ≤ p - 15) := by omega
    rcases hcases with hc | ⟨hc1, hc⟩ | ⟨hc1, hc2, hc⟩ | ⟨hc1, hc2, hc⟩
    · rw [if_pos (Or.inl hc)] at e1
      rw [e1]
      clear e1
      go_enter Try.func13, Try.ntmps13
      go_wp2_with fail
      refine (rrightK p s r hR _).mono ?_
      rintro e w1 ⟨rfl, hk1⟩
      obtain ⟨b0, b1, b2, b3⟩ := HB.out _ hk1
      go_wp2_with fail
      go_ret2
      exact ⟨rfl, hK0.trans hk1⟩
    · rw [if_pos (Or.inr hc)] at e1
      rw [e1]
      clear e1
      go_enter Try.func13, Try.ntmps13
      go_wp2_with fail
      refine (rrightK p s r hR _).mono ?_
      rintro e w1 ⟨rfl, hk1⟩
      obtain ⟨b0, b1, b2, b3⟩ := HB.out _ hk1
      go_wp2_with fail
      go_ret2
      exact ⟨rfl, hK0.trans hk1⟩
    · rw [if_neg (by omega), if_pos hc] at e1
      rw [e1]
      clear e1
      have hd : decide (p - 15 < (t.size : Int)) = true := by simpa using hc
      go_enter Try.func13, Try.ntmps13
      go_wp2_with fail
      refine (rrightK p s r hR _).mono ?_
      rintro e w1 ⟨rfl, hk1⟩
      have HG1 := Lib.hid (fun W (k9 : Kp w1 W) => HG.out W (hk1.trans k9))
      have HB1 := Lib.hid (fun W (k9 : Kp w1 W) => HB.out W (hk1.trans k9))
      obtain ⟨b0, b1, b2, b3⟩ := HB.out _ hk1
      go_wp2_with fail
      have hInh := fun (x v : Value) => (⟨fun h => h _ ((Kp.refl w1).drew), fun h _ _ => h⟩ : (∀ W, (fun W => Kp w1 W) W → x = v) ↔ x = v)
      dsimp only at hInh
      refine wp_region_quietC (C := fun W => Kp w1 W) (by kernel_rfl) (by kernel_rfl) ((Kp.refl w1).drew) ?_
      repeat (first | go_big_quiet_step ((intro hW; first | (go_at_call 24; refine (rroomK p s r hR _).mono ?_; rintro e w' ⟨rfl, hk9⟩; exact ⟨rfl, hW.trans hk9⟩) | (with_reducible rfl) | (obtain ⟨b0, b1, b2, b3⟩ := HB1.out _ hW; obtain ⟨g0, g1, g2⟩ := HG1.out _ hW; (try go_simp); first | done | with_reducible rfl | exact ⟨rfl, rfl⟩))) | quiet_step ((intro hW; first | (go_at_call 24; refine (rroomK p s r hR _).mono ?_; rintro e w' ⟨rfl, hk9⟩; exact ⟨rfl, hW.trans hk9⟩) | (with_reducible rfl) | (obtain ⟨b0, b1, b2, b3⟩ := HB1.out _ hW; obtain ⟨g0, g1, g2⟩ := HG1.out _ hW; (try go_simp); first | done | with_reducible rfl | exact ⟨rfl, rfl⟩))))
      refine wpQuiet_nil ?_
      intro wq hwq
      clear hInh
      go_wp2_with fail
      go_ret2
      exact ⟨rfl, (hK0.trans hk1).trans hwq⟩
    · rw [if_neg (by omega), if_neg (by omega)] at e1
      rw [e1]
      clear e1
      have hd : decide (p - 15 < (t.size : Int)) = false := by simp; omega
      go_enter Try.func13, Try.ntmps13
      go_wp2_with fail
      refine (rrightK p s r hR _).mono ?_
      rintro e w1 ⟨rfl, hk1⟩
      have HG1 := Lib.hid (fun W (k9 : Kp w1 W) => HG.out W (hk1.trans k9))
      have HB1 := Lib.hid (fun W (k9 : Kp w1 W) => HB.out W (hk1.trans k9))
      obtain ⟨b0, b1, b2, b3⟩ := HB.out _ hk1
      go_wp2_with fail
      have hInh := fun (x v : Value) => (⟨fun h => h _ ((Kp.refl w1).drew), fun h _ _ => h⟩ : (∀ W, (fun W => Kp w1 W) W → x = v) ↔ x = v)
      dsimp only at hInh
      refine wp_region_quietC (C := fun W => Kp w1 W) (by kernel_rfl) (by kernel_rfl) ((Kp.refl w1).drew) ?_
      repeat (first | go_big_quiet_step ((intro hW; first | (go_at_call 24; refine (rroomK p s r hR _).mono ?_; rintro e w' ⟨rfl, hk9⟩; exact ⟨rfl, hW.trans hk9⟩) | (with_reducible rfl) | (obtain ⟨b0, b1, b2, b3⟩ := HB1.out _ hW; obtain ⟨g0, g1, g2⟩ := HG1.out _ hW; (try go_simp); first | done | with_reducible rfl | exact ⟨rfl, rfl⟩))) | quiet_step ((intro hW; first | (go_at_call 24; refine (rroomK p s r hR _).mono ?_; rintro e w' ⟨rfl, hk9⟩; exact ⟨rfl, hW.trans hk9⟩) | (with_reducible rfl) | (obtain ⟨b0, b1, b2, b3⟩ := HB1.out _ hW; obtain ⟨g0, g1, g2⟩ := HG1.out _ hW; (try go_simp); first | done | with_reducible rfl | exact ⟨rfl, rfl⟩))))
      refine wpQuiet_nil ?_
      intro wq hwq
      clear hInh
      clear b0 b1 b2 b3
      obtain ⟨b0, b1, b2, b3⟩ := HB1.out _ hwq
      obtain ⟨g0, g1, g2⟩ := HG1.out _ hwq
      go_wp2_with fail
      refine (refpage_any p k a b t ⟨hc1, hc2⟩ ha hb r2 (by omega) _).mono ?_
      rintro e w2 ⟨rfl, hk2⟩
      go_wp2_with fail
      go_ret2
      exact ⟨rfl, ((hK0.trans hk1).trans hwq).trans hk2⟩
  · have e1 : fbS p s r k a b t = (⟨#[]⟩, 1) := if_pos hR
    rw [e1]
    clear e1
    go_enter Try.func13, Try.ntmps13
    go_wp2_with fail
    refine (rright_no p s r hR _).mono ?_
    rintro e w1 ⟨rfl, rfl⟩
    go_wp2_with fail
    go_ret2
    exact ⟨rfl, hK0.alloc _⟩
end Go.Proofs.Ytdolclmeflaipaa
