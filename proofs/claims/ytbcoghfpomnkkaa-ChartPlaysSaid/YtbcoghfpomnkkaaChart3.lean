/- The contracts of package chart: what is open, what is left. -/
import Derived.Test.YtbcoghfpomnkkaaChart2
namespace Go.Proofs.Ytbcoghfpomnkkaa
open Go.RowKit
set_option linter.unusedVariables false

set_option maxHeartbeats 800000 in
theorem copened_no (W0 : World) (g q : Nat) (p s : Int) (l : List (Int × Int)) (h : ChAt W0 g q p s l (-1)) :
    Calls Try.prog 36 #[.pointer (some ⟨g, 0, none⟩)] W0 fun e w' => e = .returned (.bool false) ∧ Kp W0 w' := by
  have HC := Lib.hid (fun W (k : Kp W0 W) => (h.keep k).c5)
  go_enter Try.func36, Try.ntmps36
  go_wp2_with fail
  have hInh := fun (x v : Value) => (⟨fun h => h _ ((Kp.refl W0).drew), fun h _ _ => h⟩ : (∀ W, (fun W => Kp W0 W) W → x = v) ↔ x = v)
  dsimp only at hInh
  refine wp_region_quietC (C := fun W => Kp W0 W) (by kernel_rfl) (by kernel_rfl) ((Kp.refl W0).drew) ?_
  repeat (first | go_big_quiet_step ((intro hW; first | (go_at_call 34; refine (chas_no _ g q p s l _ (h.keep hW) _ (by omega)).mono ?_; rintro e w' ⟨rfl, rfl⟩; exact ⟨rfl, hW⟩) | (with_reducible rfl) | (obtain ⟨c0, c1, c2, c3, c4⟩ := HC.out _ hW; (try go_simp); first | done | with_reducible rfl | exact ⟨rfl, rfl⟩))) | quiet_step ((intro hW; first | (go_at_call 34; refine (chas_no _ g q p s l _ (h.keep hW) _ (by omega)).mono ?_; rintro e w' ⟨rfl, rfl⟩; exact ⟨rfl, hW⟩) | (with_reducible rfl) | (obtain ⟨c0, c1, c2, c3, c4⟩ := HC.out _ hW; (try go_simp); first | done | with_reducible rfl | exact ⟨rfl, rfl⟩))))
  refine wpQuiet_nil ?_
  intro wq hwq
  clear hInh
  go_wp2_with fail
  go_ret
  exact ⟨rfl, hwq⟩
set_option maxHeartbeats 800000 in
theorem copened_yes (W0 : World) (g q : Nat) (p s : Int) (l : List (Int × Int)) (k : Nat) (h : ChAt W0 g q p s l k) (hl : l.length ≤ 100) (hk : k < l.length) (he : 0 < epo l k) :
    Calls Try.prog 36 #[.pointer (some ⟨g, 0, none⟩)] W0 fun e w' => e = .returned (.bool true) ∧ Kp W0 w' := by
  have HC := Lib.hid (fun W (k : Kp W0 W) => (h.keep k).c5)
  have HE := Lib.hid (fun W (k9 : Kp W0 W) => (h.keep k9).eu k hk)
  have d1 : decide (0 < epo l k) = true := by simpa using he
  have hk2 : (k : Int) < (l.length : Int) := by omega
  go_enter Try.func36, Try.ntmps36
  go_wp2_with fail
  have hInh := fun (x v : Value) => (⟨fun h => h _ ((Kp.refl W0).drew), fun h _ _ => h⟩ : (∀ W, (fun W => Kp W0 W) W → x = v) ↔ x = v)
  dsimp only at hInh
  refine wp_region_quietC (C := fun W => Kp W0 W) (by kernel_rfl) (by kernel_rfl) ((Kp.refl W0).drew) ?_
  repeat (first | go_big_quiet_step ((intro hW; first | (go_at_call 34; refine (chas_yes _ g q p s l _ (h.keep hW) _ (by omega) (by omega)).mono ?_; rintro e w' ⟨rfl, rfl⟩; exact ⟨rfl, hW⟩) | (with_reducible rfl) | (obtain ⟨c0, c1, c2, c3, c4⟩ := HC.out _ hW; obtain ⟨e0, e1⟩ := HE.out _ hW; (try go_simp); first | done | with_reducible rfl | exact ⟨rfl, rfl⟩))) | quiet_step ((intro hW; first | (go_at_call 34; refine (chas_yes _ g q p s l _ (h.keep hW) _ (by omega) (by omega)).mono ?_; rintro e w' ⟨rfl, rfl⟩; exact ⟨rfl, hW⟩) | (with_reducible rfl) | (obtain ⟨c0, c1, c2, c3, c4⟩ := HC.out _ hW; obtain ⟨e0, e1⟩ := HE.out _ hW; (try go_simp); first | done | with_reducible rfl | exact ⟨rfl, rfl⟩))))
  refine wpQuiet_nil ?_
  intro wq hwq
  clear hInh
  go_wp2_with fail
  go_ret
  exact ⟨rfl, hwq⟩
end Go.Proofs.Ytbcoghfpomnkkaa
