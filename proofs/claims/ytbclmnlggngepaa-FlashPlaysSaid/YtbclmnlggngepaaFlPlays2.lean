/- The walk of FlashPlays: same, the law. -/
import Derived.Test.YtbclmnlggngepaaFlPlays
namespace Go.Proofs.Ytbclmnlggngepaa
open Go.RowKit
set_option linter.unusedVariables false

section
variable {w0 W : World} {g ib ic h hb hc : Nat} {p s r : Int} {d : Dev} {v v' : Value}
set_option maxRecDepth 20000 in
set_option maxHeartbeats 6400000 in
theorem fsame (t : FPair w0 W g ib ic h hb hc p s r d d v v') (page : Int) :
    Calls Try.prog 33 #[.pointer (some ⟨g, 0, none⟩), .pointer (some ⟨h, 0, none⟩), .int .i64 page] W fun e w' => e = .returned (.bool true) ∧ Kp W w' := by
  have HPF := Lib.hid (fun W' (k : Kp W W') => read_PF (t.keep k) page)
  have HPR := Lib.hid (fun W' (k : Kp W W') => read_PR (t.keep k) page)
  have HD := Lib.hid (fun W' (k : Kp W W') => fdown (t.fl.at_.keep k))
  have HN := Lib.hid (fun W' (k : Kp W W') => fpending (t.fl.at_.keep k))
  have HI := Lib.hid (fun W' (k : Kp W W') => fimage (t.fl.at_.keep k))
  obtain ⟨d', k1, k2⟩ := t.rf.at_
  have HRI := Lib.hid (fun W' (k : Kp W W') => rimage (k1.keep k))
  rw [k2.img] at HRI
  have HC : Hid (∀ W', Kp W W' → W'.cell? ⟨h, 7, none⟩ = some (.bool d.down) ∧ ∃ A c, W'.cell? ⟨h, 4, none⟩ = some (.slice A d.row.length c)) := Lib.hid (fun W' k => by
    obtain ⟨c0, c1, c2, c3, c4, c5, c6, c7⟩ := (k1.keep k).c8
    obtain ⟨A, c, e, _⟩ := (k1.keep k).rows
    rw [k2.down] at c7
    rw [e, k2.row] at c4
    exact ⟨c7, A, c, c4⟩)
  obtain ⟨-, AA, cc, -⟩ := HC.out _ (Kp.refl W)
  have HCC : Hid (∃ A c, ∀ W', Kp W W' → W'.cell? ⟨h, 7, none⟩ = some (.bool d.down) ∧ W'.cell? ⟨h, 4, none⟩ = some (.slice A d.row.length c)) := Lib.hid (by
    obtain ⟨A, c, e, _⟩ := k1.rows
    refine ⟨A, c, fun W' k => ?_⟩
    obtain ⟨c0, c1, c2, c3, c4, c5, c6, c7⟩ := (k1.keep k).c8
    rw [k2.down] at c7
    rw [e, k2.row] at c4
    exact ⟨c7, c4⟩)
  clear HC AA cc k1 k2
  obtain ⟨A, c, HCW0⟩ := HCC.out
  have HCW := Lib.hid HCW0
  clear HCC HCW0 t
  have hbe : ((readD p s r d page).1.toList == (readD p s r d page).1.toList) = true := by simp
  have hbi : ((strN d.img).toList == (strN d.img).toList) = true := by simp
  generalize (readD p s r d page).1 = s1 at *
  generalize (readD p s r d page).2 = n1 at *
  generalize strN d.img = s2 at *
  generalize d.row.length = n2 at *
  have hbn : (n1 == n1) = true := by simp
  have hbm : (((n2 : Nat) : Int) == (n2 : Int)) = true := by simp
  go_enter Try.func33, Try.ntmps33
  go_wp2_with fail
  refine (HPF.out _ (Kp.refl _)).mono ?_
  rintro e w1 ⟨rfl, hk1⟩
  go_wp2_with fail
  refine (HPR.out _ hk1).mono ?_
  rintro e w2 ⟨rfl, hk2⟩
  have hK := hk1.trans hk2
  rcases hdn : d.down with _ | _
  all_goals
    rw [hdn] at HD HCW
    go_wp2_with fail
    have hInh := fun (x v : Value) => (⟨fun h => h _ (hK.drew), fun h _ _ => h⟩ : (∀ Wz9, (fun W1 => Kp W W1) Wz9 → x = v) ↔ x = v)
    dsimp only at hInh
    refine wp_region_quietC (C := fun W1 => Kp W W1) (by kernel_rfl) (by kernel_rfl) (hK.drew) ?_
    repeat (first | go_big_quiet_step ((intro hW; first | (first | (go_at_call 17; refine (HD.out _ hW).mono ?_; rintro e w' ⟨rfl, hk9⟩; exact ⟨rfl, hW.trans hk9⟩) | (go_at_call 18; refine (HN.out _ hW).mono ?_; rintro e w' ⟨rfl, hk9⟩; exact ⟨rfl, hW.trans hk9⟩) | (go_at_call 15; refine (HI.out _ hW).mono ?_; rintro e w' ⟨rfl, hk9⟩; exact ⟨rfl, hW.trans hk9⟩) | (go_at_call 49; refine (HRI.out _ hW).mono ?_; rintro e w' ⟨rfl, hk9⟩; exact ⟨rfl, hW.trans hk9⟩)) | (with_reducible rfl) | (obtain ⟨y7, y4⟩ := HCW.out _ hW; (try go_simp); first | done | with_reducible rfl | exact ⟨rfl, rfl⟩))) | quiet_step ((intro hW; first | (first | (go_at_call 17; refine (HD.out _ hW).mono ?_; rintro e w' ⟨rfl, hk9⟩; exact ⟨rfl, hW.trans hk9⟩) | (go_at_call 18; refine (HN.out _ hW).mono ?_; rintro e w' ⟨rfl, hk9⟩; exact ⟨rfl, hW.trans hk9⟩) | (go_at_call 15; refine (HI.out _ hW).mono ?_; rintro e w' ⟨rfl, hk9⟩; exact ⟨rfl, hW.trans hk9⟩) | (go_at_call 49; refine (HRI.out _ hW).mono ?_; rintro e w' ⟨rfl, hk9⟩; exact ⟨rfl, hW.trans hk9⟩)) | (with_reducible rfl) | (obtain ⟨y7, y4⟩ := HCW.out _ hW; (try go_simp); first | done | with_reducible rfl | exact ⟨rfl, rfl⟩))))
    refine wpQuiet_nil ?_
    intro wq hwq
    clear hInh
    go_wp2_with fail
    go_ret
    exact ⟨ret_bool (by simp), hwq⟩
end
end Go.Proofs.Ytbclmnlggngepaa
