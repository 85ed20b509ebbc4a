/- Blank texts: the contracts of frame.Blank and of the reference's. -/
import Derived.Test.YtbclmnlggngepaaFill
namespace Go.Proofs.Ytbclmnlggngepaa
open Go.RowKit
set_option linter.unusedVariables false

/-- Are all bytes 255? -/
def blankB (s : ByteArray) : Bool := (nb s).all (· == 255)
theorem blank_cases (s : ByteArray) : (blankB s = true ∧ ∀ i (h : i < s.size), s[i].toNat = 255) ∨ (blankB s = false ∧ ∃ j, ∃ h : j < s.size, s[j].toNat ≠ 255) := by
  rcases hb : blankB s with _ | _
  · refine Or.inr ⟨rfl, ?_⟩
    unfold blankB at hb
    rw [List.all_eq_false] at hb
    obtain ⟨x, hx, hne⟩ := hb
    obtain ⟨j, hj, rfl⟩ := List.mem_iff_getElem.1 hx
    have hj2 : j < s.size := by rw [nb_len] at hj; exact hj
    refine ⟨j, hj2, ?_⟩
    intro e
    apply hne
    have : (nb s)[j] = s[j].toNat := by simp [nb]; rfl
    rw [this, e]
    rfl
  · refine Or.inl ⟨rfl, fun i h => ?_⟩
    unfold blankB at hb
    rw [List.all_eq_true] at hb
    have hm : (nb s)[i]'(by rw [nb_len]; exact h) ∈ nb s := List.getElem_mem _
    have := hb _ hm
    have e : (nb s)[i]'(by rw [nb_len]; exact h) = s[i].toNat := by simp [nb]; rfl
    rw [e] at this
    simpa using this
set_option maxHeartbeats 800000 in
theorem rblank_any (s : ByteArray) (hs : s.size ≤ 9223372036854775807) (w : World) :
    Calls Try.prog 28 #[.string s] w fun e w' => e = .returned (.bool (blankB s)) ∧ w = w' := by
  rcases blank_cases s with ⟨hb, H⟩ | ⟨hb, j, hj, hne⟩
  · rw [hb]
    have HH := Lib.hid H
    clear H hb
    go_enter Try.func28, Try.ntmps28
    go_wp2_with fail
    go_loop [3] (fun i => ∃ k : Nat, k ≤ s.size ∧ i = .int .i64 k) (fun i => s.size - (intOf i).toNat)
    case atStart => exact ⟨0, by omega, rfl⟩
    case round =>
      obtain ⟨k, hk, rfl⟩ := hrel
      by_cases hlt : k < s.size
      · have he := HH.out k hlt
        have hd : ((s[k].toNat : Int) != 255) = false := by rw [he]; rfl
        clear he
        go_wp2_with fail
        go_round
        case rel => exact ⟨k + 1, by omega, by go_num⟩
        case measure => simp [intOf]; omega
      · go_wp2_with fail
        go_ret
        exact ⟨rfl, rfl⟩
  · rw [hb]
    clear hb
    go_enter Try.func28, Try.ntmps28
    go_wp2_with fail
    go_loop [3] (fun i => ∃ k : Nat, k ≤ j ∧ i = .int .i64 k) (fun i => s.size - (intOf i).toNat)
    case atStart => exact ⟨0, by omega, rfl⟩
    case round =>
      obtain ⟨k, hk, rfl⟩ := hrel
      have hlt : k < s.size := by omega
      by_cases he : s[k].toNat = 255
      · have hd : ((s[k].toNat : Int) != 255) = false := by rw [he]; rfl
        have hkj : k ≠ j := fun e => by subst e; exact hne he
        clear he
        go_wp2_with fail
        go_round
        case rel => exact ⟨k + 1, by omega, by go_num⟩
        case measure => simp [intOf]; omega
      · have hd : ((s[k].toNat : Int) != 255) = true := by simp; omega
        clear he
        go_wp2_with fail
        go_ret
        exact ⟨rfl, rfl⟩
theorem nb_fillS (n : Nat) : nb (fillS 255 n) = List.replicate n 255 := by
  unfold nb fillS
  rw [strOfNums_data]
  simp
/-- A blank text of so many bytes. -/
theorem blankB_fill (s : ByteArray) (n : Nat) (h : s.size = n) : (blankB s = true → s = fillS 255 n) ∧ (blankB s = false → s ≠ fillS 255 n) := by
  have hb : nb (fillS 255 n) = List.replicate n 255 := nb_fillS n
  refine ⟨fun h1 => ?_, fun h1 h2 => ?_⟩
  · apply nb_inj
    rw [hb]
    unfold blankB at h1
    rw [List.all_eq_true] at h1
    refine List.eq_replicate_iff.2 ⟨by rw [nb_len, h], fun x hx => by simpa using h1 x hx⟩
  · rw [h2] at h1
    unfold blankB at h1
    rw [hb] at h1
    simp at h1
end Go.Proofs.Ytbclmnlggngepaa
