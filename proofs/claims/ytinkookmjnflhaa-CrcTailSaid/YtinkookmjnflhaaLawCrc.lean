/- The walks of the statements of chapter 1. -/
import Derived.Test.YtinkookmjnflhaaCrcWalk
namespace Go.Proofs.Ytinkookmjnflhaa
open Go.RowKit

theorem one_cell (w : World) (a : Value) (t : TypeId) : (w.alloc (.cells #[a] t)).cell? ⟨w.heap.size, 0, none⟩ = some a := by
  rw [World.cell?_alloc_at _ _ _ _ rfl]; rfl
theorem sum_nine (w : World) (B : Nat) (h : w.cell? ⟨B, 0, none⟩ = some (.string ⟨#[49, 50, 51, 52, 53, 54, 55, 56, 57]⟩)) :
    Calls Try.prog 10 #[.slice (some ⟨B, 0, none⟩) 1 1] w fun e w' => e = .returned (.int .u32 3421780262) ∧ w = w' := by
  have := sum1 ⟨#[49, 50, 51, 52, 53, 54, 55, 56, 57]⟩ (by decide) w B h
  rw [show crcN ⟨#[49, 50, 51, 52, 53, 54, 55, 56, 57]⟩ = 3421780262 from by decide +kernel] at this
  exact this
theorem put_one (w : World) :
    Calls Try.prog 14 #[.int .u32 1] w fun e w' => e = .returned (.string ⟨#[1, 0, 0, 0]⟩) ∧ Kp w w' := by
  have := put_any 1 (by omega) w
  rw [show put 1 = ⟨#[1, 0, 0, 0]⟩ from by decide +kernel] at this
  exact this

set_option maxHeartbeats 400000 in
theorem alive_any (w : World) : Calls Try.prog 9 #[] w fun e w' => e = .returned (.bool true) ∧ Kp w w' := by
  go_enter Try.func9, Try.ntmps9
  go_wp2_with (first
    | (go_at_call 10; refine (sum_nine _ _ (one_cell _ _ _)).mono ?_; rintro e w' ⟨rfl, rfl⟩)
    | (go_at_call 14; refine (put_one _).mono ?_; rintro e w1 ⟨rfl, hk1⟩))
  go_ret
  exact ⟨rfl, (Kp.one _ _).trans hk1⟩

theorem put_size (c : Nat) : (put c).size = 4 := rfl
theorem nb_put (c : Nat) (h : c < 4294967296) : nb (put c) = [c % 256, c / 256 % 256, c / 65536 % 256, c / 16777216] := by
  have e : ∀ x : Nat, x < 256 → (UInt8.ofNat x).toNat = x := fun x hx => by simp [UInt8.toNat_ofNat']; omega
  have k0 : ((c : Int) % 256).toNat = c % 256 := by omega
  have k1 : ((c : Int) / 256 % 256).toNat = c / 256 % 256 := by omega
  have k2 : ((c : Int) / 65536 % 256).toNat = c / 65536 % 256 := by omega
  have k3 : ((c : Int) / 16777216).toNat = c / 16777216 := by omega
  unfold nb put
  rw [strOfNums_data]
  simp only [List.map_cons, List.map_nil, k0, k1, k2, k3]
  rw [e _ (by omega), e _ (by omega), e _ (by omega), e _ (by omega)]
theorem put_word (c : Nat) (h : c < 4294967296) : Crc.word (c % 256) (c / 256 % 256) (c / 65536 % 256) (c / 16777216) = c := by unfold Crc.word; omega
theorem tail_law (s : ByteArray) : sumN [s, put (crcN s)] = 558161692 := by
  have hl := crcN_lt s
  unfold sumN sums
  simp only [List.foldl_cons, List.foldl_nil]
  rw [nb_put _ hl]
  exact Crc.tail (crcOf s) _ _ _ _ (by omega) (by omega) (by omega) (put_word _ hl)

theorem two_cells (w : World) (a b : Value) (t : TypeId) : (w.alloc (.cells #[a, b] t)).cell? ⟨w.heap.size, 0, none⟩ = some a ∧ (w.alloc (.cells #[a, b] t)).cell? ⟨w.heap.size, 1, none⟩ = some b := by
  constructor <;> (rw [World.cell?_alloc_at _ _ _ _ rfl]; rfl)
theorem sum_tail (s : ByteArray) (hs : s.size ≤ 140737488351232) (w : World) :
    Calls Try.prog 10 #[.slice (some ⟨w.heap.size, 0, none⟩) 2 2] (w.alloc (.cells #[.string s, .string (put (crcN s))] 9)) fun e w' => e = .returned (.int .u32 558161692) ∧ w.alloc (.cells #[.string s, .string (put (crcN s))] 9) = w' := by
  have := sum2 s (put (crcN s)) (by omega) (by rw [put_size]; omega) _ _ (two_cells w (.string s) (.string (put (crcN s))) 9).1 (two_cells w (.string s) (.string (put (crcN s))) 9).2
  rw [tail_law s] at this
  exact this

set_option maxHeartbeats 400000 in
theorem CrcTail_walk (s : ByteArray) (hs : s.size ≤ 140737488351232) (w : World) :
    Calls Try.prog 6 #[.string s] w fun e w' => e = .returned (.bool true) ∧ Kp w w' := by
  go_enter Try.func6, Try.ntmps6
  go_wp2_with fail
  refine (alive_any _).mono ?_
  rintro e w1 ⟨rfl, hk1⟩
  go_wp2_with fail
  refine (sum1 s (by omega) _ _ (one_cell _ _ _)).mono ?_
  rintro e w2 ⟨rfl, rfl⟩
  go_wp2_with fail
  refine (put_any _ (crcN_lt s) _).mono ?_
  rintro e w2 ⟨rfl, hk2⟩
  go_wp2_with fail
  refine (sum_tail s hs _).mono ?_
  rintro e w2 ⟨rfl, rfl⟩
  go_wp2_with fail
  go_ret
  exact ⟨rfl, (hk1.alloc _).trans (hk2.alloc _)⟩
end Go.Proofs.Ytinkookmjnflhaa
