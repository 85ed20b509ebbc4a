/- Numbers put and read: facts; the contracts of Put with the world as it is left, of the reference's Put4, Fill and Short. -/
import Derived.Test.YtdolclmeflaipaaCrcWalk
import Derived.Test.YtdolclmeflaipaaPick
namespace Go.Proofs.Ytdolclmeflaipaa
open Go.RowKit
set_option linter.unusedVariables false

theorem put_size (c : Nat) : (put c).size = 4 := rfl
theorem nb_put (c : Nat) (h : c < 4294967296) : nb (put c) = [c % 256, c / 256 % 256, c / 65536 % 256, c / 16777216] := by
  have e : ∀ x : Nat, x < 256 → (UInt8.ofNat x).toNat = x := fun x hx => by simp [UInt8.toNat_ofNat']; omega
  have k0 : ((c : Int) % 256).toNat = c % 256 := by omega
  have k1 : ((c : Int) / 256 % 256).toNat = c / 256 % 256 := by omega
  have k2 : ((c : Int) / 65536 % 256).toNat = c / 65536 % 256 := by omega
  have k3 : ((c : Int) / 16777216).toNat = c / 16777216 := by omega
  unfold nb put
  rw [strOfNums_data]
  simp only [List.map_cons, List.map_nil, k0, k1, k2, k3]
  rw [e _ (by omega), e _ (by omega), e _ (by omega), e _ (by omega)]
theorem put_word (c : Nat) (h : c < 4294967296) : Crc.word (c % 256) (c / 256 % 256) (c / 65536 % 256) (c / 16777216) = c := by unfold Crc.word; omega
theorem nb_sp (a m b : ByteArray) (i : Nat) (h : i < m.size) : byteAt (a ++ m ++ b) (a.size + i) = byteAt m i := by
  unfold byteAt
  rw [nb_append, nb_append, List.append_assoc, List.getD_eq_getElem?_getD, List.getElem?_append_right (by rw [nb_len]; omega), nb_len,
    show a.size + i - a.size = i by omega, List.getElem?_append_left (by rw [nb_len]; exact h), List.getD_eq_getElem?_getD]
theorem get4_put (a b : ByteArray) (c : Nat) (h : c < 4294967296) : get4 (a ++ put c ++ b) a.size = c := by
  unfold get4
  have e : ∀ i, i < 4 → byteAt (a ++ put c ++ b) (a.size + i) = byteAt (put c) i := fun i hi => nb_sp a (put c) b i (by rw [put_size]; exact hi)
  have e0 := e 0 (by omega)
  rw [Nat.add_zero] at e0
  rw [e0, e 1 (by omega), e 2 (by omega), e 3 (by omega)]
  unfold byteAt
  rw [nb_put c h]
  exact put_word c h
theorem get4_lt (s : ByteArray) (k : Nat) : get4 s k < 4294967296 := Crc.word_lt _ _ _ _ (byteAt_lt _ _) (byteAt_lt _ _) (byteAt_lt _ _) (byteAt_lt _ _)
/-- Four bytes are the number's that they say. -/
theorem put_get4 (s : ByteArray) (h : s.size = 4) : put (get4 s 0) = s := by
  apply nb_inj
  rw [nb_put _ (get4_lt s 0)]
  have e : nb s = [byteAt s 0, byteAt s 1, byteAt s 2, byteAt s 3] := by
    apply List.ext_getElem
    · rw [nb_len, h]; rfl
    · intro i h1 h2
      have hi : i < 4 := by simpa using h2
      unfold byteAt
      match i, hi with
      | 0, _ => simp [List.getD_eq_getElem?_getD, h1]
      | 1, _ => simp [List.getD_eq_getElem?_getD, h1]
      | 2, _ => simp [List.getD_eq_getElem?_getD, h1]
      | 3, _ => simp [List.getD_eq_getElem?_getD, h1]
  rw [e]
  have b0 := byteAt_lt s 0
  have b1 := byteAt_lt s 1
  have b2 := byteAt_lt s 2
  have b3 := byteAt_lt s 3
  unfold get4 Crc.word
  rw [show (0 + 1 : Nat) = 1 from rfl, show (0 + 2 : Nat) = 2 from rfl, show (0 + 3 : Nat) = 3 from rfl]
  generalize byteAt s 0 = x at *
  generalize byteAt s 1 = y at *
  generalize byteAt s 2 = z at *
  generalize byteAt s 3 = u at *
  simp only [List.cons.injEq, and_true]
  omega

/-- The row that Put makes. -/
def pobj (c : Nat) : Obj := .cells #[.int .u8 ((c : Int) % 256), .int .u8 ((c : Int) / 256 % 256), .int .u8 ((c : Int) / 65536 % 256), .int .u8 ((c : Int) / 16777216)] 5
set_option maxHeartbeats 400000 in
theorem put_x (c : Int) (h0 : 0 ≤ c) (hc : c ≤ 4294967295) (w : World) :
    Calls Try.prog 30 #[.int .u32 c] w fun e w' => e = .returned (.string (put c.toNat)) ∧ w.alloc (pobj c.toNat) = w' := by
  obtain ⟨n, rfl⟩ : ∃ n : Nat, c = n := ⟨c.toNat, by omega⟩
  rw [Int.toNat_natCast]
  have kc := strOf4 w ((n : Int) % 256) ((n : Int) / 256 % 256) ((n : Int) / 65536 % 256) ((n : Int) / 16777216)
  go_enter Try.func30, Try.ntmps30
  go_wp2
  go_ret
  exact ⟨rfl, rfl⟩
theorem and255 (x : Nat) (h : x < 4294967296) : bits .and .u32 (x : Int) 255 = (((x : Int) % 256) : Int) := by
  have := u32_and_nat x 255 h (by omega)
  rw [show ((255 : Nat) : Int) = 255 from rfl] at this
  rw [this, show (255 : Nat) = 2 ^ 8 - 1 from rfl, Nat.and_two_pow_sub_one_eq_mod]
  omega
set_option maxHeartbeats 400000 in
theorem put4_x (c : Int) (h0 : 0 ≤ c) (hc : c ≤ 4294967295) (w : World) :
    Calls Try.prog 21 #[.int .u32 c] w fun e w' => e = .returned (.string (put c.toNat)) ∧ w.alloc (pobj c.toNat) = w' := by
  obtain ⟨n, rfl⟩ : ∃ n : Nat, c = n := ⟨c.toNat, by omega⟩
  rw [Int.toNat_natCast]
  have kc := strOf4 w ((n : Int) % 256) ((n : Int) / 256 % 256) ((n : Int) / 65536 % 256) ((n : Int) / 16777216)
  have a0 := and255 n (by omega)
  have a1 := and255 (n / 256) (by omega)
  have a2 := and255 (n / 65536) (by omega)
  rw [show ((n / 256 : Nat) : Int) = (n : Int) / 256 by omega] at a1
  rw [show ((n / 65536 : Nat) : Int) = (n : Int) / 65536 by omega] at a2
  go_enter Try.func21, Try.ntmps21
  go_wp2
  go_ret
  exact ⟨rfl, rfl⟩
end Go.Proofs.Ytdolclmeflaipaa
