/- The contracts of package crc: Step, Sum, Put, Get; and of the reference: CrcStep, Crc, Put4, Get4. -/
import Derived.Test.YtinkookmjnflhaaCrcMath
import Derived.Test.YtinkookmjnflhaaBase
import Derived.Laws.BitsAllLaws
namespace Go.Proofs.Ytinkookmjnflhaa
open Go.RowKit

namespace Crc
def it : Nat → Nat → Nat
  | 0, x => x
  | k + 1, x => s1 (it k x)
theorem it_lt (k x : Nat) (h : x < 2 ^ 32) : it k x < 2 ^ 32 := by
  induction k with
  | zero => exact h
  | succ k ih => exact s1_lt _ ih
theorem and_one (x : Nat) (h : x < 4294967296) : bits .and .u32 (x : Int) 1 = ((x % 2 : Nat) : Int) := by
  have := u32_and_nat x 1 h (by omega)
  rw [Nat.and_one_is_mod] at this
  exact this
theorem odd_step (x : Nat) (h : x < 4294967296) (e : (bits .and .u32 (x : Int) 1 == 1) = true) : bits .xor .u32 ((x : Int) / 2) 3988292384 = ((s1 x : Nat) : Int) := by
  rw [and_one x h] at e
  have e' : x % 2 = 1 := by have := beq_iff_eq.1 e; omega
  have := u32_xor_nat (x / 2) 3988292384 (by omega) (by omega)
  unfold s1 P
  rw [if_pos e', ← this]
  rfl
theorem even_step (x : Nat) (h : x < 4294967296) (e : (bits .and .u32 (x : Int) 1 == 1) = false) : (x : Int) / 2 = ((s1 x : Nat) : Int) := by
  rw [and_one x h] at e
  have e' : ¬ x % 2 = 1 := by intro h1; rw [h1] at e; simp at e
  unfold s1
  rw [if_neg e']
  rfl
theorem it8 (x : Nat) : it 8 x = s8 x := rfl
end Crc

set_option maxHeartbeats 400000 in
theorem step_any (c b : Nat) (hc : c < 4294967296) (hb : b < 256) (w : World) :
    Calls Try.prog 12 #[.int .u32 c, .int .u8 b] w fun e w' => e = .returned (.int .u32 (Crc.s8 (c ^^^ b) : Nat)) ∧ w = w' := by
  have hx := u32_xor_nat c b hc (by omega)
  go_enter Try.func12, Try.ntmps12
  go_wp2
  go_loop [0, 10] (fun cv i => ∃ k : Nat, k ≤ 8 ∧ i = .int .i64 k ∧ cv = .int .u32 ((Crc.it k (c ^^^ b) : Nat) : Int)) (fun _ i => 8 - (intOf i).toNat)
  case atStart => exact ⟨0, by omega, rfl, rfl⟩
  case round =>
    obtain ⟨k, hk, rfl, rfl⟩ := hrel
    by_cases h8 : k < 8
    · obtain ⟨x, hx0⟩ : ∃ x, x = Crc.it k (c ^^^ b) := ⟨_, rfl⟩
      have hxl : x < 4294967296 := by rw [hx0]; exact Crc.it_lt k _ (Nat.xor_lt_two_pow (n := 32) hc (by omega))
      rw [← hx0]
      have HX := Lib.hid hx0
      clear hx0 hx
      go_wp2
      · have ho : (bits .and .u32 (x : Int) 1 == 1) = true := by assumption
        go_round
        case rel => exact ⟨k + 1, by omega, by go_num, by rw [Crc.odd_step x hxl ho]; show _ = Value.int .u32 ((Crc.s1 (Crc.it k (c ^^^ b)) : Nat) : Int); rw [← HX.out]⟩
        case measure => simp [intOf]; omega
      · have ho : (bits .and .u32 (x : Int) 1 == 1) = false := by assumption
        go_round
        case rel => exact ⟨k + 1, by omega, by go_num, by rw [Crc.even_step x hxl ho]; show _ = Value.int .u32 ((Crc.s1 (Crc.it k (c ^^^ b)) : Nat) : Int); rw [← HX.out]⟩
        case measure => simp [intOf]; omega
    · obtain rfl : k = 8 := by omega
      go_wp2
      go_ret
      exact ⟨rfl, rfl⟩

theorem nb_bytes (s : ByteArray) : Crc.Bytes (nb s) := nb_lt s
theorem crcs_take (c : Nat) (s : ByteArray) (k : Nat) (h : k < s.size) : Crc.crcs c ((nb s).take (k + 1)) = Crc.s8 (Crc.crcs c ((nb s).take k) ^^^ s[k].toNat) := by
  rw [nb_take s k h, Crc.crcs_append]; rfl
theorem crcs_lt_take (c : Nat) (hc : c < 2 ^ 32) (s : ByteArray) (k : Nat) : Crc.crcs c ((nb s).take k) < 2 ^ 32 :=
  Crc.crcs_lt _ _ hc fun b hb => nb_bytes s b (List.mem_of_mem_take hb)

set_option maxHeartbeats 400000 in
theorem refstep_any (c b : Nat) (hc : c < 4294967296) (hb : b < 256) (w : World) :
    Calls Try.prog 13 #[.int .u32 c, .int .u8 b] w fun e w' => e = .returned (.int .u32 (Crc.s8 (c ^^^ b) : Nat)) ∧ w = w' := by
  have hx := u32_xor_nat c b hc (by omega)
  go_enter Try.func13, Try.ntmps13
  go_wp2
  go_loop [0, 5] (fun cv i => ∃ k : Nat, k ≤ 8 ∧ i = .int .i64 k ∧ cv = .int .u32 ((Crc.it k (c ^^^ b) : Nat) : Int)) (fun _ i => 8 - (intOf i).toNat)
  case atStart => exact ⟨0, by omega, rfl, rfl⟩
  case round =>
    obtain ⟨k, hk, rfl, rfl⟩ := hrel
    by_cases h8 : k < 8
    · obtain ⟨x, hx0⟩ : ∃ x, x = Crc.it k (c ^^^ b) := ⟨_, rfl⟩
      have hxl : x < 4294967296 := by rw [hx0]; exact Crc.it_lt k _ (Nat.xor_lt_two_pow (n := 32) hc (by omega))
      rw [← hx0]
      have HX := Lib.hid hx0
      clear hx0 hx
      go_wp2
      · have ho : ((x : Int) % 2 == 1) = true := by assumption
        go_round
        case rel => exact ⟨k + 1, by omega, by go_num, by rw [Crc.odd_step x hxl (by rw [Crc.and_one x hxl]; exact ho)]; show _ = Value.int .u32 ((Crc.s1 (Crc.it k (c ^^^ b)) : Nat) : Int); rw [← HX.out]⟩
        case measure => simp [intOf]; omega
      · have ho : ((x : Int) % 2 == 1) = false := by assumption
        go_round
        case rel => exact ⟨k + 1, by omega, by go_num, by rw [Crc.even_step x hxl (by rw [Crc.and_one x hxl]; exact ho)]; show _ = Value.int .u32 ((Crc.s1 (Crc.it k (c ^^^ b)) : Nat) : Int); rw [← HX.out]⟩
        case measure => simp [intOf]; omega
    · obtain rfl : k = 8 := by omega
      go_wp2
      go_ret
      exact ⟨rfl, rfl⟩

/-- The reference's sum of one text. -/
def crcOf (s : ByteArray) : Nat := Crc.crcs 4294967295 (nb s)
theorem crcOf_lt (s : ByteArray) : crcOf s < 4294967296 := Crc.crcs_lt _ _ (by omega) (nb_bytes s)
/-- The checksum of a text. -/
def crcN (s : ByteArray) : Nat := crcOf s ^^^ Crc.F
theorem crcN_lt (s : ByteArray) : crcN s < 4294967296 := Nat.xor_lt_two_pow (n := 32) (crcOf_lt s) (by decide)
theorem not_u32 (x : Nat) (h : x < 4294967296) : (4294967295 : Int) - (x : Int) = ((x ^^^ Crc.F : Nat) : Int) := by
  have := Crc.not32 x h
  omega
theorem crcN_eq (s : ByteArray) : (4294967295 : Int) - (crcOf s : Int) = (crcN s : Int) := not_u32 _ (crcOf_lt s)

set_option maxHeartbeats 400000 in
theorem refcrc_any (s : ByteArray) (hs : s.size ≤ 9223372036854775807) (w : World) :
    Calls Try.prog 11 #[.string s] w fun e w' => e = .returned (.int .u32 (crcN s : Nat)) ∧ w = w' := by
  have hl := crcOf_lt s
  go_enter Try.func11, Try.ntmps11
  go_wp2_with fail
  go_loop [3, 4] (fun cv i => ∃ k : Nat, k ≤ s.size ∧ i = .int .i64 k ∧ cv = .int .u32 ((Crc.crcs 4294967295 ((nb s).take k) : Nat) : Int)) (fun _ i => s.size - (intOf i).toNat)
  case atStart => exact ⟨0, by omega, rfl, rfl⟩
  case round =>
    obtain ⟨k, hk, rfl, rfl⟩ := hrel
    by_cases hlt : k < s.size
    · obtain ⟨x, hx0⟩ : ∃ x, x = Crc.crcs 4294967295 ((nb s).take k) := ⟨_, rfl⟩
      have hxl : x < 4294967296 := by rw [hx0]; exact crcs_lt_take _ (by omega) s k
      rw [← hx0]
      have HX := Lib.hid hx0
      have hb := s[k].toNat_lt
      clear hx0
      go_wp2_with (go_at_call 13; refine (refstep_any _ _ hxl hb _).mono ?_; rintro e w' ⟨rfl, rfl⟩)
      go_round
      case rel => exact ⟨k + 1, by omega, by go_num, by rw [crcs_take _ s k hlt, ← HX.out]⟩
      case measure => simp [intOf]; omega
    · obtain rfl : k = s.size := by omega
      have e : Crc.crcs 4294967295 ((nb s).take s.size) = crcOf s := by rw [← nb_len s, List.take_length]; rfl
      rw [e]
      clear e
      go_wp2_with fail
      go_ret
      exact ⟨by rw [← crcN_eq]; rfl, rfl⟩

def sums (c : Nat) (ss : List ByteArray) : Nat := ss.foldl (fun c s => Crc.crcs c (nb s)) c
theorem sums_lt (ss : List ByteArray) : ∀ c, c < 4294967296 → sums c ss < 4294967296 := by
  induction ss with
  | nil => intro c h; exact h
  | cons s ss ih => intro c h; exact ih _ (Crc.crcs_lt _ _ h (nb_bytes s))
theorem sums_take (c : Nat) (ss : List ByteArray) (k : Nat) (h : k < ss.length) : sums c (ss.take (k + 1)) = Crc.crcs (sums c (ss.take k)) (nb ss[k]) := by
  unfold sums
  rw [List.take_succ_eq_append_getElem h, List.foldl_append]
  rfl
theorem not_xor (x : Nat) (h : x < 4294967296) : bits .xor .u32 IntKind.u32.max (x : Int) = (4294967295 : Int) - (x : Int) := by
  have := u32_xor_nat 4294967295 x (by omega) h
  rw [not_u32 x h, Nat.xor_comm, Crc.F, ← this]
  rfl

/-- The checksum of texts, one behind the other. -/
def sumN (ss : List ByteArray) : Nat := sums 4294967295 ss ^^^ Crc.F
theorem sumN_eq (ss : List ByteArray) : (4294967295 : Int) - (sums 4294967295 ss : Int) = (sumN ss : Int) := not_u32 _ (sums_lt _ _ (by omega))
theorem sumN_lt (ss : List ByteArray) : sumN ss < 4294967296 := Nat.xor_lt_two_pow (n := 32) (sums_lt _ _ (by omega)) (by decide)
theorem sumN_one (s : ByteArray) : sumN [s] = crcN s := rfl

set_option maxHeartbeats 800000 in
theorem sum_any (ss : List ByteArray) (A : Option Addr) (cap : Nat) (w : World) (H : TextsAt w A ss) :
    Calls Try.prog 10 #[.slice A ss.length cap] w fun e w' => e = .returned (.int .u32 (sumN ss : Nat)) ∧ w = w' := by
  obtain ⟨hlen, hsz, hat⟩ := H
  have hl := sums_lt ss 4294967295 (by omega)
  go_enter Try.func10, Try.ntmps10
  go_wp2_with fail
  go_loop [3, 9] (fun cv i => ∃ k : Nat, k ≤ ss.length ∧ i = .int .i64 k ∧ cv = .int .u32 ((sums 4294967295 (ss.take k) : Nat) : Int)) (fun _ i => ss.length - (intOf i).toNat)
  case atStart => exact ⟨0, by omega, rfl, rfl⟩
  case round =>
    obtain ⟨k, hk, rfl, rfl⟩ := hrel
    by_cases hlt : k < ss.length
    · obtain ⟨ad, rfl, hc⟩ := hat (by omega)
      obtain ⟨s, hs0⟩ : ∃ s, s = ss[k] := ⟨_, rfl⟩
      have hck : w.cell? (ad.add k) = some (.string s) := by rw [hs0]; exact hc k hlt
      have hss : s.size ≤ 9223372036854775807 := by rw [hs0]; exact hsz _ (List.getElem_mem hlt)
      obtain ⟨x, hx0⟩ : ∃ x, x = sums 4294967295 (ss.take k) := ⟨_, rfl⟩
      have hxl : x < 4294967296 := by rw [hx0]; exact sums_lt _ _ (by omega)
      have hst := sums_take 4294967295 ss k hlt
      rw [← hx0, ← hs0] at hst
      have HST := Lib.hid hst
      rw [← hx0]
      clear hx0 hs0 hc hsz hst hat
      go_wp2_with fail
      go_loop [3, 15] (fun cv i => ∃ j : Nat, j ≤ s.size ∧ i = .int .i64 j ∧ cv = .int .u32 ((Crc.crcs x ((nb s).take j) : Nat) : Int)) (fun _ i => s.size - (intOf i).toNat)
      case atStart => exact ⟨0, by omega, rfl, rfl⟩
      case round =>
        obtain ⟨j, hj, rfl, rfl⟩ := hrel
        by_cases hjl : j < s.size
        · obtain ⟨y, hy0⟩ : ∃ y, y = Crc.crcs x ((nb s).take j) := ⟨_, rfl⟩
          have hyl : y < 4294967296 := by rw [hy0]; exact crcs_lt_take _ hxl s j
          rw [← hy0]
          have HY := Lib.hid hy0
          have hb := s[j].toNat_lt
          clear hy0
          go_wp2_with (go_at_call 12; refine (step_any _ _ hyl hb _).mono ?_; rintro e w' ⟨rfl, rfl⟩)
          go_round
          case rel => exact ⟨j + 1, by omega, by go_num, by rw [crcs_take _ s j hjl, ← HY.out]⟩
          case measure => simp [intOf]; omega
        · obtain rfl : j = s.size := by omega
          have e : Crc.crcs x ((nb s).take s.size) = Crc.crcs x (nb s) := by rw [← nb_len s, List.take_length]
          rw [e]
          clear e
          go_wp2_with fail
          go_round
          case rel => exact ⟨k + 1, by omega, by go_num, by rw [HST.out]⟩
          case measure => simp [intOf]; omega
    · obtain rfl : k = ss.length := by omega
      rw [List.take_length]
      clear hat
      go_wp2_with fail
      go_ret
      exact ⟨by rw [← sumN_eq, ← not_xor _ hl]; rfl, rfl⟩

theorem sum1 (s : ByteArray) (hs : s.size ≤ 9223372036854775807) (w : World) (B : Nat) (h : w.cell? ⟨B, 0, none⟩ = some (.string s)) :
    Calls Try.prog 10 #[.slice (some ⟨B, 0, none⟩) 1 1] w fun e w' => e = .returned (.int .u32 (crcN s : Nat)) ∧ w = w' :=
  sum_any [s] _ 1 w ⟨by simp, by simpa using hs, fun _ => ⟨_, rfl, fun j hj => by
    obtain rfl : j = 0 := by simp at hj; omega
    exact h⟩⟩

theorem sum2 (s t : ByteArray) (hs : s.size ≤ 9223372036854775807) (ht : t.size ≤ 9223372036854775807) (w : World) (B : Nat) (h : w.cell? ⟨B, 0, none⟩ = some (.string s)) (h1 : w.cell? ⟨B, 1, none⟩ = some (.string t)) :
    Calls Try.prog 10 #[.slice (some ⟨B, 0, none⟩) 2 2] w fun e w' => e = .returned (.int .u32 (sumN [s, t] : Nat)) ∧ w = w' :=
  sum_any [s, t] _ 2 w ⟨by simp, by simp; exact ⟨hs, ht⟩, fun _ => ⟨_, rfl, fun j hj => by
    match j, hj with
    | 0, _ => exact h
    | 1, _ => exact h1⟩⟩

theorem strOf4 (w : World) (b0 b1 b2 b3 : Int) :
    (convert 31 9 (.slice (some ⟨w.heap.size, 0, none⟩) 4 4)).run Try.prog (w.alloc (.cells #[.int .u8 b0, .int .u8 b1, .int .u8 b2, .int .u8 b3] 5)) =
      .ok (.string (strOfNums [b0, b1, b2, b3])) (w.alloc (.cells #[.int .u8 b0, .int .u8 b1, .int .u8 b2, .int .u8 b3] 5)) := by
  refine run_convert_bytes_arg _ 31 5 Try.underlying31 Try.underlying5 w.heap.size 0 4 4 [b0, b1, b2, b3] rfl (fun i hi => ?_) 9 Try.underlying9
  match i, hi with
  | 0, _ => rw [World.cell?_alloc_at _ _ _ _ rfl]; rfl
  | 1, _ => rw [World.cell?_alloc_at _ _ _ _ rfl]; rfl
  | 2, _ => rw [World.cell?_alloc_at _ _ _ _ rfl]; rfl
  | 3, _ => rw [World.cell?_alloc_at _ _ _ _ rfl]; rfl

/-- A number's four bytes. -/
def put (c : Nat) : ByteArray := strOfNums [(c : Int) % 256, (c : Int) / 256 % 256, (c : Int) / 65536 % 256, (c : Int) / 16777216]

set_option maxHeartbeats 400000 in
theorem put_any (c : Nat) (hc : c < 4294967296) (w : World) :
    Calls Try.prog 14 #[.int .u32 c] w fun e w' => e = .returned (.string (put c)) ∧ Kp w w' := by
  have kc := strOf4 w ((c : Int) % 256) ((c : Int) / 256 % 256) ((c : Int) / 65536 % 256) ((c : Int) / 16777216)
  go_enter Try.func14, Try.ntmps14
  go_wp2
  go_ret
  exact ⟨rfl, Kp.one _ _⟩

def get4 (s : ByteArray) (i : Nat) : Nat := Crc.word (byteAt s i) (byteAt s (i + 1)) (byteAt s (i + 2)) (byteAt s (i + 3))

set_option maxHeartbeats 400000 in
theorem get_no (s : ByteArray) (k : Int) (_hs : s.size ≤ 9223372036854775807) (h : k < 0 ∨ (s.size : Int) < k ∨ (s.size : Int) - k < 4) (w : World) :
    Calls Try.prog 15 #[.string s, .int .i64 k] w fun e w' => e = .returned (.tuple #[.int .u32 0, .bool false]) ∧ w = w' := by
  by_cases h1 : k < 0
  · go_enter Try.func15, Try.ntmps15
    go_wp2
    go_ret2
    exact ⟨rfl, rfl⟩
  by_cases h2 : (s.size : Int) < k
  · go_enter Try.func15, Try.ntmps15
    go_wp2
    go_ret2
    exact ⟨rfl, rfl⟩
  have h3 : (s.size : Int) - k < 4 := by omega
  clear h
  go_enter Try.func15, Try.ntmps15
  go_wp2
  go_ret2
  exact ⟨rfl, rfl⟩

theorem or_add (a b k : Nat) (h : a < 2 ^ k) : a ||| b * 2 ^ k = a + b * 2 ^ k := by
  have := Nat.two_pow_add_eq_or_of_lt h b
  rw [Nat.or_comm, Nat.mul_comm b, ← this, Nat.add_comm]
theorem or4 (a b c d : Nat) (ha : a < 256) (hb : b < 256) (hc : c < 256) (hd : d < 256) :
    bits .or .u32 (bits .or .u32 (bits .or .u32 ((a : Int) % 4294967296) ((b : Int) % 4294967296 * 256 % 4294967296)) ((c : Int) % 4294967296 * 65536 % 4294967296)) ((d : Int) % 4294967296 * 16777216 % 4294967296) = ((Crc.word a b c d : Nat) : Int) := by
  have e0 : (a : Int) % 4294967296 = (a : Nat) := by omega
  have e1 : (b : Int) % 4294967296 * 256 % 4294967296 = ((b * 2 ^ 8 : Nat) : Int) := by omega
  have e2 : (c : Int) % 4294967296 * 65536 % 4294967296 = ((c * 2 ^ 16 : Nat) : Int) := by omega
  have e3 : (d : Int) % 4294967296 * 16777216 % 4294967296 = ((d * 2 ^ 24 : Nat) : Int) := by omega
  rw [e0, e1, e2, e3, u32_or_nat _ _ (by omega) (by omega), or_add a b 8 ha, u32_or_nat _ _ (by omega) (by omega), or_add _ c 16 (by omega), u32_or_nat _ _ (by omega) (by omega), or_add _ d 24 (by omega)]
  unfold Crc.word
  omega
set_option maxHeartbeats 400000 in
theorem get_yes (s : ByteArray) (k : Nat) (hs : s.size ≤ 9223372036854775807) (h : k + 4 ≤ s.size) (w : World) :
    Calls Try.prog 15 #[.string s, .int .i64 k] w fun e w' => e = .returned (.tuple #[.int .u32 (get4 s k : Nat), .bool true]) ∧ ∃ n, w' = w.drewN n := by
  have h1 : ¬ ((k : Int) < 0) := by omega
  have h2 : ¬ ((s.size : Int) < (k : Int)) := by omega
  have h3 : 4 ≤ (s.size : Int) - (k : Int) := by omega
  go_enter Try.func15, Try.ntmps15
  go_wp2
  generalize ht : s.extract k s.size = t
  have ht4 : 4 ≤ t.size := by rw [← ht]; simp; omega
  have HT := Lib.hid ht
  clear ht h h1 h2 h3
  have q0 : 0 < t.size := by omega
  have q1 : (1 : Int) < (t.size : Int) := by omega
  have q2 : (2 : Int) < (t.size : Int) := by omega
  have q3 : (3 : Int) < (t.size : Int) := by omega
  go_quiet (fail)
  go_wp2
  go_ret2
  refine ⟨?_, _, rfl⟩
  have e : Crc.word t[0].toNat t[1].toNat t[2].toNat t[3].toNat = get4 s k := by
    rw [← byteAt_get, ← byteAt_get, ← byteAt_get, ← byteAt_get, ← HT.out, byteAt_drop _ _ _ (by omega), byteAt_drop _ _ _ (by omega), byteAt_drop _ _ _ (by omega), byteAt_drop _ _ _ (by omega)]
    rfl
  have o := or4 _ _ _ _ t[0].toNat_lt t[1].toNat_lt t[2].toNat_lt t[3].toNat_lt
  rw [e] at o
  rw [← o]
  rfl

set_option maxHeartbeats 400000 in
theorem refget_any (s : ByteArray) (k : Nat) (_hs : s.size ≤ 9223372036854775807) (h : k + 4 ≤ s.size) (w : World) :
    Calls Try.prog 16 #[.string s, .int .i64 k] w fun e w' => e = .returned (.int .u32 (get4 s k : Nat)) ∧ ∃ n, w' = w.drewN n := by
  have q0 : k < s.size := by omega
  have q1 : (k : Int) + 1 < (s.size : Int) := by omega
  have q2 : (k : Int) + 2 < (s.size : Int) := by omega
  have q3 : (k : Int) + 3 < (s.size : Int) := by omega
  have w1 : IntKind.i64.wrap ((k : Int) + 1) = (k : Int) + 1 := IntWalk.i64_in _ (by omega)
  have w2 : IntKind.i64.wrap ((k : Int) + 2) = (k : Int) + 2 := IntWalk.i64_in _ (by omega)
  have w3 : IntKind.i64.wrap ((k : Int) + 3) = (k : Int) + 3 := IntWalk.i64_in _ (by omega)
  have n1 : ((k : Int) + 1).toNat = k + 1 := by omega
  have n2 : ((k : Int) + 2).toNat = k + 2 := by omega
  have n3 : ((k : Int) + 3).toNat = k + 3 := by omega
  have p1 : (0 : Int) ≤ (k : Int) + 1 := by omega
  have p2 : (0 : Int) ≤ (k : Int) + 2 := by omega
  have p3 : (0 : Int) ≤ (k : Int) + 3 := by omega
  go_enter Try.func16, Try.ntmps16
  go_wp2
  go_quiet (fail)
  go_wp2
  go_ret
  refine ⟨?_, _, rfl⟩
  have e : Crc.word s[k].toNat s[k + 1].toNat s[k + 2].toNat s[k + 3].toNat = get4 s k := by
    rw [← byteAt_get, ← byteAt_get, ← byteAt_get, ← byteAt_get]
    rfl
  have o := or4 _ _ _ _ s[k].toNat_lt s[k + 1].toNat_lt s[k + 2].toNat_lt s[k + 3].toNat_lt
  rw [e] at o
  rw [← o]
  rfl

end Go.Proofs.Ytinkookmjnflhaa
