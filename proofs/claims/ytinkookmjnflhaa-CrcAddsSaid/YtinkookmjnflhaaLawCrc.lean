/- The walks of the statements of chapter 1. -/
import Derived.Test.YtinkookmjnflhaaCrcWalk
import Derived.OpenShut
namespace Go.Proofs.Ytinkookmjnflhaa
open Go.RowKit
set_option linter.unusedVariables false

theorem one_cell (w : World) (a : Value) (t : TypeId) : (w.alloc (.cells #[a] t)).cell? ⟨w.heap.size, 0, none⟩ = some a := by
  rw [World.cell?_alloc_at _ _ _ _ rfl]; rfl
theorem sum_nine (w : World) (B : Nat) (h : w.cell? ⟨B, 0, none⟩ = some (.string ⟨#[49, 50, 51, 52, 53, 54, 55, 56, 57]⟩)) :
    Calls Try.prog 10 #[.slice (some ⟨B, 0, none⟩) 1 1] w fun e w' => e = .returned (.int .u32 3421780262) ∧ w = w' := by
  have := sum1 ⟨#[49, 50, 51, 52, 53, 54, 55, 56, 57]⟩ (by decide) w B h
  rw [show crcN ⟨#[49, 50, 51, 52, 53, 54, 55, 56, 57]⟩ = 3421780262 from by decide +kernel] at this
  exact this
theorem put_one (w : World) :
    Calls Try.prog 14 #[.int .u32 1] w fun e w' => e = .returned (.string ⟨#[1, 0, 0, 0]⟩) ∧ Kp w w' := by
  have := put_any 1 (by omega) w
  rw [show put 1 = ⟨#[1, 0, 0, 0]⟩ from by decide +kernel] at this
  exact this

set_option maxHeartbeats 400000 in
theorem alive_any (w : World) : Calls Try.prog 9 #[] w fun e w' => e = .returned (.bool true) ∧ Kp w w' := by
  go_enter Try.func9, Try.ntmps9
  go_wp2_with (first
    | (go_at_call 10; refine (sum_nine _ _ (one_cell _ _ _)).mono ?_; rintro e w' ⟨rfl, rfl⟩)
    | (go_at_call 14; refine (put_one _).mono ?_; rintro e w1 ⟨rfl, hk1⟩))
  go_ret
  exact ⟨rfl, (Kp.one _ _).trans hk1⟩

theorem put_size (c : Nat) : (put c).size = 4 := rfl
theorem nb_put (c : Nat) (h : c < 4294967296) : nb (put c) = [c % 256, c / 256 % 256, c / 65536 % 256, c / 16777216] := by
  have e : ∀ x : Nat, x < 256 → (UInt8.ofNat x).toNat = x := fun x hx => by simp [UInt8.toNat_ofNat']; omega
  have k0 : ((c : Int) % 256).toNat = c % 256 := by omega
  have k1 : ((c : Int) / 256 % 256).toNat = c / 256 % 256 := by omega
  have k2 : ((c : Int) / 65536 % 256).toNat = c / 65536 % 256 := by omega
  have k3 : ((c : Int) / 16777216).toNat = c / 16777216 := by omega
  unfold nb put
  rw [strOfNums_data]
  simp only [List.map_cons, List.map_nil, k0, k1, k2, k3]
  rw [e _ (by omega), e _ (by omega), e _ (by omega), e _ (by omega)]
theorem put_word (c : Nat) (h : c < 4294967296) : Crc.word (c % 256) (c / 256 % 256) (c / 65536 % 256) (c / 16777216) = c := by unfold Crc.word; omega
theorem tail_law (s : ByteArray) : sumN [s, put (crcN s)] = 558161692 := by
  have hl := crcN_lt s
  unfold sumN sums
  simp only [List.foldl_cons, List.foldl_nil]
  rw [nb_put _ hl]
  exact Crc.tail (crcOf s) _ _ _ _ (by omega) (by omega) (by omega) (put_word _ hl)

theorem two_cells (w : World) (a b : Value) (t : TypeId) : (w.alloc (.cells #[a, b] t)).cell? ⟨w.heap.size, 0, none⟩ = some a ∧ (w.alloc (.cells #[a, b] t)).cell? ⟨w.heap.size, 1, none⟩ = some b := by
  constructor <;> (rw [World.cell?_alloc_at _ _ _ _ rfl]; rfl)
theorem sum_tail (s : ByteArray) (hs : s.size ≤ 140737488351232) (w : World) :
    Calls Try.prog 10 #[.slice (some ⟨w.heap.size, 0, none⟩) 2 2] (w.alloc (.cells #[.string s, .string (put (crcN s))] 9)) fun e w' => e = .returned (.int .u32 558161692) ∧ w.alloc (.cells #[.string s, .string (put (crcN s))] 9) = w' := by
  have := sum2 s (put (crcN s)) (by omega) (by rw [put_size]; omega) _ _ (two_cells w (.string s) (.string (put (crcN s))) 9).1 (two_cells w (.string s) (.string (put (crcN s))) 9).2
  rw [tail_law s] at this
  exact this

set_option maxHeartbeats 400000 in
theorem CrcTail_walk (w : World) (s : ByteArray) (hs : s.size ≤ 140737488351232) :
    Calls Try.prog 6 #[.string s] w fun e w' => e = .returned (.bool true) ∧ Kp w w' := by
  go_enter Try.func6, Try.ntmps6
  go_wp2_with fail
  refine (alive_any _).mono ?_
  rintro e w1 ⟨rfl, hk1⟩
  go_wp2_with fail
  refine (sum1 s (by omega) _ _ (one_cell _ _ _)).mono ?_
  rintro e w2 ⟨rfl, rfl⟩
  go_wp2_with fail
  refine (put_any _ (crcN_lt s) _).mono ?_
  rintro e w2 ⟨rfl, hk2⟩
  go_wp2_with fail
  refine (sum_tail s hs _).mono ?_
  rintro e w2 ⟨rfl, rfl⟩
  go_wp2_with fail
  go_ret
  exact ⟨rfl, (hk1.alloc _).trans (hk2.alloc _)⟩

set_option maxHeartbeats 400000 in
theorem CrcSteps_walk (w : World) (c : Int) (wc : (Lit.int .u32 c).wf = true) (b : Int) (wb : (Lit.int .u8 b).wf = true) (s : ByteArray) (hs : s.size ≤ 140737488351232) :
    Calls Try.prog 4 #[.int .u32 c, .int .u8 b, .string s] w fun e w' => e = .returned (.bool true) ∧ Kp w w' := by
  have bc := bounds_u32 wc
  have bb := bounds_u8 wb
  obtain ⟨n, rfl⟩ : ∃ n : Nat, c = n := ⟨c.toNat, by omega⟩
  obtain ⟨m, rfl⟩ : ∃ n : Nat, b = n := ⟨b.toNat, by omega⟩
  clear wc wb
  have hn : n < 4294967296 := by omega
  have hm : m < 256 := by omega
  go_enter Try.func4, Try.ntmps4
  go_wp2_with fail
  refine (alive_any _).mono ?_
  rintro e w1 ⟨rfl, hk1⟩
  go_wp2_with fail
  refine (step_any _ _ hn hm _).mono ?_
  rintro e w2 ⟨rfl, rfl⟩
  go_wp2_with fail
  refine (refstep_any _ _ hn hm _).mono ?_
  rintro e w2 ⟨rfl, rfl⟩
  go_wp2_with fail
  go_loop [7, 8] (fun cv i => ∃ j : Nat, j ≤ s.size ∧ i = .int .i64 j ∧ cv = .int .u32 ((Crc.crcs 4294967295 ((nb s).take j) : Nat) : Int)) (fun _ i => s.size - (intOf i).toNat)
  case atStart => exact ⟨0, by omega, rfl, rfl⟩
  case round =>
    obtain ⟨j, hj, rfl, rfl⟩ := hrel
    by_cases hjl : j < s.size
    · obtain ⟨y, hy0⟩ : ∃ y, y = Crc.crcs 4294967295 ((nb s).take j) := ⟨_, rfl⟩
      have hyl : y < 4294967296 := by rw [hy0]; exact crcs_lt_take _ (by omega) s j
      rw [← hy0]
      have HY := Lib.hid hy0
      have hb := s[j].toNat_lt
      clear hy0
      go_wp2_with (go_at_call 12; refine (step_any _ _ hyl hb _).mono ?_; rintro e w' ⟨rfl, rfl⟩)
      go_round
      case rel => exact ⟨j + 1, by omega, by go_num, by rw [crcs_take _ s j hjl, ← HY.out]⟩
      case measure => simp [intOf]; omega
    · obtain rfl : j = s.size := by omega
      have e : Crc.crcs 4294967295 ((nb s).take s.size) = crcOf s := by rw [← nb_len s, List.take_length]; rfl
      rw [e]
      clear e
      have hl := crcOf_lt s
      have hf : ((crcN s : Int) == 4294967295 - (crcOf s : Int)) = true := by rw [crcN_eq]; simp
      go_wp2_with fail
      refine (sum1 s (by omega) _ _ (one_cell _ _ _)).mono ?_
      rintro e w2 ⟨rfl, rfl⟩
      go_wp2_with fail
      go_ret
      exact ⟨by rw [← hf]; rfl, hk1.alloc _⟩

theorem nb_sp (a m b : ByteArray) (i : Nat) (h : i < m.size) : byteAt (a ++ m ++ b) (a.size + i) = byteAt m i := by
  unfold byteAt
  rw [nb_append, nb_append, List.append_assoc, List.getD_eq_getElem?_getD, List.getElem?_append_right (by rw [nb_len]; omega), nb_len,
    show a.size + i - a.size = i by omega, List.getElem?_append_left (by rw [nb_len]; exact h), List.getD_eq_getElem?_getD]
theorem get4_put (a b : ByteArray) (c : Nat) (h : c < 4294967296) : get4 (a ++ put c ++ b) a.size = c := by
  unfold get4
  have e : ∀ i, i < 4 → byteAt (a ++ put c ++ b) (a.size + i) = byteAt (put c) i := fun i hi => nb_sp a (put c) b i (by rw [put_size]; exact hi)
  have e0 := e 0 (by omega)
  rw [Nat.add_zero] at e0
  rw [e0, e 1 (by omega), e 2 (by omega), e 3 (by omega)]
  unfold byteAt
  rw [nb_put c h]
  exact put_word c h
theorem get4_lt (s : ByteArray) (k : Nat) : get4 s k < 4294967296 := Crc.word_lt _ _ _ _ (byteAt_lt _ _) (byteAt_lt _ _) (byteAt_lt _ _) (byteAt_lt _ _)

theorem get_back (a b : ByteArray) (c : Nat) (h : c < 4294967296) (ha : a.size ≤ 140737488351232) (hb : b.size ≤ 140737488351232) (w : World) :
    Calls Try.prog 15 #[.string (a ++ put c ++ b), .int .i64 (a.size : Int)] w fun e w' => e = .returned (.tuple #[.int .u32 (c : Int), .bool true]) ∧ Kp w w' := by
  have hz : (a ++ put c ++ b).size = a.size + 4 + b.size := by rw [ByteArray.size_append, ByteArray.size_append, put_size]
  have := get_yes (a ++ put c ++ b) a.size (by omega) (by omega) w
  rw [get4_put a b c h] at this
  exact this.mono fun e w' ⟨he, n, hw⟩ => ⟨he, hw ▸ (Kp.refl w).drewN n⟩

set_option maxHeartbeats 800000 in
theorem CrcBytes_head (c : Nat) (hc : c < 4294967296) (a : ByteArray) (ha : a.size ≤ 140737488351232) (b : ByteArray) (hb : b.size ≤ 140737488351232) (k : Int) (wk : (Lit.int .i64 k).wf = true) (w : World) :
    Calls Try.prog 8 #[.int .u32 c, .string a, .string b, .int .i64 k] w fun e w' => e = .returned (.bool true) ∧ Kp w w' := by
  have bk := bounds_i64 wk
  clear wk
  have hps := put_size c
  by_cases h : k < 0 ∨ (b.size : Int) < k ∨ (b.size : Int) - k < 4
  · rcases Classical.em (k < 0) with h1 | h1
    all_goals rcases Classical.em ((b.size : Int) < k) with h2 | h2
    all_goals rcases Classical.em ((b.size : Int) - k < 4) with h3 | h3
    all_goals try omega
    all_goals
      have H := Lib.hid h
      clear h
      go_enter Try.func8, Try.ntmps8
      go_wp2_with fail
      refine (put_any _ hc _).mono ?_
      rintro e w1 ⟨rfl, hk1⟩
      go_wp2_with fail
      refine (get_back a b c hc ha hb _).mono ?_
      rintro e w2 ⟨rfl, hk2⟩
      go_wp2_with fail
      refine (alive_any _).mono ?_
      rintro e w3 ⟨rfl, hk3⟩
      go_wp2_with fail
      refine (put_any _ hc _).mono ?_
      rintro e w4 ⟨rfl, hk4⟩
      go_wp2_with fail
      refine (get_no b k (by omega) H.out _).mono ?_
      rintro e w5 ⟨rfl, rfl⟩
      go_wp2_with fail
      go_ret
      exact ⟨rfl, ((hk1.trans hk2).trans hk3).trans hk4⟩
  · obtain ⟨j, rfl⟩ : ∃ j : Nat, k = j := ⟨k.toNat, by omega⟩
    have h1 : ¬ ((j : Int) < 0) := by omega
    have h2 : ¬ ((b.size : Int) < (j : Int)) := by omega
    have h3 : 4 ≤ (b.size : Int) - (j : Int) := by omega
    have hj : j + 4 ≤ b.size := by omega
    clear h
    go_enter Try.func8, Try.ntmps8
    go_wp2_with fail
    refine (put_any _ hc _).mono ?_
    rintro e w1 ⟨rfl, hk1⟩
    go_wp2_with fail
    refine (get_back a b c hc ha hb _).mono ?_
    rintro e w2 ⟨rfl, hk2⟩
    go_wp2_with fail
    refine (alive_any _).mono ?_
    rintro e w3 ⟨rfl, hk3⟩
    go_wp2_with fail
    refine (put_any _ hc _).mono ?_
    rintro e w4 ⟨rfl, hk4⟩
    go_wp2_with fail
    refine (get_yes b j (by omega) hj _).mono ?_
    rintro e w5 ⟨rfl, n5, rfl⟩
    go_wp2_with fail
    refine (refget_any b j (by omega) hj _).mono ?_
    rintro e w6 ⟨rfl, n6, rfl⟩
    go_wp2_with fail
    go_ret
    exact ⟨rfl, (((hk1.trans hk2).trans hk3).trans hk4).drewN _⟩
theorem CrcBytes_walk (w : World) (c : Int) (wc : (Lit.int .u32 c).wf = true) (a : ByteArray) (ha : a.size ≤ 140737488351232) (b : ByteArray) (hb : b.size ≤ 140737488351232) (k : Int) (wk : (Lit.int .i64 k).wf = true) :
    Calls Try.prog 8 #[.int .u32 c, .string a, .string b, .int .i64 k] w fun e w' => e = .returned (.bool true) ∧ Kp w w' := by
  have bc := bounds_u32 wc
  obtain ⟨n, rfl⟩ : ∃ n : Nat, c = n := ⟨c.toNat, by omega⟩
  exact CrcBytes_head n (by omega) a ha b hb k wk w

def cat (ss : List ByteArray) : ByteArray := ss.foldl (· ++ ·) ⟨#[]⟩
theorem cat_take (ss : List ByteArray) (k : Nat) (h : k < ss.length) : cat (ss.take (k + 1)) = cat (ss.take k) ++ ss[k] := by
  unfold cat
  rw [List.take_succ_eq_append_getElem h, List.foldl_append]
  rfl
theorem nb_cat (ss : List ByteArray) : nb (cat ss) = ss.flatMap nb := by
  have : ∀ (ss : List ByteArray) (a : ByteArray), nb (ss.foldl (· ++ ·) a) = nb a ++ ss.flatMap nb := by
    intro ss
    induction ss with
    | nil => intro a; simp
    | cons s ss ih => intro a; rw [List.foldl_cons, ih, nb_append]; simp
  unfold cat
  rw [this]
  rfl
theorem sums_cat (ss : List ByteArray) : ∀ c, sums c ss = Crc.crcs c (ss.flatMap nb) := by
  induction ss with
  | nil => intro c; rfl
  | cons s ss ih => intro c; show sums (Crc.crcs c (nb s)) ss = _; rw [ih, List.flatMap_cons, Crc.crcs_append]
theorem sumN_cat (ss : List ByteArray) : sumN ss = crcN (cat ss) := by
  unfold sumN crcN crcOf
  rw [sums_cat, nb_cat]
theorem cat_size (ss : List ByteArray) : (cat ss).size ≤ (ss.map fun s => s.size + 1).sum := by
  rw [← nb_len, nb_cat, List.length_flatMap]
  induction ss with
  | nil => simp
  | cons s ss ih => simp only [List.map_cons, List.sum_cons, nb_len] at ih ⊢; omega
theorem sum_take_le (ss : List ByteArray) (k : Nat) : ((ss.take k).map fun s => s.size + 1).sum ≤ (ss.map fun s => s.size + 1).sum := by
  have := List.take_append_drop k ss
  have h : (ss.map fun s => s.size + 1).sum = ((ss.take k).map fun s => s.size + 1).sum + ((ss.drop k).map fun s => s.size + 1).sum := by
    rw [← List.sum_append, ← List.map_append, this]
  omega
theorem mem_sum_le (ss : List ByteArray) (k : Nat) (h : k < ss.length) : ss[k].size ≤ (ss.map fun s => s.size + 1).sum := by
  have h1 := sum_take_le ss (k + 1)
  rw [List.take_succ_eq_append_getElem h, List.map_append, List.sum_append] at h1
  simp at h1
  omega

theorem sum_all (ss : List ByteArray) (A : Option Addr) (cap : Nat) (w : World) (H : TextsAt w A ss) :
    Calls Try.prog 10 #[.slice A ss.length cap] w fun e w' => e = .returned (.int .u32 (crcN (cat ss) : Nat)) ∧ w = w' := by
  have := sum_any ss A cap w H
  rwa [sumN_cat] at this

set_option maxHeartbeats 800000 in
theorem CrcTells_walk (w : World) (A : Option Addr) (cap : Nat) (ss : List ByteArray) (H : TextsAt w A ss) (hs : ∀ s ∈ ss, s.size ≤ 140737488351232) (hl : ss.length * 16 ≤ 140737488351232) (bulk : (ss.map fun s => s.size + 1).sum ≤ 1048576) :
    Calls Try.prog 3 #[.slice A ss.length cap] w fun e w' => e = .returned (.bool true) ∧ Kp w w' := by
  go_enter Try.func3, Try.ntmps3
  go_wp2_with fail
  refine (alive_any _).mono ?_
  rintro e w1 ⟨rfl, hk1⟩
  have H1 := H.keep hk1
  go_wp2_with fail
  go_loop [3, 4] (fun av i => ∃ k : Nat, k ≤ ss.length ∧ i = .int .i64 k ∧ av = .string (cat (ss.take k))) (fun _ i => ss.length - (intOf i).toNat)
  case atStart => exact ⟨0, by omega, rfl, rfl⟩
  case round =>
    obtain ⟨k, hk, rfl, rfl⟩ := hrel
    by_cases hlt : k < ss.length
    · obtain ⟨ad, rfl, hc⟩ := H1.2.2 (by omega)
      have hck := hc k hlt
      have hb1 := Nat.le_trans (cat_size (ss.take k)) (sum_take_le ss k)
      have hb2 := mem_sum_le ss k hlt
      have hct := Lib.hid (cat_take ss k hlt)
      generalize ss[k] = s at *
      generalize cat (ss.take k) = a at *
      clear hc
      go_wp2_with fail
      go_round
      case rel => exact ⟨k + 1, by omega, by go_num, by rw [hct.out]⟩
      case measure => simp [intOf]; omega
    · obtain rfl : k = ss.length := by omega
      rw [List.take_length]
      have hcs := Nat.le_trans (cat_size ss) bulk
      go_wp2_with fail
      refine (sum_all ss A cap _ H1).mono ?_
      rintro e w2 ⟨rfl, rfl⟩
      go_wp2_with fail
      refine (refcrc_any _ (by omega) _).mono ?_
      rintro e w2 ⟨rfl, rfl⟩
      go_wp2_with fail
      refine (sum1 _ (by omega) _ _ (one_cell _ _ _)).mono ?_
      rintro e w2 ⟨rfl, rfl⟩
      go_wp2_with fail
      refine (refcrc_any _ (by omega) _).mono ?_
      rintro e w2 ⟨rfl, rfl⟩
      go_wp2_with fail
      go_ret
      exact ⟨rfl, hk1.alloc _⟩
end Go.Proofs.Ytinkookmjnflhaa
