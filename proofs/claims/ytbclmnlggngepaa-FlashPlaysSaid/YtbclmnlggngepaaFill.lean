/- Rows of bytes that a call makes; the contracts of the reference's Fill and of cachepotbook.Short. -/
import Derived.Test.YtbclmnlggngepaaPick
import Derived.Laws.ByValue
import Derived.Deep.OwnRows
import Derived.OpenShut
import Derived.WalkSpells
namespace Go.Proofs.Ytbclmnlggngepaa
open Go.RowKit
set_option linter.unusedVariables false

/-- Bytes as values. -/
def vb (xs : List Int) : List Value := xs.map (Value.int .u8)
theorem made_eq (z : Value) (n : Nat) : madeCells #[z] n = (List.replicate n z).toArray := by
  apply Array.ext
  · simp [madeCells]
  · intro i h1 h2
    simp [madeCells, Nat.mod_one]
theorem info_u8 : (Try.prog.info? 5).map (fun i => (i.zero, i.size, i.bytes)) = some (some (.int .u8 0), 1, 1) := by kernel_rfl
theorem make_bytes (n : Nat) (hn : n ≤ 281474976710656) (W : World) : (Instr.makeSlice 53 (.int .i64 (n : Int)) (.int .i64 (n : Int))).run Try.prog W =
    .ok (.slice (some ⟨W.heap.size, 0, none⟩) n n) (W.alloc (.cells (vb (List.replicate n 0)).toArray 5)) := by
  have := run_make_row' (P := Try.prog) 53 5 (.int .u8 0) 1 Try.underlying53 info_u8 rfl .i64 .i64 n (by omega) (by omega) W
  rw [made_eq] at this
  simpa [vb] using this
theorem vb_get (xs : List Int) (i : Nat) (h : i < xs.length) : (vb xs)[i]? = some (.int .u8 xs[i]) := by simp [vb, h]
theorem vb_set (xs : List Int) (i : Nat) (x : Int) : (vb xs).set i (.int .u8 x) = vb (xs.set i x) := by simp [vb, List.map_set]
theorem conv_bk {W : World} {g n : Nat} {zs : List Int} (h : Bk W g 5 (vb zs)) (hz : zs.length = n) :
    (convert 53 9 (.slice (some ⟨g, 0, none⟩) n n)).run Try.prog W = .ok (.string (strOfNums zs)) W :=
  run_convert_bytes_arg W 53 5 Try.underlying53 Try.underlying5 g 0 n n zs hz (fun i hi => by
    have := h.cell (0 + i)
    rw [this, Nat.zero_add, vb_get zs i (by omega), List.getD_eq_getElem?_getD, List.getElem?_eq_getElem (by omega)]
    rfl) 9 Try.underlying9

/-- The row of which k bytes are filled. -/
def frow (b : Int) (n k : Nat) : List Int := List.replicate k b ++ List.replicate (n - k) 0
theorem frow_len (b : Int) (n k : Nat) (h : k ≤ n) : (frow b n k).length = n := by simp [frow]; omega
theorem frow_zero (b : Int) (n : Nat) : frow b n 0 = List.replicate n 0 := by simp [frow]
theorem frow_all (b : Int) (n : Nat) : frow b n n = List.replicate n b := by simp [frow]
theorem frow_set (b : Int) (n k : Nat) (h : k < n) : (frow b n k).set k b = frow b n (k + 1) := by
  apply List.ext_getElem
  · simp [frow]; omega
  · intro i h1 h2
    simp only [frow, List.getElem_set, List.getElem_append, List.length_replicate, List.getElem_replicate]
    by_cases e : k = i
    · subst e; simp
    · rw [if_neg e]
      by_cases e2 : i < k
      · rw [dif_pos e2, dif_pos (by omega)]
      · rw [dif_neg e2, dif_neg (by omega)]
/-- So many bytes of one kind. -/
def fillS (b : Int) (n : Nat) : ByteArray := strOfNums (List.replicate n b)
theorem fillS_size (b : Int) (n : Nat) : (fillS b n).size = n := by
  show (fillS b n).data.size = n
  unfold fillS
  rw [← Array.length_toList, strOfNums_data]; simp

set_option maxHeartbeats 800000 in
theorem fill_nn (b : Int) (n : Nat) (hn : n ≤ 140737488351232) (w : World) :
    Calls Try.prog 16 #[.int .u8 b, .int .i64 (n : Int)] w fun e w' => e = .returned (.string (fillS b n)) ∧ Kp w w' := by
  have hmk := make_bytes n (by omega)
  go_enter Try.func16, Try.ntmps16
  go_wp2_with fail
  have hB := Bk.new w 5 (vb (List.replicate n 0))
  have hK := Kp.one w (.cells (vb (List.replicate n 0)).toArray 5)
  generalize hw1 : w.alloc (.cells (vb (List.replicate n 0)).toArray 5) = w1 at hB hK ⊢
  clear hw1 hmk
  go_loopw [6] (fun i wr => ∃ k : Nat, k ≤ n ∧ i = .int .i64 k ∧ Bk wr w.heap.size 5 (vb (frow b n k)) ∧ Kp w wr) (fun i _ => n - (intOf i).toNat)
  case atStart => exact ⟨0, by omega, rfl, by rw [frow_zero]; exact hB, hK⟩
  case round =>
    obtain ⟨k, hk, rfl, hBr, hKr⟩ := hrel
    clear hB hK
    by_cases hlt : k < n
    · have hcell := hBr.cell k
      rw [vb_get _ _ (by rw [frow_len _ _ _ hk]; exact hlt)] at hcell
      have hfree := hBr.free k
      go_wp2_with fail
      have hput := (hBr.put k (.int .u8 b))
      rw [vb_set, frow_set b n k hlt] at hput
      go_roundw
      case rel => exact ⟨k + 1, by omega, by go_num, hput, (hKr.set (Nat.le_refl _) _)⟩
      case measure => simp [intOf]; omega
    · obtain rfl : k = n := by omega
      rw [frow_all] at hBr
      have hcv := conv_bk (n := k) hBr (by simp)
      go_wp2_with fail
      go_ret
      exact ⟨rfl, hKr⟩
set_option maxHeartbeats 800000 in
theorem fill_neg (b : Int) (N : Int) (hN : N < 0) (hlo : -9223372036854775808 ≤ N) (w : World) :
    Calls Try.prog 16 #[.int .u8 b, .int .i64 N] w fun e w' => e = .returned (.string ⟨#[]⟩) ∧ Kp w w' := by
  have hmk := make_bytes 0 (by omega)
  rw [show ((0 : Nat) : Int) = 0 from rfl, List.replicate_zero] at hmk
  have hB := Bk.new w 5 (vb [])
  have hcv := conv_bk (n := 0) hB rfl
  have hK := Kp.one w (.cells (vb []).toArray 5)
  go_enter Try.func16, Try.ntmps16
  go_wp2_with fail
  generalize hw1 : w.alloc (.cells (vb []).toArray 5) = w1 at hB hK hcv ⊢
  go_loop [6] (fun i => i = .int .i64 0) (fun i => 0)
  case atStart => exact rfl
  case round =>
    subst hrel
    go_wp2_with fail
    go_ret
    exact ⟨rfl, hK⟩
theorem fillS_zero (b : Int) : fillS b 0 = ⟨#[]⟩ := rfl
/-- Fill of any number that is not too great. -/
theorem fill_any (b : Int) (N : Int) (hlo : -9223372036854775808 ≤ N) (hhi : N ≤ 140737488351232) (w : World) :
    Calls Try.prog 16 #[.int .u8 b, .int .i64 N] w fun e w' => e = .returned (.string (fillS b N.toNat)) ∧ Kp w w' := by
  by_cases h : 0 ≤ N
  · have := fill_nn b N.toNat (by omega) w
    rwa [Int.toNat_of_nonneg h] at this
  · have := fill_neg b N (by omega) hlo w
    rwa [show N.toNat = 0 by omega, fillS_zero]
theorem extract_all (s : ByteArray) : s.extract 0 s.size = s := by
  apply ByteArray.ext
  rw [ByteArray.data_extract]
  exact Array.extract_eq_self_of_le (Nat.le_refl _)
theorem short_any (s : ByteArray) (n : Nat) (hs : s.size ≤ 9223372036854775807) (hn : n ≤ 9223372036854775807) (w : World) :
    Calls Try.prog 19 #[.string s, .int .i64 (n : Int)] w fun e w' => e = .returned (.string (s.extract 0 n)) ∧ w = w' := by
  by_cases h : s.size ≤ n
  · have e : s.extract 0 n = s := by
      apply ByteArray.ext
      rw [ByteArray.data_extract]
      exact Array.extract_eq_self_of_le (show s.data.size ≤ n from h)
    rw [e]
    go_enter Try.func19, Try.ntmps19
    go_wp2
    go_ret
    exact ⟨by first | rfl | rw [extract_all], rfl⟩
  · go_enter Try.func19, Try.ntmps19
    go_wp2
    go_ret
    exact ⟨by first | rfl | simp, rfl⟩
end Go.Proofs.Ytbclmnlggngepaa
