/- A page with one byte turned is no frame. -/
import Derived.Test.YtdolclmeflaipaaFrBack2
namespace Go.Proofs.Ytdolclmeflaipaa
open Go.RowKit
set_option linter.unusedVariables false
theorem crcs_one (l : List Nat) (i v c : Nat) (hc : c < 2^32) (hl : Crc.Bytes l) (hv : v < 256) (hi : i < l.length) (h : Crc.crcs c (l.set i v) = Crc.crcs c l) : v = l[i] := by
  have e1 : l = l.take i ++ l[i] :: l.drop (i + 1) := by rw [List.getElem_cons_drop, List.take_append_drop]
  have e2 : l.set i v = l.take i ++ v :: l.drop (i + 1) := by rw [List.set_eq_take_append_cons_drop, if_pos hi]
  have h' : Crc.crcs c (l.take i ++ v :: l.drop (i + 1)) = Crc.crcs c (l.take i ++ l[i] :: l.drop (i + 1)) := by rw [← e2, ← e1]; exact h
  rw [Crc.crcs_append, Crc.crcs_append, Crc.crcs_cons, Crc.crcs_cons] at h'
  have hp : Crc.Bytes (l.take i) := fun b hb => hl b (List.mem_of_mem_take hb)
  have hq : Crc.Bytes (l.drop (i + 1)) := fun b hb => hl b (List.mem_of_mem_drop hb)
  have hli : l[i] < 256 := hl _ (List.getElem_mem hi)
  have c1 := Crc.crcs_lt (l.take i) c hc hp
  have x1 : Crc.crcs c (l.take i) ^^^ v < 2^32 := Nat.xor_lt_two_pow c1 (by omega)
  have x2 : Crc.crcs c (l.take i) ^^^ l[i] < 2^32 := Nat.xor_lt_two_pow c1 (by omega)
  have h2 := Crc.crcs_inj _ _ _ (Crc.s8_lt _ x1) (Crc.s8_lt _ x2) hq h'
  have h3 := Crc.s8_inj _ _ x1 x2 h2
  have h4 : (Crc.crcs c (l.take i) ^^^ v) ^^^ (Crc.crcs c (l.take i) ^^^ l[i]) = 0 := by rw [h3, Nat.xor_self]
  apply Crc.xor_eq0
  rw [← h4]
  generalize Crc.crcs c (l.take i) = x
  rw [Nat.xor_comm x v, Nat.xor_assoc, ← Nat.xor_assoc x x, Nat.xor_self, Nat.zero_xor]
/-- The text with a byte put. -/
def setB (s : ByteArray) (i v : Nat) : ByteArray := strN ((nb s).set i v)
section
variable {s : ByteArray} {i v : Nat}
theorem setB_nb (hv : v < 256) : nb (setB s i v) = (nb s).set i v := by
  unfold setB
  rw [nb_strN]
  intro n hn
  rcases List.mem_or_eq_of_mem_set hn with h | h
  · exact nb_lt s n h
  · omega
theorem setB_size : (setB s i v).size = s.size := by unfold setB; rw [strN_size, List.length_set, nb_len]
theorem setB_far (hv : v < 256) (j : Nat) (h : j ≠ i) : byteAt (setB s i v) j = byteAt s j := by
  unfold byteAt
  rw [setB_nb hv, List.getD_eq_getElem?_getD, List.getD_eq_getElem?_getD, List.getElem?_set_ne (Ne.symm h)]
theorem setB_sum (hs : 32 ≤ s.size) (hi : i < s.size) (hv : v < 256) (hne : v ≠ byteAt s i) (h : SumOk s) : ¬ SumOk (setB s i v) := by
  intro h2
  have hsz := setB_size (s := s) (i := i) (v := v)
  have hil : i < (nb s).length := by rw [nb_len]; exact hi
  have hbi : byteAt s i = (nb s)[i] := by unfold byteAt; rw [List.getD_eq_getElem?_getD, List.getElem?_eq_getElem hil]; rfl
  unfold SumOk at h h2
  rw [hsz] at h2
  by_cases hc : i < s.size - 4
  · have e1 : get4 (setB s i v) (s.size - 4) = get4 s (s.size - 4) := by
      unfold get4
      rw [setB_far hv _ (by omega), setB_far hv _ (by omega), setB_far hv _ (by omega), setB_far hv _ (by omega)]
    rw [e1, h] at h2
    have h3 : crcOf (s.extract 0 (s.size - 4)) = crcOf ((setB s i v).extract 0 (s.size - 4)) := by
      unfold crcN at h2
      have := congrArg (· ^^^ Crc.F) h2
      simpa [Nat.xor_assoc] using this
    unfold crcOf at h3
    rw [nb_extract, nb_extract, setB_nb hv, List.drop_zero, List.drop_zero, Nat.sub_zero, List.take_set] at h3
    have hl9 : i < ((nb s).take (s.size - 4)).length := by rw [List.length_take, nb_len]; omega
    have := crcs_one _ i v _ (by omega) (fun b hb => nb_lt s b (List.mem_of_mem_take hb)) hv hl9 h3.symm
    rw [List.getElem_take] at this
    exact hne (this.trans hbi.symm)
  · have e1 : (setB s i v).extract 0 (s.size - 4) = s.extract 0 (s.size - 4) := by
      apply nb_inj
      rw [nb_extract, nb_extract, setB_nb hv, List.drop_zero, List.drop_zero, Nat.sub_zero, List.take_set_of_le (by omega)]
    rw [e1, ← h] at h2
    unfold get4 at h2
    have b0 := fun j => byteAt_lt s j
    have b1 := fun j => byteAt_lt (setB s i v) j
    have c0 := b0 (s.size - 4); have c1 := b0 (s.size - 4 + 1); have c2 := b0 (s.size - 4 + 2); have c3 := b0 (s.size - 4 + 3)
    have d0 := b1 (s.size - 4); have d1 := b1 (s.size - 4 + 1); have d2 := b1 (s.size - 4 + 2); have d3 := b1 (s.size - 4 + 3)
    unfold Crc.word at h2
    have key : ∀ j, j = s.size - 4 ∨ j = s.size - 4 + 1 ∨ j = s.size - 4 + 2 ∨ j = s.size - 4 + 3 → byteAt (setB s i v) j = byteAt s j := by
      rintro j (rfl | rfl | rfl | rfl) <;> omega
    have hii : byteAt (setB s i v) i = byteAt s i := key i (by omega)
    have hiv : byteAt (setB s i v) i = v := by
      unfold byteAt
      rw [setB_nb hv, List.getD_eq_getElem?_getD, List.getElem?_set_self hil]
      rfl
    exact hne (hiv.symm.trans hii)
end
theorem turned_no {n k a b : Int} {t : ByteArray} (h : PgOk n k a b t) (i : Nat) (hi : (i : Int) < n) (y : Nat) (hy : y < 256) (hy0 : y ≠ 0) :
    readF (setB (pageS n k a b t) i (byteAt (pageS n k a b t) i ^^^ y)) = (noFr, 5) := by
  have hsz := pageS_size h
  obtain ⟨f1, f2, -, -, -, -⟩ := back_fields h
  obtain ⟨hs, -⟩ := back_sum h
  have hn1 := h.n1
  have hn2 := h.n2
  have hk1 := h.k1
  have hk2 := h.k2
  generalize pageS n k a b t = X at *
  have hv : byteAt X i ^^^ y < 256 := Nat.xor_lt_two_pow (n := 8) (byteAt_lt X i) hy
  have hne : byteAt X i ^^^ y ≠ byteAt X i := by
    intro e
    have : (byteAt X i ^^^ y) ^^^ byteAt X i = 0 := by rw [e, Nat.xor_self]
    rw [Nat.xor_comm (byteAt X i) y, Nat.xor_assoc, Nat.xor_self, Nat.xor_zero] at this
    exact hy0 this
  have hsum := setB_sum (s := X) (by omega) (by omega) hv hne hs
  have hbl : blankB (setB X i (byteAt X i ^^^ y)) = false := by
    by_cases h0 : i = 0
    · refine not_blank _ 10 (by rw [setB_size]; omega) ?_
      rw [setB_far hv 10 (by omega), f2]
      omega
    · refine not_blank _ 0 (by rw [setB_size]; omega) ?_
      rw [setB_far hv 0 (by omega)]
      unfold fKind at f1
      omega
  unfold readF
  rw [if_neg (by rw [setB_size]; omega), if_neg (by rw [hbl]; simp), if_pos hsum]
end Go.Proofs.Ytdolclmeflaipaa
