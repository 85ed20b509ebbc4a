/- Merged texts: FrRoom, FrBack, FrBack2, FrTurn, FrTurn2, FrTorn. -/
import Derived.Test.YtecelmhiffcaeaaGE
set_option linter.unusedSimpArgs false
set_option linter.unusedVariables false
/- FrameRoom. -/
namespace Go.Proofs.Ytecelmhiffcaeaa
open Go.RowKit
set_option linter.unusedVariables false
set_option maxRecDepth 20000
end Go.Proofs.Ytecelmhiffcaeaa
/- 'shaped'; FrameBack. -/
namespace Go.Proofs.Ytecelmhiffcaeaa
open Go.RowKit
set_option linter.unusedVariables false
set_option maxRecDepth 20000
theorem put4 {w w1 : World} {g : Nat} {t : TypeId} {a b c d : Value} (h : Bk w1 g t [a, b, c, d]) (hK : Kp w w1) (hg : w.heap.size ≤ g) (x y z u : Value) :
    Bk ((((w1.setCell ⟨g, 0, none⟩ x).setCell ⟨g, 1, none⟩ y).setCell ⟨g, 2, none⟩ z).setCell ⟨g, 3, none⟩ u) g t [x, y, z, u] ∧ Kp w ((((w1.setCell ⟨g, 0, none⟩ x).setCell ⟨g, 1, none⟩ y).setCell ⟨g, 2, none⟩ z).setCell ⟨g, 3, none⟩ u) :=
  ⟨(((h.put 0 x).put 1 y).put 2 z).put 3 u, (((hK.set (p := ⟨g, 0, none⟩) hg x).set (p := ⟨g, 1, none⟩) hg y).set (p := ⟨g, 2, none⟩) hg z).set (p := ⟨g, 3, none⟩) hg u⟩
theorem far4 {w1 : World} {g g' : Nat} {t : TypeId} {cs : List Value} (h : Bk w1 g' t cs) (hn : g' ≠ g) (x y z u : Value) :
    Bk ((((w1.setCell ⟨g, 0, none⟩ x).setCell ⟨g, 1, none⟩ y).setCell ⟨g, 2, none⟩ z).setCell ⟨g, 3, none⟩ u) g' t cs := (((h.far (p := ⟨g, 0, none⟩) hn x).far (p := ⟨g, 1, none⟩) hn y).far (p := ⟨g, 2, none⟩) hn z).far (p := ⟨g, 3, none⟩) hn u
def cutF (P : Int) (t : ByteArray) : ByteArray := t.extract 0 (P - 15).toNat
end Go.Proofs.Ytecelmhiffcaeaa
/- FrameBack. -/
namespace Go.Proofs.Ytecelmhiffcaeaa
open Go.RowKit
set_option linter.unusedVariables false
set_option maxRecDepth 20000
theorem cut_ok {P k a b : Int} {t : ByteArray} (hP : 32 ≤ P ∧ P ≤ 128) (ha : 0 ≤ a ∧ a ≤ 4294967295) (hb : 0 ≤ b ∧ b ≤ 4294967295) : PgOk P (1 + k % 4) a b (cutF P t) := by
  refine ⟨hP.1, hP.2, by omega, by omega, ha.1, ha.2, hb.1, hb.2, ?_⟩
  unfold cutF
  have : (t.extract 0 (P - 15).toNat).size ≤ (P - 15).toNat := by rw [ByteArray.size_extract]; omega
  omega
end Go.Proofs.Ytecelmhiffcaeaa
/- A page with one byte turned is no frame. -/
namespace Go.Proofs.Ytecelmhiffcaeaa
open Go.RowKit
set_option linter.unusedVariables false
set_option maxRecDepth 20000
theorem crcs_one (l : List Nat) (i v c : Nat) (hc : c < 2^32) (hl : Crc.Bytes l) (hv : v < 256) (hi : i < l.length) (h : Crc.crcs c (l.set i v) = Crc.crcs c l) : v = l[i] := by
  have e1 : l = l.take i ++ l[i] :: l.drop (i + 1) := by rw [List.getElem_cons_drop, List.take_append_drop]
  have e2 : l.set i v = l.take i ++ v :: l.drop (i + 1) := by rw [List.set_eq_take_append_cons_drop, if_pos hi]
  have h' : Crc.crcs c (l.take i ++ v :: l.drop (i + 1)) = Crc.crcs c (l.take i ++ l[i] :: l.drop (i + 1)) := by rw [← e2, ← e1]; exact h
  rw [Crc.crcs_append, Crc.crcs_append, Crc.crcs_cons, Crc.crcs_cons] at h'
  have hp : Crc.Bytes (l.take i) := fun b hb => hl b (List.mem_of_mem_take hb)
  have hq : Crc.Bytes (l.drop (i + 1)) := fun b hb => hl b (List.mem_of_mem_drop hb)
  have hli : l[i] < 256 := hl _ (List.getElem_mem hi)
  have c1 := Crc.crcs_lt (l.take i) c hc hp
  have x1 : Crc.crcs c (l.take i) ^^^ v < 2^32 := Nat.xor_lt_two_pow c1 (by omega)
  have x2 : Crc.crcs c (l.take i) ^^^ l[i] < 2^32 := Nat.xor_lt_two_pow c1 (by omega)
  have h2 := Crc.crcs_inj _ _ _ (Crc.s8_lt _ x1) (Crc.s8_lt _ x2) hq h'
  have h3 := Crc.s8_inj _ _ x1 x2 h2
  have h4 : (Crc.crcs c (l.take i) ^^^ v) ^^^ (Crc.crcs c (l.take i) ^^^ l[i]) = 0 := by rw [h3, Nat.xor_self]
  apply Crc.xor_eq0
  rw [← h4]
  generalize Crc.crcs c (l.take i) = x
  rw [Nat.xor_comm x v, Nat.xor_assoc, ← Nat.xor_assoc x x, Nat.xor_self, Nat.zero_xor]
/-- The text with a byte put. -/
def setB (s : ByteArray) (i v : Nat) : ByteArray := strN ((nb s).set i v)
section
variable {s : ByteArray} {i v : Nat}
theorem setB_nb (hv : v < 256) : nb (setB s i v) = (nb s).set i v := by
  unfold setB
  rw [nb_strN]
  intro n hn
  rcases List.mem_or_eq_of_mem_set hn with h | h
  · exact nb_lt s n h
  · omega
theorem setB_size : (setB s i v).size = s.size := by unfold setB; rw [strN_size, List.length_set, nb_len]
theorem setB_far (hv : v < 256) (j : Nat) (h : j ≠ i) : byteAt (setB s i v) j = byteAt s j := by
  unfold byteAt
  rw [setB_nb hv, List.getD_eq_getElem?_getD, List.getD_eq_getElem?_getD, List.getElem?_set_ne (Ne.symm h)]
theorem setB_sum (hs : 32 ≤ s.size) (hi : i < s.size) (hv : v < 256) (hne : v ≠ byteAt s i) (h : SumOk s) : ¬ SumOk (setB s i v) := by
  intro h2
  have hsz := setB_size (s := s) (i := i) (v := v)
  have hil : i < (nb s).length := by rw [nb_len]; exact hi
  have hbi : byteAt s i = (nb s)[i] := by unfold byteAt; rw [List.getD_eq_getElem?_getD, List.getElem?_eq_getElem hil]; rfl
  unfold SumOk at h h2
  rw [hsz] at h2
  by_cases hc : i < s.size - 4
  · have e1 : get4 (setB s i v) (s.size - 4) = get4 s (s.size - 4) := by
      unfold get4
      rw [setB_far hv _ (by omega), setB_far hv _ (by omega), setB_far hv _ (by omega), setB_far hv _ (by omega)]
    rw [e1, h] at h2
    have h3 : crcOf (s.extract 0 (s.size - 4)) = crcOf ((setB s i v).extract 0 (s.size - 4)) := by
      unfold crcN at h2
      have := congrArg (· ^^^ Crc.F) h2
      simpa [Nat.xor_assoc] using this
    unfold crcOf at h3
    rw [nb_extract, nb_extract, setB_nb hv, List.drop_zero, List.drop_zero, Nat.sub_zero, List.take_set] at h3
    have hl9 : i < ((nb s).take (s.size - 4)).length := by rw [List.length_take, nb_len]; omega
    have := crcs_one _ i v _ (by omega) (fun b hb => nb_lt s b (List.mem_of_mem_take hb)) hv hl9 h3.symm
    rw [List.getElem_take] at this
    exact hne (this.trans hbi.symm)
  · have e1 : (setB s i v).extract 0 (s.size - 4) = s.extract 0 (s.size - 4) := by
      apply nb_inj
      rw [nb_extract, nb_extract, setB_nb hv, List.drop_zero, List.drop_zero, Nat.sub_zero, List.take_set_of_le (by omega)]
    rw [e1, ← h] at h2
    unfold get4 at h2
    have b0 := fun j => byteAt_lt s j
    have b1 := fun j => byteAt_lt (setB s i v) j
    have c0 := b0 (s.size - 4); have c1 := b0 (s.size - 4 + 1); have c2 := b0 (s.size - 4 + 2); have c3 := b0 (s.size - 4 + 3)
    have d0 := b1 (s.size - 4); have d1 := b1 (s.size - 4 + 1); have d2 := b1 (s.size - 4 + 2); have d3 := b1 (s.size - 4 + 3)
    unfold Crc.word at h2
    have key : ∀ j, j = s.size - 4 ∨ j = s.size - 4 + 1 ∨ j = s.size - 4 + 2 ∨ j = s.size - 4 + 3 → byteAt (setB s i v) j = byteAt s j := by
      rintro j (rfl | rfl | rfl | rfl) <;> omega
    have hii : byteAt (setB s i v) i = byteAt s i := key i (by omega)
    have hiv : byteAt (setB s i v) i = v := by
      unfold byteAt
      rw [setB_nb hv, List.getD_eq_getElem?_getD, List.getElem?_set_self hil]
      rfl
    exact hne (hiv.symm.trans hii)
end
theorem turned_no {n k a b : Int} {t : ByteArray} (h : PgOk n k a b t) (i : Nat) (hi : (i : Int) < n) (y : Nat) (hy : y < 256) (hy0 : y ≠ 0) :
    readF (setB (pageS n k a b t) i (byteAt (pageS n k a b t) i ^^^ y)) = (noFr, 5) := by
  have hsz := pageS_size h
  obtain ⟨f1, f2, -, -, -, -⟩ := back_fields h
  obtain ⟨hs, -⟩ := back_sum h
  have hn1 := h.n1
  have hn2 := h.n2
  have hk1 := h.k1
  have hk2 := h.k2
  generalize pageS n k a b t = X at *
  have hv : byteAt X i ^^^ y < 256 := Nat.xor_lt_two_pow (n := 8) (byteAt_lt X i) hy
  have hne : byteAt X i ^^^ y ≠ byteAt X i := by
    intro e
    have : (byteAt X i ^^^ y) ^^^ byteAt X i = 0 := by rw [e, Nat.xor_self]
    rw [Nat.xor_comm (byteAt X i) y, Nat.xor_assoc, Nat.xor_self, Nat.xor_zero] at this
    exact hy0 this
  have hsum := setB_sum (s := X) (by omega) (by omega) hv hne hs
  have hbl : blankB (setB X i (byteAt X i ^^^ y)) = false := by
    by_cases h0 : i = 0
    · refine not_blank _ 10 (by rw [setB_size]; omega) ?_
      rw [setB_far hv 10 (by omega), f2]
      omega
    · refine not_blank _ 0 (by rw [setB_size]; omega) ?_
      rw [setB_far hv 0 (by omega)]
      unfold fKind at f1
      omega
  unfold readF
  rw [if_neg (by rw [setB_size]; omega), if_neg (by rw [hbl]; simp), if_pos hsum]
end Go.Proofs.Ytecelmhiffcaeaa
/- FrameTurned. -/
namespace Go.Proofs.Ytecelmhiffcaeaa
open Go.RowKit
set_option linter.unusedVariables false
set_option maxRecDepth 20000
theorem sb_set (X : ByteArray) (i v : Nat) : strOfNums ((sb X).set i (v : Int)) = setB X i v := by
  unfold setB strN
  rw [sb_nb, List.map_set]
end Go.Proofs.Ytecelmhiffcaeaa
/- A torn page is no frame. -/
namespace Go.Proofs.Ytecelmhiffcaeaa
open Go.RowKit
set_option linter.unusedVariables false
set_option maxRecDepth 20000
def tornS (X : ByteArray) (P : Int) (K : Nat) : ByteArray := X.extract 0 K ++ fillS 255 (P - (K : Int)).toNat
section
variable {X : ByteArray} {P : Int} {K : Nat}
theorem tornS_nb (hX : (X.size : Int) = P) (hK : (K : Int) < P) : nb (tornS X P K) = (nb X).take K ++ List.replicate (P - (K : Int)).toNat 255 := by
  unfold tornS
  rw [nb_append, nb_extract, List.drop_zero, Nat.sub_zero, show (255 : Int) = ((255 : Nat) : Int) from rfl, nb_fill _ _ (by omega)]
theorem tornS_size (hX : (X.size : Int) = P) (hK : (K : Int) < P) : (tornS X P K).size = X.size := by
  rw [← nb_len, tornS_nb hX hK, List.length_append, List.length_take, nb_len, List.length_replicate]
  omega
theorem tornS_lo (hX : (X.size : Int) = P) (hK : (K : Int) < P) (j : Nat) (hj : j < K) : byteAt (tornS X P K) j = byteAt X j := by
  unfold byteAt
  rw [tornS_nb hX hK, List.getD_eq_getElem?_getD, List.getD_eq_getElem?_getD, List.getElem?_append_left (by rw [List.length_take, nb_len]; omega), List.getElem?_take, if_pos hj]
theorem tornS_hi (hX : (X.size : Int) = P) (hK : (K : Int) < P) (j : Nat) (hj : K ≤ j) (hjP : (j : Int) < P) : byteAt (tornS X P K) j = 255 := by
  unfold byteAt
  have hl : ((nb X).take K).length = K := by rw [List.length_take, nb_len]; omega
  rw [tornS_nb hX hK, List.getD_eq_getElem?_getD, List.getElem?_append_right (by omega), hl, List.getElem?_replicate, if_pos (by omega)]
  rfl
theorem nb_ext_eq {s u : ByteArray} (h : s.size = u.size) (hb : ∀ j, j < s.size → byteAt s j = byteAt u j) : s = u := by
  apply nb_inj
  apply List.ext_getElem (by rw [nb_len, nb_len, h])
  intro j h1 h2
  have hj : j < s.size := by rw [nb_len] at h1; exact h1
  rw [nb_get s j hj, nb_get u j (by omega)]
  exact hb j hj
theorem readF_okE {s : ByteArray} (h : (readF s).2 = 0) : SumOk s ∧ bodyLen s + 15 ≤ s.size ∧ Padded s := by
  unfold readF at h
  split at h
  · simp at h
  · split at h
    · simp at h
    · split at h
      · simp at h
      · rename_i h1 h2 h3
        split at h
        · simp at h
        · rename_i h4
          split at h
          · rename_i h5
            refine ⟨Classical.not_not.1 h3, ?_, h5⟩
            omega
          · simp at h
end
theorem torn_law {n k a b : Int} {t : ByteArray} (h : PgOk n k a b t) (hr : (t.size : Int) + 16 ≤ n) (K : Nat) (hK : (K : Int) < n) :
    tornS (pageS n k a b t) n K = pageS n k a b t ∨ (readF (tornS (pageS n k a b t) n K)).2 ≠ 0 := by
  have hsz := pageS_size h
  obtain ⟨f1, f2, f3, -, -, -⟩ := back_fields h
  obtain ⟨hs, -⟩ := back_sum h
  have hn1 := h.n1
  have hn2 := h.n2
  generalize pageS n k a b t = X at *
  by_cases hz : (readF (tornS X n K)).2 = 0
  · left
    obtain ⟨hS, hL, hPd⟩ := readF_okE hz
    have hts := tornS_size hsz hK
    by_cases c1 : K ≤ 10
    · have h10 := tornS_hi hsz hK 10 c1 (by omega)
      unfold bodyLen at hL
      rw [h10] at hL
      omega
    · have hbl : bodyLen (tornS X n K) = t.size := by
        rw [← f3]
        unfold bodyLen
        rw [tornS_lo hsz hK 9 (by omega), tornS_lo hsz hK 10 (by omega)]
      by_cases c2 : (K : Int) ≤ n - 5
      · have h0 := hPd (n - 5).toNat (by rw [hbl]; omega) (by omega)
        rw [tornS_hi hsz hK (n - 5).toNat (by omega) (by omega)] at h0
        omega
      · have hhead : (tornS X n K).extract 0 (X.size - 4) = X.extract 0 (X.size - 4) := by
          apply nb_inj
          rw [nb_extract, nb_extract, tornS_nb hsz hK, List.drop_zero, List.drop_zero, Nat.sub_zero, List.take_append_of_le_length (by rw [List.length_take, nb_len]; omega), List.take_take]
          congr 1
          omega
        unfold SumOk at hS hs
        rw [hts, hhead, ← hs] at hS
        have b0 := fun j => byteAt_lt X j
        have b1 := fun j => byteAt_lt (tornS X n K) j
        have c0 := b0 (X.size - 4); have c1 := b0 (X.size - 4 + 1); have c2 := b0 (X.size - 4 + 2); have c3 := b0 (X.size - 4 + 3)
        have d0 := b1 (X.size - 4); have d1 := b1 (X.size - 4 + 1); have d2 := b1 (X.size - 4 + 2); have d3 := b1 (X.size - 4 + 3)
        unfold get4 Crc.word at hS
        have key : ∀ j, j = X.size - 4 ∨ j = X.size - 4 + 1 ∨ j = X.size - 4 + 2 ∨ j = X.size - 4 + 3 → byteAt (tornS X n K) j = byteAt X j := by
          rintro j (rfl | rfl | rfl | rfl) <;> omega
        refine nb_ext_eq hts fun j hj => ?_
        rw [hts] at hj
        by_cases hj2 : j < X.size - 4
        · exact tornS_lo hsz hK j (by omega)
        · exact key j (by omega)
  · exact Or.inr hz
end Go.Proofs.Ytecelmhiffcaeaa
