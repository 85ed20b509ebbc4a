/- Frames: a frame comes back from its page. -/
import Derived.Test.YtdolclmeflaipaaFrRead2
namespace Go.Proofs.Ytdolclmeflaipaa
open Go.RowKit
set_option linter.unusedVariables false

theorem byteAt_app_l (a b : ByteArray) (i : Nat) (h : i < a.size) : byteAt (a ++ b) i = byteAt a i := by
  unfold byteAt
  rw [nb_append, List.getD_eq_getElem?_getD, List.getElem?_append_left (by rw [nb_len]; exact h), List.getD_eq_getElem?_getD]
theorem byteAt_app_r (a b : ByteArray) (i : Nat) : byteAt (a ++ b) (a.size + i) = byteAt b i := by
  unfold byteAt
  rw [nb_append, List.getD_eq_getElem?_getD, List.getElem?_append_right (by rw [nb_len]; omega), nb_len, List.getD_eq_getElem?_getD]
  congr 2
  omega
theorem get4_app_l (a b : ByteArray) (i : Nat) (h : i + 4 ≤ a.size) : get4 (a ++ b) i = get4 a i := by
  unfold get4
  rw [byteAt_app_l _ _ _ (by omega), byteAt_app_l _ _ _ (by omega), byteAt_app_l _ _ _ (by omega), byteAt_app_l _ _ _ (by omega)]
theorem get4_app_r (a b : ByteArray) (i : Nat) : get4 (a ++ b) (a.size + i) = get4 b i := by
  unfold get4
  rw [byteAt_app_r, Nat.add_assoc, byteAt_app_r, Nat.add_assoc, byteAt_app_r, Nat.add_assoc, byteAt_app_r]
theorem get4_of_put (c : Nat) (h : c < 4294967296) : get4 (put c) 0 = c := by
  have := get4_put ⟨#[]⟩ ⟨#[]⟩ c h
  rw [show (⟨#[]⟩ : ByteArray) ++ put c ++ ⟨#[]⟩ = put c from ?_] at this
  · exact this
  · apply nb_inj; rw [nb_append, nb_append]; simp [nb]
theorem ext_app_l (a b : ByteArray) (i j : Nat) (h : j ≤ a.size) : (a ++ b).extract i j = a.extract i j := by
  apply nb_inj
  rw [nb_extract, nb_extract, nb_append]
  by_cases hij : i ≤ j
  · rw [List.drop_append_of_le_length (by rw [nb_len]; omega), List.take_append_of_le_length (by rw [List.length_drop, nb_len]; omega)]
  · rw [show j - i = 0 by omega, List.take_zero, List.take_zero]
theorem ext_all (a : ByteArray) : a.extract 0 a.size = a := by
  apply nb_inj
  rw [nb_extract, List.drop_zero, Nat.sub_zero, List.take_of_length_le (by rw [nb_len]; exact Nat.le_refl _)]
theorem ext_app_r (a b : ByteArray) (j : Nat) : (a ++ b).extract a.size (a.size + j) = b.extract 0 j := by
  apply nb_inj
  rw [nb_extract, nb_extract, nb_append, List.drop_append_of_le_length (by rw [nb_len]; exact Nat.le_refl _), List.drop_of_length_le (by rw [nb_len]; exact Nat.le_refl _)]
  simp

/-- What holds of a page's parts. -/
structure PgOk (n k a b : Int) (t : ByteArray) : Prop where
  n1 : 32 ≤ n
  n2 : n ≤ 128
  k1 : 1 ≤ k
  k2 : k ≤ 4
  a1 : 0 ≤ a
  a2 : a ≤ 4294967295
  b1 : 0 ≤ b
  b2 : b ≤ 4294967295
  room : (t.size : Int) + 15 ≤ n
section
variable {n k a b : Int} {t : ByteArray}
theorem full_size (h : PgOk n k a b t) : ((fullS n k a b t).size : Int) = n - 4 := by
  have := headS_size k a b t
  have hr := h.room
  unfold fullS
  rw [ByteArray.size_append, fillS_size, this]
  omega
theorem pageS_size (h : PgOk n k a b t) : ((pageS n k a b t).size : Int) = n := by
  have := full_size h
  unfold pageS
  rw [ByteArray.size_append, put_size]
  omega
theorem head_at (h : PgOk n k a b t) (i : Nat) (hi : i < 11 + t.size) : byteAt (pageS n k a b t) i = byteAt (headS k a b t) i := by
  have h1 := headS_size k a b t
  have h2 := full_size h
  have h3 := h.room
  unfold pageS
  rw [byteAt_app_l _ _ _ (by omega)]
  unfold fullS
  rw [byteAt_app_l _ _ _ (by omega)]
theorem nb_num (x : Int) (h0 : 0 ≤ x) (h : x < 256) : nb (strOfNums [x]) = [x.toNat] := by
  have := nb_strN [x.toNat] (by simp; omega)
  unfold strN at this
  simp only [List.map_cons, List.map_nil, Int.toNat_of_nonneg h0] at this
  exact this
theorem nb_num2 (x y : Int) (h0 : 0 ≤ x) (h : x < 256) (h1 : 0 ≤ y) (h2 : y < 256) : nb (strOfNums [x, y]) = [x.toNat, y.toNat] := by
  have := nb_strN [x.toNat, y.toNat] (by simp; omega)
  unfold strN at this
  simp only [List.map_cons, List.map_nil, Int.toNat_of_nonneg h0, Int.toNat_of_nonneg h1] at this
  exact this
theorem back_fields (h : PgOk n k a b t) : fKind (pageS n k a b t) = k ∧ byteAt (pageS n k a b t) 10 = 0 ∧ bodyLen (pageS n k a b t) = t.size ∧ fA (pageS n k a b t) = a ∧ fB (pageS n k a b t) = b ∧ fBody (pageS n k a b t) = t := by
  obtain ⟨n1, n2, k1, k2, a1, a2, b1, b2, hr⟩ := id h
  have hs := headS_size k a b t
  have hf := full_size h
  -- the head, part by part
  have e0 : headS k a b t = strOfNums [k] ++ (put a.toNat ++ (put b.toNat ++ (strOfNums [(t.size : Int), 0] ++ t))) := by
    unfold headS; simp only [ByteArray.append_assoc]
  have s1 : (strOfNums [k]).size = 1 := by rw [strOfNums_size]; rfl
  have s2 := put_size a.toNat
  have s3 := put_size b.toNat
  have s4 : (strOfNums [(t.size : Int), 0]).size = 2 := by rw [strOfNums_size]; rfl
  have k0 : byteAt (pageS n k a b t) 0 = k.toNat := by
    rw [head_at h 0 (by omega), e0, byteAt_app_l _ _ _ (by omega)]
    unfold byteAt; rw [nb_num k (by omega) (by omega)]; rfl
  have at9 : ∀ i, i < 2 + t.size → byteAt (pageS n k a b t) (9 + i) = byteAt (strOfNums [(t.size : Int), 0] ++ t) i := by
    intro i hi
    rw [head_at h _ (by omega), e0]
    rw [show 9 + i = (strOfNums [k]).size + ((put a.toNat).size + ((put b.toNat).size + i)) by omega, byteAt_app_r, byteAt_app_r, byteAt_app_r]
  have k9 : byteAt (pageS n k a b t) 9 = t.size := by
    have := at9 0 (by omega)
    rw [show 9 + 0 = 9 from rfl] at this
    rw [this, byteAt_app_l _ _ _ (by omega)]
    unfold byteAt; rw [nb_num2 _ _ (by omega) (by omega) (by omega) (by omega)]; simp
  have k10 : byteAt (pageS n k a b t) 10 = 0 := by
    have := at9 1 (by omega)
    rw [show 9 + 1 = 10 from rfl] at this
    rw [this, byteAt_app_l _ _ _ (by omega)]
    unfold byteAt; rw [nb_num2 _ _ (by omega) (by omega) (by omega) (by omega)]; simp
  have hbl : bodyLen (pageS n k a b t) = t.size := by unfold bodyLen; rw [k9, k10]; omega
  have gpage : ∀ i, i + 4 ≤ 11 → get4 (pageS n k a b t) i = get4 (headS k a b t) i := by
    intro i hi
    unfold get4
    rw [head_at h _ (by omega), head_at h _ (by omega), head_at h _ (by omega), head_at h _ (by omega)]
  have ga : get4 (pageS n k a b t) 1 = a.toNat := by
    rw [gpage 1 (by omega), e0]
    have := get4_app_r (strOfNums [k]) (put a.toNat ++ (put b.toNat ++ (strOfNums [(t.size : Int), 0] ++ t))) 0
    rw [s1] at this
    rw [this, get4_app_l _ _ _ (by omega), get4_of_put _ (by omega)]
  have gb : get4 (pageS n k a b t) 5 = b.toNat := by
    rw [gpage 5 (by omega), e0]
    have := get4_app_r (strOfNums [k]) (put a.toNat ++ (put b.toNat ++ (strOfNums [(t.size : Int), 0] ++ t))) ((put a.toNat).size + 0)
    rw [s1, s2] at this
    rw [show (5 : Nat) = 1 + (4 + 0) from rfl, this, show (4 + 0 : Nat) = (put a.toNat).size + 0 by omega, get4_app_r, get4_app_l _ _ _ (by omega), get4_of_put _ (by omega)]
  have hbody : fBody (pageS n k a b t) = t := by
    unfold fBody
    rw [hbl]
    unfold pageS
    rw [ext_app_l _ _ _ _ (by omega)]
    unfold fullS
    rw [ext_app_l _ _ _ _ (by omega)]
    have e1 : headS k a b t = (strOfNums [k] ++ put a.toNat ++ put b.toNat ++ strOfNums [(t.size : Int), 0]) ++ t := rfl
    have s5 : (strOfNums [k] ++ put a.toNat ++ put b.toNat ++ strOfNums [(t.size : Int), 0]).size = 11 := by
      simp only [ByteArray.size_append]; omega
    rw [e1]
    have := ext_app_r (strOfNums [k] ++ put a.toNat ++ put b.toNat ++ strOfNums [(t.size : Int), 0]) t t.size
    rw [s5] at this
    rw [this, ext_all]
  refine ⟨by unfold fKind; rw [k0]; omega, k10, hbl, by unfold fA; rw [ga]; omega, by unfold fB; rw [gb]; omega, hbody⟩
theorem back_sum (h : PgOk n k a b t) : SumOk (pageS n k a b t) ∧ (pageS n k a b t).extract 0 ((pageS n k a b t).size - 4) = fullS n k a b t := by
  have hf := full_size h
  have hp := pageS_size h
  have e : (pageS n k a b t).extract 0 ((pageS n k a b t).size - 4) = fullS n k a b t := by
    unfold pageS at hp ⊢
    rw [ext_app_l _ _ _ _ (by omega)]
    rw [show (fullS n k a b t ++ put (crcN (fullS n k a b t))).size - 4 = (fullS n k a b t).size by omega, ext_all]
  refine ⟨?_, e⟩
  unfold SumOk
  rw [e]
  have := get4_app_r (fullS n k a b t) (put (crcN (fullS n k a b t))) 0
  rw [get4_of_put _ (crcN_lt _)] at this
  rw [show (pageS n k a b t).size - 4 = (fullS n k a b t).size + 0 by omega]
  exact this
theorem not_blank (s : ByteArray) (i : Nat) (hi : i < s.size) (h : byteAt s i ≠ 255) : blankB s = false := by
  rcases blank_cases s with ⟨_, H⟩ | ⟨hb, _⟩
  · exact absurd ((byteAt_get s i hi).trans (H i hi)) h
  · exact hb
theorem read_back (h : PgOk n k a b t) : readF (pageS n k a b t) = (⟨k, a, b, t⟩, 0) ∧ blankB (pageS n k a b t) = false := by
  obtain ⟨f1, f2, f3, f4, f5, f6⟩ := back_fields h
  obtain ⟨n1, n2, k1, k2, a1, a2, b1, b2, hr⟩ := id h
  have hp := pageS_size h
  have hS := (back_sum h).1
  have hb : blankB (pageS n k a b t) = false := not_blank _ 10 (by omega) (by rw [f2]; omega)
  refine ⟨?_, hb⟩
  have hk : (byteAt (pageS n k a b t) 0 : Int) = k := f1
  have hpad := (page_same (pageS n k a b t) (by omega) (by omega) (by omega) hS).1 (by rw [f1, f4, f5, f6, hp])
  rw [readF_ok _ (by omega) (by omega) hb hS ⟨by omega, by omega, by omega⟩ hpad, f1, f4, f5, f6]
end
theorem fill_blank (n : Nat) : blankB (fillS 255 n) = true := by
  unfold blankB
  have := nb_fill 255 n (by omega)
  rw [show ((255 : Nat) : Int) = 255 from rfl] at this
  rw [this]
  simp
end Go.Proofs.Ytdolclmeflaipaa
