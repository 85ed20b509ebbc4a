/- A torn page is no frame. -/
import Derived.Test.YtdolclmeflaipaaFrTurn2
namespace Go.Proofs.Ytdolclmeflaipaa
open Go.RowKit
set_option linter.unusedVariables false
def tornS (X : ByteArray) (P : Int) (K : Nat) : ByteArray := X.extract 0 K ++ fillS 255 (P - (K : Int)).toNat
section
variable {X : ByteArray} {P : Int} {K : Nat}
theorem tornS_nb (hX : (X.size : Int) = P) (hK : (K : Int) < P) : nb (tornS X P K) = (nb X).take K ++ List.replicate (P - (K : Int)).toNat 255 := by
  unfold tornS
  rw [nb_append, nb_extract, List.drop_zero, Nat.sub_zero, show (255 : Int) = ((255 : Nat) : Int) from rfl, nb_fill _ _ (by omega)]
theorem tornS_size (hX : (X.size : Int) = P) (hK : (K : Int) < P) : (tornS X P K).size = X.size := by
  rw [← nb_len, tornS_nb hX hK, List.length_append, List.length_take, nb_len, List.length_replicate]
  omega
theorem tornS_lo (hX : (X.size : Int) = P) (hK : (K : Int) < P) (j : Nat) (hj : j < K) : byteAt (tornS X P K) j = byteAt X j := by
  unfold byteAt
  rw [tornS_nb hX hK, List.getD_eq_getElem?_getD, List.getD_eq_getElem?_getD, List.getElem?_append_left (by rw [List.length_take, nb_len]; omega), List.getElem?_take, if_pos hj]
theorem tornS_hi (hX : (X.size : Int) = P) (hK : (K : Int) < P) (j : Nat) (hj : K ≤ j) (hjP : (j : Int) < P) : byteAt (tornS X P K) j = 255 := by
  unfold byteAt
  have hl : ((nb X).take K).length = K := by rw [List.length_take, nb_len]; omega
  rw [tornS_nb hX hK, List.getD_eq_getElem?_getD, List.getElem?_append_right (by omega), hl, List.getElem?_replicate, if_pos (by omega)]
  rfl
theorem nb_ext_eq {s u : ByteArray} (h : s.size = u.size) (hb : ∀ j, j < s.size → byteAt s j = byteAt u j) : s = u := by
  apply nb_inj
  apply List.ext_getElem (by rw [nb_len, nb_len, h])
  intro j h1 h2
  have hj : j < s.size := by rw [nb_len] at h1; exact h1
  rw [nb_get s j hj, nb_get u j (by omega)]
  exact hb j hj
theorem readF_okE {s : ByteArray} (h : (readF s).2 = 0) : SumOk s ∧ bodyLen s + 15 ≤ s.size ∧ Padded s := by
  unfold readF at h
  split at h
  · simp at h
  · split at h
    · simp at h
    · split at h
      · simp at h
      · rename_i h1 h2 h3
        split at h
        · simp at h
        · rename_i h4
          split at h
          · rename_i h5
            refine ⟨Classical.not_not.1 h3, ?_, h5⟩
            omega
          · simp at h
end
theorem torn_law {n k a b : Int} {t : ByteArray} (h : PgOk n k a b t) (hr : (t.size : Int) + 16 ≤ n) (K : Nat) (hK : (K : Int) < n) :
    tornS (pageS n k a b t) n K = pageS n k a b t ∨ (readF (tornS (pageS n k a b t) n K)).2 ≠ 0 := by
  have hsz := pageS_size h
  obtain ⟨f1, f2, f3, -, -, -⟩ := back_fields h
  obtain ⟨hs, -⟩ := back_sum h
  have hn1 := h.n1
  have hn2 := h.n2
  generalize pageS n k a b t = X at *
  by_cases hz : (readF (tornS X n K)).2 = 0
  · left
    obtain ⟨hS, hL, hPd⟩ := readF_okE hz
    have hts := tornS_size hsz hK
    by_cases c1 : K ≤ 10
    · have h10 := tornS_hi hsz hK 10 c1 (by omega)
      unfold bodyLen at hL
      rw [h10] at hL
      omega
    · have hbl : bodyLen (tornS X n K) = t.size := by
        rw [← f3]
        unfold bodyLen
        rw [tornS_lo hsz hK 9 (by omega), tornS_lo hsz hK 10 (by omega)]
      by_cases c2 : (K : Int) ≤ n - 5
      · have h0 := hPd (n - 5).toNat (by rw [hbl]; omega) (by omega)
        rw [tornS_hi hsz hK (n - 5).toNat (by omega) (by omega)] at h0
        omega
      · have hhead : (tornS X n K).extract 0 (X.size - 4) = X.extract 0 (X.size - 4) := by
          apply nb_inj
          rw [nb_extract, nb_extract, tornS_nb hsz hK, List.drop_zero, List.drop_zero, Nat.sub_zero, List.take_append_of_le_length (by rw [List.length_take, nb_len]; omega), List.take_take]
          congr 1
          omega
        unfold SumOk at hS hs
        rw [hts, hhead, ← hs] at hS
        have b0 := fun j => byteAt_lt X j
        have b1 := fun j => byteAt_lt (tornS X n K) j
        have c0 := b0 (X.size - 4); have c1 := b0 (X.size - 4 + 1); have c2 := b0 (X.size - 4 + 2); have c3 := b0 (X.size - 4 + 3)
        have d0 := b1 (X.size - 4); have d1 := b1 (X.size - 4 + 1); have d2 := b1 (X.size - 4 + 2); have d3 := b1 (X.size - 4 + 3)
        unfold get4 Crc.word at hS
        have key : ∀ j, j = X.size - 4 ∨ j = X.size - 4 + 1 ∨ j = X.size - 4 + 2 ∨ j = X.size - 4 + 3 → byteAt (tornS X n K) j = byteAt X j := by
          rintro j (rfl | rfl | rfl | rfl) <;> omega
        refine nb_ext_eq hts fun j hj => ?_
        rw [hts] at hj
        by_cases hj2 : j < X.size - 4
        · exact tornS_lo hsz hK j (by omega)
        · exact key j (by omega)
  · exact Or.inr hz
end Go.Proofs.Ytdolclmeflaipaa
