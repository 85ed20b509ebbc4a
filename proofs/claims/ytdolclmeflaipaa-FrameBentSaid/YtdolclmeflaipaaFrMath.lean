/- Frames read: plain facts on strings. -/
import Derived.Test.YtdolclmeflaipaaFrame3
namespace Go.Proofs.Ytdolclmeflaipaa
open Go.RowKit
set_option linter.unusedVariables false

theorem nb_extract (s : ByteArray) (a b : Nat) : nb (s.extract a b) = ((nb s).drop a).take (b - a) := by
  unfold nb
  rw [ByteArray.data_extract, Array.toList_extract, List.extract, List.map_take, List.map_drop]
theorem ext_size (s : ByteArray) (a b : Nat) (h : b ≤ s.size) : (s.extract a b).size = b - a := by
  rw [← nb_len, nb_extract, List.length_take, List.length_drop, nb_len]; omega
theorem ext_app (s : ByteArray) (a b c : Nat) (h1 : a ≤ b) (h2 : b ≤ c) : s.extract a b ++ s.extract b c = s.extract a c := by
  apply nb_inj
  rw [nb_append, nb_extract, nb_extract, nb_extract]
  rw [show c - a = (b - a) + (c - b) by omega, List.take_add, List.drop_drop]
  rw [show a + (b - a) = b by omega]
theorem byteAt_ext (s : ByteArray) (a b i : Nat) (h : a + i < b) : byteAt (s.extract a b) i = byteAt s (a + i) := by
  unfold byteAt
  rw [nb_extract, List.getD_eq_getElem?_getD, List.getD_eq_getElem?_getD, List.getElem?_take, if_pos (by omega), List.getElem?_drop]
theorem nb_get (s : ByteArray) (i : Nat) (h : i < s.size) : (nb s)[i]'(by rw [nb_len]; exact h) = byteAt s i := by
  unfold byteAt
  rw [List.getD_eq_getElem?_getD, List.getElem?_eq_getElem (by rw [nb_len]; exact h)]; rfl
theorem one_ext (s : ByteArray) (i : Nat) (h : i < s.size) : strOfNums [(byteAt s i : Int)] = s.extract i (i + 1) := by
  apply nb_inj
  have e1 : nb (strOfNums [(byteAt s i : Int)]) = [byteAt s i] := nb_strN [byteAt s i] (by simp; exact byteAt_lt s i)
  rw [e1, nb_extract, show i + 1 - i = 1 by omega, List.drop_eq_getElem_cons (by rw [nb_len]; exact h), List.take_succ_cons, List.take_zero, nb_get s i h]
theorem two_ext (s : ByteArray) (i : Nat) (h : i + 1 < s.size) : strOfNums [(byteAt s i : Int), (byteAt s (i + 1) : Int)] = s.extract i (i + 2) := by
  rw [← ext_app s i (i + 1) (i + 2) (by omega) (by omega), ← one_ext s i (by omega), ← one_ext s (i + 1) h]
  rfl
theorem put_ext (s : ByteArray) (i : Nat) (h : i + 4 ≤ s.size) : put (get4 s i) = s.extract i (i + 4) := by
  have h4 : (s.extract i (i + 4)).size = 4 := by rw [ext_size _ _ _ h]; omega
  have := put_get4 (s.extract i (i + 4)) h4
  rw [← this]
  congr 1
  unfold get4
  rw [byteAt_ext _ _ _ _ (by omega), byteAt_ext _ _ _ _ (by omega), byteAt_ext _ _ _ _ (by omega), byteAt_ext _ _ _ _ (by omega)]
  rfl
theorem nb_fill (b n : Nat) (h : b < 256) : nb (fillS (b : Int) n) = List.replicate n b := by
  have e : fillS (b : Int) n = strN (List.replicate n b) := by unfold fillS strN; rw [List.map_replicate]
  rw [e, nb_strN]
  intro x hx
  rw [List.mem_replicate] at hx
  omega
theorem fill_ext (s : ByteArray) (i j : Nat) (hij : i ≤ j) (hj : j ≤ s.size) : fillS 0 (j - i) = s.extract i j ↔ ∀ x, i ≤ x → x < j → byteAt s x = 0 := by
  constructor
  · intro h x h1 h2
    have := congrArg (fun t => byteAt t (x - i)) h
    rw [byteAt_ext _ _ _ _ (by omega), show i + (x - i) = x by omega] at this
    rw [← this]
    unfold byteAt
    have e := nb_fill 0 (j - i) (by omega)
    rw [show ((0 : Nat) : Int) = 0 from rfl] at e
    rw [e]
    simp [List.getD_eq_getElem?_getD, List.getElem?_replicate]
    split <;> rfl
  · intro h
    apply nb_inj
    have e := nb_fill 0 (j - i) (by omega)
    rw [show ((0 : Nat) : Int) = 0 from rfl] at e
    rw [e]
    apply List.ext_getElem
    · rw [List.length_replicate, nb_len, ext_size _ _ _ hj]
    · intro k h1 h2
      rw [List.length_replicate] at h1
      rw [List.getElem_replicate, nb_get _ _ (by rw [nb_len] at h2; exact h2), byteAt_ext _ _ _ _ (by omega), h _ (by omega) (by omega)]
theorem app_cancel {a b c : ByteArray} (h : a ++ b = a ++ c) : b = c := by
  have := congrArg nb h
  rw [nb_append, nb_append] at this
  exact nb_inj (List.append_cancel_left this)
theorem app_inj {a b c d : ByteArray} (h : a ++ b = c ++ d) (hs : a.size = c.size) : a = c ∧ b = d := by
  have := congrArg nb h
  rw [nb_append, nb_append] at this
  obtain ⟨h1, h2⟩ := List.append_inj this (by rw [nb_len, nb_len]; exact hs)
  exact ⟨nb_inj h1, nb_inj h2⟩

/-- How long a page says that its body is. -/
def bodyLen (s : ByteArray) : Nat := byteAt s 9 + 256 * byteAt s 10
/-- The page's fields. -/
abbrev fKind (s : ByteArray) : Int := (byteAt s 0 : Int)
abbrev fA (s : ByteArray) : Int := (get4 s 1 : Int)
abbrev fB (s : ByteArray) : Int := (get4 s 5 : Int)
abbrev fBody (s : ByteArray) : ByteArray := s.extract 11 (11 + bodyLen s)
theorem head_ext (s : ByteArray) (h1 : 32 ≤ s.size) (h2 : s.size ≤ 128) (hl : bodyLen s + 15 ≤ s.size) : headS (fKind s) (fA s) (fB s) (fBody s) = s.extract 0 (11 + bodyLen s) := by
  have b10 : byteAt s 10 = 0 := by unfold bodyLen at hl; omega
  have hbs : (fBody s).size = bodyLen s := by rw [ext_size _ _ _ (by omega)]; omega
  have e9 : bodyLen s = byteAt s 9 := by unfold bodyLen; omega
  unfold headS
  rw [hbs]
  have t2 := two_ext s 9 (by omega)
  rw [show (9 + 1 : Nat) = 10 from rfl, b10, ← e9] at t2
  rw [show (((0 : Nat) : Int)) = 0 from rfl] at t2
  rw [t2, Int.toNat_natCast, Int.toNat_natCast, put_ext s 1 (by omega), put_ext s 5 (by omega), one_ext s 0 (by omega)]
  rw [ext_app _ _ _ _ (by omega) (by omega), ext_app _ _ _ _ (by omega) (by omega), ext_app _ _ _ _ (by omega) (by omega), ext_app _ _ _ _ (by omega) (by omega)]
/-- The padding is all 0. -/
def Padded (s : ByteArray) : Prop := ∀ x, 11 + bodyLen s ≤ x → x < s.size - 4 → byteAt s x = 0
/-- The sum is right. -/
def SumOk (s : ByteArray) : Prop := get4 s (s.size - 4) = crcN (s.extract 0 (s.size - 4))
instance (s : ByteArray) : Decidable (SumOk s) := inferInstanceAs (Decidable (get4 s (s.size - 4) = crcN (s.extract 0 (s.size - 4))))
theorem sum_str (s : ByteArray) (h1 : 32 ≤ s.size) : SumOk s ↔ s.extract (s.size - 4) s.size = put (crcN (s.extract 0 (s.size - 4))) := by
  have e := put_ext s (s.size - 4) (by omega)
  rw [show s.size - 4 + 4 = s.size by omega] at e
  unfold SumOk
  constructor
  · intro h
    rw [← e, h]
  · intro h
    rw [← e] at h
    have := congrArg (fun t => get4 (⟨#[]⟩ ++ t ++ ⟨#[]⟩) 0) h
    rw [show (0 : Nat) = (⟨#[]⟩ : ByteArray).size from rfl, get4_put _ _ _ (get4_lt s _), get4_put _ _ _ (crcN_lt _)] at this
    exact this
theorem page_same (s : ByteArray) (h1 : 32 ≤ s.size) (h2 : s.size ≤ 128) (hl : bodyLen s + 15 ≤ s.size) (hs : SumOk s) : pageS (s.size : Int) (fKind s) (fA s) (fB s) (fBody s) = s ↔ Padded s := by
  have hh := head_ext s h1 h2 hl
  have hz : (headS (fKind s) (fA s) (fB s) (fBody s)).size = 11 + bodyLen s := by rw [hh, ext_size _ _ _ (by omega)]; omega
  have hn : ((s.size : Int) - 4 - ((headS (fKind s) (fA s) (fB s) (fBody s)).size : Nat)).toNat = (s.size - 4) - (11 + bodyLen s) := by rw [hz]; omega
  have hfull : fullS (s.size : Int) (fKind s) (fA s) (fB s) (fBody s) = s.extract 0 (11 + bodyLen s) ++ fillS 0 ((s.size - 4) - (11 + bodyLen s)) := by
    unfold fullS; rw [hn, hh]
  have hfe := fill_ext s (11 + bodyLen s) (s.size - 4) (by omega) (by omega)
  have hss : s.extract 0 (s.size - 4) ++ s.extract (s.size - 4) s.size = s := by
    rw [ext_app _ _ _ _ (by omega) (by omega)]
    apply nb_inj
    rw [nb_extract, List.drop_zero, Nat.sub_zero, List.take_of_length_le (by rw [nb_len]; exact Nat.le_refl _)]
  unfold pageS
  rw [hfull]
  constructor
  · intro h
    conv at h => rhs; rw [← hss]
    have hsz : (s.extract 0 (11 + bodyLen s) ++ fillS 0 ((s.size - 4) - (11 + bodyLen s))).size = (s.extract 0 (s.size - 4)).size := by
      rw [ByteArray.size_append, ext_size _ _ _ (by omega), ext_size _ _ _ (by omega), fillS_size]; omega
    have h3 := (app_inj h hsz).1
    rw [← ext_app s 0 (11 + bodyLen s) (s.size - 4) (by omega) (by omega)] at h3
    exact hfe.1 (app_cancel h3)
  · intro h
    rw [hfe.2 h, ext_app _ _ _ _ (by omega) (by omega), ← (sum_str s h1).1 hs, hss]

/-- What Read tells: kind, numbers, body, code. -/
structure Fr where
  k : Int
  a : Int
  b : Int
  t : ByteArray
def noFr : Fr := ⟨0, 0, 0, ⟨#[]⟩⟩
def Fr.v (f : Fr) : Value := frv f.k f.a f.b f.t
open Classical in
noncomputable def readF (s : ByteArray) : Fr × Int :=
  if s.size < 32 ∨ 128 < s.size then (noFr, 1)
  else if blankB s = true then (noFr, 9)
  else if ¬ SumOk s then (noFr, 5)
  else if fKind s < 1 ∨ 4 < fKind s ∨ s.size < bodyLen s + 15 then (noFr, 2)
  else if Padded s then (⟨fKind s, fA s, fB s, fBody s⟩, 0) else (noFr, 2)
end Go.Proofs.Ytdolclmeflaipaa
