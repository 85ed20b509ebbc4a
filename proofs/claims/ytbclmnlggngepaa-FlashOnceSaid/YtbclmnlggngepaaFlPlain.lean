/- Plain laws of a device's pages. -/
import Derived.Test.YtbclmnlggngepaaFlLaw
namespace Go.Proofs.Ytbclmnlggngepaa
open Go.RowKit
set_option linter.unusedVariables false

theorem nb_ext7 (s : ByteArray) (a b : Nat) : nb (s.extract a b) = ((nb s).drop a).take (b - a) := by
  unfold nb
  rw [ByteArray.data_extract, Array.toList_extract, List.extract, List.map_take, List.map_drop]
theorem nb_ext0 (s : ByteArray) (k : Nat) : nb (s.extract 0 k) = (nb s).take k := by
  rw [nb_ext7, List.drop_zero, Nat.sub_zero]
theorem nb_fill7 (b n : Nat) (h : b < 256) : nb (fillS (b : Int) n) = List.replicate n b := by
  have e : fillS (b : Int) n = strN (List.replicate n b) := by unfold fillS strN; rw [List.map_replicate]
  rw [e, nb_strN]
  intro x hx
  rw [(List.mem_replicate.1 hx).2]; exact h
theorem strN_app (a b : List Nat) (ha : ∀ n ∈ a, n < 256) (hb : ∀ n ∈ b, n < 256) : strN (a ++ b) = strN a ++ strN b := by
  apply nb_inj
  rw [nb_append, nb_strN _ ha, nb_strN _ hb, nb_strN]
  intro n hn
  rcases List.mem_append.1 hn with h | h
  · exact ha n h
  · exact hb n h
theorem strN_rep (n : Nat) : strN (List.replicate n 255) = fillS 255 n := by
  rw [← nb_fillS, strN_nb]
/-- The page that is laid. -/
theorem pg_splice_same (img : List Nat) (p page : Nat) (bs : List Nat) (hb : bs.length ≤ p) (hl : page * p + p ≤ img.length) :
    pgN (spliceN img (page * p) bs) p page = bs ++ (pgN img p page).drop bs.length := by
  unfold pgN spliceN
  have h1 : (img.take (page * p)).length = page * p := by rw [List.length_take]; omega
  rw [List.append_assoc, List.drop_left' h1]
  rw [List.take_append, List.take_of_length_le hb, List.drop_take, List.drop_drop]
theorem spliceN_get (img : List Nat) (o : Nat) (bs : List Nat) (hl : o + bs.length ≤ img.length) (j : Nat) : (spliceN img o bs)[j]? = if o ≤ j ∧ j < o + bs.length then bs[j - o]? else img[j]? := by
  unfold spliceN
  have h1 : (img.take o).length = o := by rw [List.length_take]; omega
  by_cases hj : j < o
  · rw [if_neg (by omega), List.append_assoc, List.getElem?_append_left (by omega), List.getElem?_take, if_pos hj]
  · by_cases hj2 : j < o + bs.length
    · rw [if_pos ⟨by omega, hj2⟩, List.append_assoc, List.getElem?_append_right (by omega), h1, List.getElem?_append_left (by omega)]
    · rw [if_neg (by omega), List.getElem?_append_right (by rw [List.length_append]; omega), List.length_append, h1, List.getElem?_drop]
      congr 1
      omega
theorem pgN_get (img : List Nat) (p k i : Nat) : (pgN img p k)[i]? = if i < p then img[k * p + i]? else none := by
  unfold pgN
  rw [List.getElem?_take]
  by_cases h : i < p
  · rw [if_pos h, if_pos h, List.getElem?_drop]
  · rw [if_neg h, if_neg h]
theorem pg_splice_other (img : List Nat) (p page k : Nat) (bs : List Nat) (hb : bs.length ≤ p) (hl : page * p + p ≤ img.length) (hne : k ≠ page) :
    pgN (spliceN img (page * p) bs) p k = pgN img p k := by
  apply List.ext_getElem?
  intro i
  rw [pgN_get, pgN_get]
  by_cases h : i < p
  · rw [if_pos h, if_pos h, spliceN_get _ _ _ (by omega), if_neg]
    rintro ⟨h1, h2⟩
    rcases Nat.lt_or_gt_of_ne hne with hlt | hgt
    · have : (k + 1) * p ≤ page * p := Nat.mul_le_mul_right p hlt
      rw [Nat.add_mul, Nat.one_mul] at this
      omega
    · have : (page + 1) * p ≤ k * p := Nat.mul_le_mul_right p hgt
      rw [Nat.add_mul, Nat.one_mul] at this
      omega
  · rw [if_neg h, if_neg h]
section
variable {p s r : Int} {img : List Nat}
theorem doD_same (hR : RightG p s r) (hl : (img.length : Int) = p * s * r) (page : Int) (h0 : 0 ≤ page) (h1 : page < s * r) (b : ByteArray) (hb : (b.size : Int) ≤ p) :
    pgN (doD p img page b) p.toNat page.toNat = nb b ++ (pgN img p.toNat page.toNat).drop b.size := by
  obtain ⟨b1, b2, b3, b4, b5⟩ := page_bd hR h0 h1
  have hp := hR.1
  have e1 : (page * p).toNat = page.toNat * p.toNat := by rw [Int.toNat_mul h0 (by omega)]
  unfold doD
  rw [e1, pg_splice_same _ _ _ _ (by rw [nb_len]; omega) (by rw [← e1]; omega), nb_len]
theorem doD_other (hR : RightG p s r) (hl : (img.length : Int) = p * s * r) (page : Int) (h0 : 0 ≤ page) (h1 : page < s * r) (b : ByteArray) (hb : (b.size : Int) ≤ p) (k : Nat) (hk : k ≠ page.toNat) :
    pgN (doD p img page b) p.toNat k = pgN img p.toNat k := by
  obtain ⟨b1, b2, b3, b4, b5⟩ := page_bd hR h0 h1
  have hp := hR.1
  have e1 : (page * p).toNat = page.toNat * p.toNat := by rw [Int.toNat_mul h0 (by omega)]
  unfold doD
  rw [e1, pg_splice_other _ _ _ _ _ (by rw [nb_len]; omega) (by rw [← e1]; omega) hk]
/-- How many bytes of a page a mask lets be done. -/
def kOf (p m : Int) : Nat := if m < 1 then 0 else if m = 1 then p.toNat else (tornK p m).toNat
theorem extract_all7 (b : ByteArray) (n : Nat) (h : b.size ≤ n) : b.extract 0 n = b := by
  apply nb_inj
  rw [nb_ext0, List.take_of_length_le (by rw [nb_len]; exact h)]
theorem crOne_k (hl : (img.length : Int) = p * s * r) (x : Int × ByteArray) (hx : (x.2.size : Int) = p) (m : Int) : crOne p img x m = doD p img x.1 (x.2.extract 0 (kOf p m)) := by
  unfold crOne kOf
  split
  · unfold doD spliceN
    rw [nb_ext0]
    simp
  · split
    · rw [extract_all7 _ _ (by omega)]
    · rfl
theorem kOf_le (hp : 32 ≤ p) (m : Int) : (kOf p m : Int) ≤ p := by
  unfold kOf
  split
  · omega
  · split
    · omega
    · have := tornK_bd hp (show 2 ≤ m by omega)
      omega
end
theorem new_img_page (p s r : Int) (hR : RightG p s r) (page : Int) (h0 : 0 ≤ page) (h1 : page < s * r) : pgN (newD p s r ⟨#[]⟩).img p.toNat page.toNat = List.replicate p.toNat 255 := by
  obtain ⟨b1, b2, b3, b4, b5⟩ := page_bd hR h0 h1
  have hp := hR.1
  have e1 : (page * p).toNat = page.toNat * p.toNat := by rw [Int.toNat_mul h0 (by omega)]
  unfold newD pgN
  show (((nb ⟨#[]⟩ ++ List.replicate (p * s * r - ((⟨#[]⟩ : ByteArray).size : Int)).toNat 255).drop _).take _) = _
  rw [show nb ⟨#[]⟩ = [] from rfl, List.nil_append, List.drop_replicate, List.take_replicate]
  congr 1
  have : ((⟨#[]⟩ : ByteArray).size : Int) = 0 := rfl
  omega
/-- A page that is pending nowhere, and blank: Program is done. -/
theorem program_fresh {p s r : Int} {d : Dev} (page : Int) (b : ByteArray) (hd : d.down = false) (h0 : 0 ≤ page) (h1 : page < s * r) (hb : (b.size : Int) = p) (hp : pend d.row page = none) (hbl : pgN d.img p.toNat page.toNat = List.replicate p.toNat 255) :
    programD p s r d page b = ((countD { d with row := d.row ++ [(page, b)] }).1, if (countD { d with row := d.row ++ [(page, b)] }).2 = true then 6 else 0) := by
  have hr : readD p s r d page = (blankS p, 0) := by
    unfold readD
    rw [if_neg (by rw [hd]; simp), if_neg (by omega)]
    unfold heldD
    rw [hp]
    show (strN (pgN d.img p.toNat page.toNat), _) = _
    rw [hbl, strN_rep]
    rfl
  unfold programD
  rw [hr, if_neg (by simp), if_neg (by simpa using hb), if_neg]
  unfold pendV
  rw [hp]
  simp
theorem read_img {p s r : Int} {d : Dev} (page : Int) (hd : d.down = false) (h0 : 0 ≤ page) (h1 : page < s * r) (hp : pend d.row page = none) : readD p s r d page = (strN (pgN d.img p.toNat page.toNat), 0) := by
  unfold readD heldD
  rw [if_neg (by rw [hd]; simp), if_neg (by omega), hp]
  rfl
end Go.Proofs.Ytbclmnlggngepaa
