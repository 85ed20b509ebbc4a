/- The walk of ChartPages. -/
import Derived.Test.YtbcoghfpomnkkaaLawChart2
namespace Go.Proofs.Ytbcoghfpomnkkaa
open Go.RowKit
set_option linter.unusedVariables false

/-- So many regions are open, the last one with u slots used. -/
def pg (n : Nat) (S : Int) (j : Nat) (u : Int) : List (Int × Int) := (List.range n).map fun i => if i + 1 < j then ((i : Int) + 1, S - 1) else if i + 1 = j then ((i : Int) + 1, u) else (0, 0)
theorem pg_len (n : Nat) (S : Int) (j : Nat) (u : Int) : (pg n S j u).length = n := by simp [pg]
theorem pg_get (n : Nat) (S : Int) (j : Nat) (u : Int) (i : Nat) : (pg n S j u)[i]? = if i < n then some (if i + 1 < j then ((i : Int) + 1, S - 1) else if i + 1 = j then ((i : Int) + 1, u) else (0, 0)) else none := by
  unfold pg
  by_cases h : i < n <;> simp [h]
theorem pg_ep (n : Nat) (S : Int) (j : Nat) (u : Int) (hj : j ≤ n) (i : Nat) : epo (pg n S j u) i = if i < j then (i : Int) + 1 else 0 := by
  unfold epo
  rw [List.getD_eq_getElem?_getD, pg_get]
  by_cases h : i < n
  · rw [if_pos h]
    by_cases h1 : i + 1 < j
    · rw [if_pos h1, if_pos (by omega)]; rfl
    · by_cases h2 : i + 1 = j
      · rw [if_neg h1, if_pos h2, if_pos (by omega)]; rfl
      · rw [if_neg h1, if_neg h2, if_neg (by omega)]; rfl
  · rw [if_neg h, if_neg (by omega)]; rfl
theorem pg_us (n : Nat) (S : Int) (j : Nat) (u : Int) (hj : j ≤ n) (i : Nat) : uso (pg n S j u) i = if i + 1 < j then S - 1 else if i + 1 = j then u else 0 := by
  unfold uso
  rw [List.getD_eq_getElem?_getD, pg_get]
  by_cases h : i < n
  · rw [if_pos h]
    by_cases h1 : i + 1 < j
    · rw [if_pos h1, if_pos (by omega)]; rfl
    · by_cases h2 : i + 1 = j
      · rw [if_neg h1, if_pos h2, if_neg h1, if_pos h2]; rfl
      · rw [if_neg h1, if_neg h2, if_neg h1, if_neg h2]; rfl
  · rw [if_neg h, if_neg (by omega), if_neg (by omega)]; rfl
theorem pg_set (n : Nat) (S : Int) (j : Nat) (u : Int) (hj : 1 ≤ j) (hjn : j ≤ n) (v : Int) : (pg n S j u).set (j - 1) ((j : Int), v) = pg n S j v := by
  apply List.ext_getElem?
  intro i
  rw [List.getElem?_set, pg_get, pg_get, pg_len]
  by_cases h : j - 1 = i
  · rw [if_pos h, if_pos (by omega), if_pos (by omega), if_neg (by omega), if_pos (by omega)]
    congr 2; omega
  · rw [if_neg h]
    by_cases h2 : i < n
    · rw [if_pos h2, if_pos h2]
      by_cases h3 : i + 1 < j
      · rw [if_pos h3, if_pos h3]
      · rw [if_neg h3, if_neg h3, if_neg (by omega), if_neg (by omega)]
    · rw [if_neg h2, if_neg h2]
theorem pg_next (n : Nat) (S : Int) (j : Nat) (u : Int) (hjn : j < n) (hu : j = 0 ∨ u = S - 1) : (pg n S j u).set j ((j : Int) + 1, 0) = pg n S (j + 1) 0 := by
  apply List.ext_getElem?
  intro i
  rw [List.getElem?_set, pg_get, pg_get, pg_len]
  by_cases h : j = i
  · subst h
    rw [if_pos rfl, if_pos hjn, if_pos hjn, if_neg (by omega), if_pos rfl]
  · rw [if_neg h]
    by_cases h2 : i < n
    · rw [if_pos h2, if_pos h2]
      by_cases h3 : i + 1 < j
      · rw [if_pos h3, if_pos (by omega)]
      · by_cases h4 : i + 1 = j
        · rw [if_neg h3, if_pos h4, if_pos (by omega)]
          rcases hu with hu | hu
          · omega
          · rw [hu]
        · rw [if_neg h3, if_neg h4, if_neg (by omega), if_neg (by omega)]
    · rw [if_neg h2, if_neg h2]
theorem pg_zero (n : Nat) (S : Int) : List.replicate n ((0 : Int), (0 : Int)) = pg n S 0 0 := by
  apply List.ext_getElem?
  intro i
  rw [pg_get, List.getElem?_replicate]
  by_cases h : i < n
  · rw [if_pos h, if_pos h, if_neg (by omega), if_neg (by omega)]
  · rw [if_neg h, if_neg h]
theorem pg_frees (n : Nat) (S : Int) (j : Nat) (u : Int) (hj : j ≤ n) : ∀ m, frees (pg n S j u) m = m - j
  | 0 => by simp [frees]
  | m + 1 => by
    rw [frees, pg_frees n S j u hj m, pg_ep n S j u hj]
    by_cases h : m < j
    · rw [if_pos h, if_neg (by omega)]; omega
    · rw [if_neg h, if_pos rfl]; omega
theorem pg_nwst (n : Nat) (S : Int) (j : Nat) (u : Int) (hj : j ≤ n) : ∀ m, nwst (pg n S j u) m = if m ≤ j then ((m : Int) - 1, (m : Int)) else ((j : Int) - 1, (j : Int))
  | 0 => by rw [if_pos (by omega)]; rfl
  | m + 1 => by
    have ih := pg_nwst n S j u hj m
    have he := pg_ep n S j u hj m
    unfold nwst
    rw [ih, he]
    by_cases h : m < j
    · rw [if_pos (by omega : m ≤ j), if_pos h, if_pos (by show (m : Int) < (m : Int) + 1; omega), if_pos (by omega)]
      simp
    · rw [if_neg h, if_neg (by omega : ¬ m + 1 ≤ j)]
      by_cases h2 : m ≤ j
      · obtain rfl : m = j := by omega
        rw [if_pos h2, if_neg (by show ¬ (m : Int) < 0; omega)]
      · rw [if_neg h2, if_neg (by show ¬ (j : Int) < 0; omega)]
theorem pg_nth (n : Nat) (S : Int) (j : Nat) (u : Int) (hj : j < n) : nth (pg n S j u) 1 = j := by
  unfold nth
  rw [pg_len, pg_nwst n S j u (by omega), if_neg (by omega)]
  show (((j : Int) - 1 + ((1 : Nat) : Int)) % (n : Int)).toNat = j
  rw [show (j : Int) - 1 + ((1 : Nat) : Int) = (j : Int) by omega, Int.emod_eq_of_lt (by omega) (by omega)]
  omega
theorem pg_old (n : Nat) (S : Int) (u : Int) (o : Int) (ho : o = (n : Int) - 1) (hn : 2 ≤ n) : ∀ m, 1 ≤ m → oldF (pg n S n u) o m = (0, true)
  | 0, h => by omega
  | 1, _ => by
    have he := pg_ep n S n u (Nat.le_refl _) 0
    rw [if_pos (by omega)] at he
    show (if _ then _ else _) = _
    rw [if_pos ⟨by rw [he]; decide, by subst ho; simp; omega, Or.inl rfl⟩]
  | m + 2, _ => by
    have ih := pg_old n S u o ho hn (m + 1) (by omega)
    have he := pg_ep n S n u (Nat.le_refl _) (m + 1)
    have he0 := pg_ep n S n u (Nat.le_refl _) 0
    rw [if_pos (by omega)] at he0
    show (if _ then _ else _) = _
    rw [ih, if_neg]
    rintro ⟨h1, h2, h3⟩
    rcases h3 with h3 | h3
    · cases h3
    · rw [he, he0] at h3
      rw [he] at h1
      by_cases h5 : m + 1 < n
      · rw [if_pos h5] at h3; omega
      · rw [if_neg h5] at h1; omega
theorem pg_ok (P S : Int) (n j : Nat) (u : Int) (hR : RightG P S n) (hj : j ≤ n) (h0 : 0 ≤ u) (h1 : u ≤ S - 1) : ChOk P S (pg n S j u) ((j : Int) - 1) := by
  obtain ⟨r1, r2, r3, r4, r5, r6⟩ := id hR
  refine ⟨by rw [pg_len]; exact hR, fun k => ?_, fun k => ?_, fun k => ?_, fun k => ?_, ?_⟩
  · rw [pg_ep _ _ _ _ hj]; split <;> omega
  · rw [pg_ep _ _ _ _ hj]; split <;> omega
  · rw [pg_us _ _ _ _ hj]; split
    · omega
    · split <;> omega
  · rw [pg_us _ _ _ _ hj]; split
    · omega
    · split <;> omega
  · by_cases h : j = 0
    · left; omega
    · right; exact ⟨j - 1, by rw [pg_len]; omega, by omega, by rw [pg_ep _ _ _ _ hj, if_pos (by omega)]; omega⟩

theorem pg_left (n : Nat) (S : Int) (j : Nat) (u : Int) (hj : j ≤ n) : leftF S (pg n S j u) ((j : Int) - 1) = if j = 0 then 0 else S - 1 - u := by
  unfold leftF
  by_cases h : j = 0
  · rw [if_pos (by omega), if_pos h]
  · rw [if_neg (by omega), if_neg h, pg_us _ _ _ _ hj, if_neg (by omega), if_pos (by omega)]
theorem pg_take (w : World) (g q : Nat) (P S : Int) (n j : Nat) (u : Int) (hR : RightG P S n) (h : ChAt w g q P S (pg n S j u) ((j : Int) - 1)) (hj1 : 1 ≤ j) (hj : j ≤ n) (h0 : 0 ≤ u) (h1 : u < S - 1) :
    Calls Try.prog 22 #[.pointer (some ⟨g, 0, none⟩)] w fun e w' => e = .returned (.tuple #[.int .i64 (((j - 1 : Nat) : Int) * S + (u + 1)), .bool true]) ∧ ChAt w' g q P S (pg n S j (u + 1)) ((j : Int) - 1) ∧ Mv [g, q] w w' := by
  have ok := pg_ok P S n j u hR hj h0 (by omega)
  have e : (j : Int) - 1 = ((j - 1 : Nat) : Int) := by omega
  rw [e] at h ok ⊢
  have hu : uso (pg n S j u) (j - 1) = u := by rw [pg_us _ _ _ _ hj, if_neg (by omega), if_pos (by omega)]
  have he : epo (pg n S j u) (j - 1) = j := by rw [pg_ep _ _ _ _ hj, if_pos (by omega)]; omega
  have H := ctake_yes w g q P S (pg n S j u) (j - 1) h ok (by rw [pg_len]; omega) (by rw [hu]; exact h1)
  rw [hu, he, pg_set n S j u hj1 hj] at H
  exact H
theorem pg_takeno (w : World) (g q : Nat) (P S : Int) (n j : Nat) (u : Int) (hR : RightG P S n) (h : ChAt w g q P S (pg n S j u) ((j : Int) - 1)) (hj : j ≤ n) (h0 : 0 ≤ u) (h1 : u ≤ S - 1) (hz : j = 0 ∨ u = S - 1) :
    Calls Try.prog 22 #[.pointer (some ⟨g, 0, none⟩)] w fun e w' => e = .returned (.tuple #[.int .i64 0, .bool false]) ∧ Kp w w' :=
  ctake_no w g q P S _ _ h (pg_ok P S n j u hR hj h0 h1) (by rw [pg_left n S j u hj]; split <;> omega)
theorem pg_open (w : World) (g q : Nat) (P S : Int) (n j : Nat) (u : Int) (hR : RightG P S n) (h : ChAt w g q P S (pg n S j u) ((j : Int) - 1)) (hj : j < n) (h0 : 0 ≤ u) (h1 : u ≤ S - 1) (hz : j = 0 ∨ u = S - 1) :
    Calls Try.prog 14 #[.pointer (some ⟨g, 0, none⟩)] w fun e w' => e = .returned (.tuple #[.int .i64 (j : Nat), .int .u32 ((j : Int) + 1), .bool true]) ∧ ChAt w' g q P S (pg n S (j + 1) 0) (((j + 1 : Nat) : Int) - 1) ∧ Mv [g, q] w w' := by
  obtain ⟨r1, r2, r3, r4, r5, r6⟩ := id hR
  have ok := pg_ok P S n j u hR (by omega) h0 h1
  have hl := pg_len n S j u
  have hN := pg_nwst n S j u (by omega) n
  rw [if_neg (by omega)] at hN
  have hth := pg_nth n S j u hj
  have H := copen_yes w g q P S _ _ h (by omega) (by omega) ok.ep0 (by rw [hl, pg_frees n S j u (by omega)]; omega) (by rw [hl, hN]; show (j : Int) < 2147483647; omega) 1 (by omega) (by omega) (fun i hi hi2 => by omega) (by rw [hth, pg_ep _ _ _ _ (by omega), if_neg (by omega)])
  rw [hth, hl, hN] at H
  simp only at H
  rw [pg_next n S j u hj hz] at H
  rw [show ((j + 1 : Nat) : Int) - 1 = (j : Int) by omega]
  exact H
theorem pg_openno (w : World) (g q : Nat) (P S : Int) (n : Nat) (u : Int) (hR : RightG P S n) (h : ChAt w g q P S (pg n S n u) ((n : Int) - 1)) (h0 : 0 ≤ u) (h1 : u ≤ S - 1) :
    Calls Try.prog 14 #[.pointer (some ⟨g, 0, none⟩)] w fun e w' => e = .returned (.tuple #[.int .i64 0, .int .u32 0, .bool false]) ∧ Kp w w' := by
  obtain ⟨r1, r2, r3, r4, r5, r6⟩ := id hR
  have ok := pg_ok P S n n u hR (Nat.le_refl _) h0 h1
  exact copen_no w g q P S _ _ h (by rw [pg_len]; omega) ok.ep0 (Or.inl (by rw [pg_len, pg_frees n S n u (Nat.le_refl _)]; omega))

end Go.Proofs.Ytbcoghfpomnkkaa
