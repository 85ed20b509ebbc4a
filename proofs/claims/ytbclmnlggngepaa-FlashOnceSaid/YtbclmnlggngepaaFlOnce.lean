/- FlashOnce. -/
import Derived.Test.YtbclmnlggngepaaFlRots
namespace Go.Proofs.Ytbclmnlggngepaa
open Go.RowKit
set_option linter.unusedVariables false
/-- Are all bytes 255? -/
def blankB (s : ByteArray) : Bool := (nb s).all (· == 255)
theorem blank_cases (s : ByteArray) : (blankB s = true ∧ ∀ i (h : i < s.size), s[i].toNat = 255) ∨ (blankB s = false ∧ ∃ j, ∃ h : j < s.size, s[j].toNat ≠ 255) := by
  rcases hb : blankB s with _ | _
  · refine Or.inr ⟨rfl, ?_⟩
    unfold blankB at hb
    rw [List.all_eq_false] at hb
    obtain ⟨x, hx, hne⟩ := hb
    obtain ⟨j, hj, rfl⟩ := List.mem_iff_getElem.1 hx
    have hj2 : j < s.size := by rw [nb_len] at hj; exact hj
    refine ⟨j, hj2, ?_⟩
    intro e
    apply hne
    have : (nb s)[j] = s[j].toNat := by simp [nb]; rfl
    rw [this, e]
    rfl
  · refine Or.inl ⟨rfl, fun i h => ?_⟩
    unfold blankB at hb
    rw [List.all_eq_true] at hb
    have hm : (nb s)[i]'(by rw [nb_len]; exact h) ∈ nb s := List.getElem_mem _
    have := hb _ hm
    have e : (nb s)[i]'(by rw [nb_len]; exact h) = s[i].toNat := by simp [nb]; rfl
    rw [e] at this
    simpa using this
set_option maxHeartbeats 800000 in
theorem rblank_any (s : ByteArray) (hs : s.size ≤ 9223372036854775807) (w : World) :
    Calls Try.prog 28 #[.string s] w fun e w' => e = .returned (.bool (blankB s)) ∧ w = w' := by
  rcases blank_cases s with ⟨hb, H⟩ | ⟨hb, j, hj, hne⟩
  · rw [hb]
    have HH := Lib.hid H
    clear H hb
    go_enter Try.func28, Try.ntmps28
    go_wp2_with fail
    go_loop [3] (fun i => ∃ k : Nat, k ≤ s.size ∧ i = .int .i64 k) (fun i => s.size - (intOf i).toNat)
    case atStart => exact ⟨0, by omega, rfl⟩
    case round =>
      obtain ⟨k, hk, rfl⟩ := hrel
      by_cases hlt : k < s.size
      · have he := HH.out k hlt
        have hd : ((s[k].toNat : Int) != 255) = false := by rw [he]; rfl
        clear he
        go_wp2_with fail
        go_round
        case rel => exact ⟨k + 1, by omega, by go_num⟩
        case measure => simp [intOf]; omega
      · go_wp2_with fail
        go_ret
        exact ⟨rfl, rfl⟩
  · rw [hb]
    clear hb
    go_enter Try.func28, Try.ntmps28
    go_wp2_with fail
    go_loop [3] (fun i => ∃ k : Nat, k ≤ j ∧ i = .int .i64 k) (fun i => s.size - (intOf i).toNat)
    case atStart => exact ⟨0, by omega, rfl⟩
    case round =>
      obtain ⟨k, hk, rfl⟩ := hrel
      have hlt : k < s.size := by omega
      by_cases he : s[k].toNat = 255
      · have hd : ((s[k].toNat : Int) != 255) = false := by rw [he]; rfl
        have hkj : k ≠ j := fun e => by subst e; exact hne he
        clear he
        go_wp2_with fail
        go_round
        case rel => exact ⟨k + 1, by omega, by go_num⟩
        case measure => simp [intOf]; omega
      · have hd : ((s[k].toNat : Int) != 255) = true := by simp; omega
        clear he
        go_wp2_with fail
        go_ret
        exact ⟨rfl, rfl⟩


theorem blankB_iff (s : ByteArray) (h : s.size = 32) : (blankB s = true → s = blankS 32) ∧ (blankB s = false → s ≠ blankS 32) := by
  have hb : nb (blankS 32) = List.replicate 32 255 := nb_fillS 32
  refine ⟨fun h1 => ?_, fun h1 h2 => ?_⟩
  · apply nb_inj
    rw [hb]
    unfold blankB at h1
    rw [List.all_eq_true] at h1
    refine List.eq_replicate_iff.2 ⟨by rw [nb_len, h], fun x hx => by simpa using h1 x hx⟩
  · rw [h2] at h1
    unfold blankB at h1
    rw [hb] at h1
    exact absurd h1 (by decide)
def oD (img : List Nat) (row : Rw) : Dev := ⟨img, row, false, false, 0⟩
section
variable {img : List Nat} {P : Int} {A B : ByteArray}
theorem one_prog (hP : 0 ≤ P ∧ P < 12) (hB : B.size = 32) (hbl : pgN img 32 P.toNat = List.replicate 32 255) : programD 32 3 4 (oD img []) P B = (oD img [(P, B)], 0) := by
  rw [program_fresh P B rfl (by omega) (by omega) (by omega) rfl hbl, countD_none _ rfl]
  rfl
theorem one_flush : flushD 32 (oD img [(P, B)]) = (oD (doD 32 img P B) [], 0) := by
  unfold flushD
  rw [countD_none _ rfl]
  rfl
theorem one_flush0 : flushD 32 (oD img []) = (oD img [], 0) := by
  unfold flushD
  rw [countD_none _ rfl]
  rfl
theorem one_again (hP : 0 ≤ P ∧ P < 12) (hB : B.size = 32) : programD 32 3 4 (oD img [(P, A)]) P B = (oD img [(P, A)], 7) := by
  have e : readD 32 3 4 (oD img [(P, A)]) P = (heldD (oD img [(P, A)]) 32 P, 0) := by unfold readD; rw [if_neg (by simp [oD]), if_neg (by omega)]
  have e2 : pendV (oD img [(P, A)]).row P = (A, true) := by
    unfold pendV
    have : pend (oD img [(P, A)]).row P = some A := by
      show pend ([] ++ [(P, A)]) P = some A
      rw [pend_snoc, if_pos rfl]
    rw [this]
  unfold programD
  rw [e, if_neg (by simp), if_neg (by simp; omega), e2, if_pos (Or.inl rfl)]
theorem one_full (hP : 0 ≤ P ∧ P < 12) (hB : B.size = 32) (hbl : strN (pgN img 32 P.toNat) ≠ blankS 32) : programD 32 3 4 (oD img []) P B = (oD img [], 7) := by
  have e : readD 32 3 4 (oD img []) P = (strN (pgN img 32 P.toNat), 0) := read_img P rfl (by omega) (by omega) rfl
  unfold programD
  rw [e, if_neg (by simp), if_neg (by simp; omega), if_pos (Or.inr hbl)]
theorem one_erase_no (hP : 0 ≤ P ∧ P < 12) : eraseD 32 3 4 (oD img [(P, A)]) (P / 3) = (oD img [(P, A)], 7) := by
  unfold eraseD
  rw [if_neg (by simp [oD]), if_neg (by omega), if_pos]
  refine ⟨(P, A), by simp [oD], ?_⟩
  show P / 3 * 3 ≤ P ∧ P < P / 3 * 3 + 3
  omega
theorem one_erase (hP : 0 ≤ P ∧ P < 12) : eraseD 32 3 4 (oD img []) (P / 3) = (oD (doAll 32 img (newRows 32 (P / 3 * 3) 3)) [], 0) := by
  unfold eraseD
  rw [if_neg (by simp [oD]), if_neg (by omega), if_neg (by simp [oD]), countD_none _ rfl]
  rfl
theorem one_rows (hl : (img.length : Int) = 32 * 3 * 4) (fr : Int) (h0 : 0 ≤ fr) (hP : 0 ≤ P ∧ P < 12) : ∀ k : Nat, fr + k ≤ 12 → fr ≤ P → P < fr + k → pgN (doAll 32 img (newRows 32 fr k)) 32 P.toNat = List.replicate 32 255
  | 0, _, h1, h2 => by omega
  | k + 1, hk, h1, h2 => by
    have hm := newRows_mem (p := 32) (s := 3) (r := 4) (k := k) (by omega) h0 (show fr + (k : Int) ≤ 3 * 4 by omega)
    have hl2 : ((doAll 32 img (newRows 32 fr k)).length : Int) = 32 * 3 * 4 := by rw [doAll_len tinyR _ _ hl hm]; exact hl
    have hbs : ((blankS 32).size : Int) ≤ 32 := by rw [blankS_size]; decide
    rw [newRows_succ, doAll_app]
    by_cases he : P = fr + k
    · have := doD_same tinyR hl2 (fr + (k : Int)) (by omega) (by omega) (blankS 32) hbs
      rw [← he] at this ⊢
      refine Eq.trans this ?_
      rw [show nb (blankS 32) = List.replicate 32 255 from nb_fillS 32, List.drop_eq_nil_of_le, List.append_nil]
      rw [blankS_size]
      unfold pgN
      rw [List.length_take]
      exact Nat.min_le_left _ _
    · have := doD_other tinyR hl2 (fr + (k : Int)) (by omega) (by omega) (blankS 32) hbs P.toNat (by omega)
      refine Eq.trans this ?_
      exact one_rows hl fr h0 hP k (by omega) h1 (by omega)
end
set_option maxRecDepth 20000 in
set_option maxHeartbeats 6400000 in
theorem FlashOnce_walk (w : World) (page : Int) (wp : (Lit.int .i64 page).wf = true) (a : ByteArray) (wa : a.size ≤ 140737488351232) (b : ByteArray) (wb : b.size ≤ 140737488351232) :
    Calls Try.prog 7 #[.int .i64 page, .string a, .string b] w fun e w' => e = .returned (.bool true) ∧ Kp w w' := by
  have hp := bounds_i64 wp
  clear wp
  have HPK := Lib.hid (fun w => pick_any page 12 (by omega) (by omega) hp.1 hp.2 w)
  have hP : 0 ≤ page % 12 ∧ page % 12 < 12 := by omega
  generalize page % 12 = P at *
  clear hp
  have HSA := Lib.hid (fun w => short_any a 32 (by omega) (by omega) w)
  have HSB := Lib.hid (fun w => short_any b 32 (by omega) (by omega) w)
  have hxa := ext32_le a
  have hxb := ext32_le b
  have HFA := Lib.hid (fun w => fill_any 255 (32 - ((a.extract 0 32).size : Int)) (by omega) (by omega) w)
  have HFB := Lib.hid (fun w => fill_any 0 (32 - ((b.extract 0 32).size : Int)) (by omega) (by omega) w)
  have hsa := padS_size a 255
  have hsb := padS_size b 0
  have HPA := Lib.hid (show a.extract 0 32 ++ fillS 255 (32 - ((a.extract 0 32).size : Int)).toNat = padS a 255 from rfl)
  have HPB := Lib.hid (show b.extract 0 32 ++ fillS 0 (32 - ((b.extract 0 32).size : Int)).toNat = padS b 0 from rfl)
  have hla : (a.extract 0 32).size + (fillS 255 (32 - ((a.extract 0 32).size : Int)).toNat).size ≤ 9223372036854775807 := by rw [fillS_size]; omega
  have hlb : (b.extract 0 32).size + (fillS 0 (32 - ((b.extract 0 32).size : Int)).toNat).size ≤ 9223372036854775807 := by rw [fillS_size]; omega
  have qa : IntKind.i64.wrap (32 - ((a.extract 0 32).size : Int)) = 32 - ((a.extract 0 32).size : Int) := IntWalk.i64_in _ (by omega)
  have qb : IntKind.i64.wrap (32 - ((b.extract 0 32).size : Int)) = 32 - ((b.extract 0 32).size : Int) := IntWalk.i64_in _ (by omega)
  generalize a.extract 0 32 = a1 at *
  generalize b.extract 0 32 = b1 at *
  generalize fillS 255 (32 - (a1.size : Int)).toNat = a2 at *
  generalize fillS 0 (32 - (b1.size : Int)).toNat = b2 at *
  generalize padS a 255 = A at *
  generalize padS b 0 = B at *
  have hbl0 : pgN al0.img 32 P.toNat = List.replicate 32 255 := al0_page P hP.1 hP.2
  have hl2 : ((doD 32 al0.img P A).length : Int) = 32 * 3 * 4 := by rw [doD_len tinyR al0_len hP.1 (by omega) (by omega)]; exact al0_len
  have hI2 : pgN (doD 32 al0.img P A) 32 P.toNat = nb A := by
    have := doD_same tinyR al0_len P hP.1 (by omega) A (by omega)
    rw [show (32 : Int).toNat = 32 from rfl] at this
    rw [this, List.drop_eq_nil_of_le, List.append_nil]
    unfold pgN
    rw [List.length_take]
    omega
  have hpg2 : strN (pgN (doD 32 al0.img P A) 32 P.toNat) = A := by rw [hI2, strN_nb]
  have k1 := one_prog (img := al0.img) (P := P) (B := A) hP hsa hbl0
  have k2 := one_again (img := al0.img) (P := P) (A := A) (B := B) hP hsb
  have k3 := one_erase_no (img := al0.img) (P := P) (A := A) hP
  have k4 := one_flush (img := al0.img) (P := P) (B := A)
  have h32 : A.size ≤ 9223372036854775807 := by omega
  have h32b : B.size ≤ 9223372036854775807 := by omega
  have HC1 := Lib.hid (fun (w W : World) g ib ic v (h : FlS w W g ib ic 32 3 4 al0 v) => show Calls _ _ _ _ (fun e w' => ∃ v', e = .returned (.int .i64 0) ∧ FlS w w' g ib ic 32 3 4 (oD al0.img [(P, A)]) v') from by
    have := prog_S (show FlS w W g ib ic 32 3 4 (oD al0.img []) v from h) (by show (0 : Nat) < _; omega) P A h32
    rw [k1] at this
    exact this)
  have HC2 := Lib.hid (fun (w W : World) g ib ic v (h : FlS w W g ib ic 32 3 4 (oD al0.img [(P, A)]) v) => show Calls _ _ _ _ (fun e w' => ∃ v', e = .returned (.int .i64 7) ∧ FlS w w' g ib ic 32 3 4 (oD al0.img [(P, A)]) v') from by
    have := prog_S h (by show (1 : Nat) < _; omega) P B h32b
    rw [k2] at this
    exact this)
  have HC3 := Lib.hid (fun (w W : World) g ib ic v (h : FlS w W g ib ic 32 3 4 (oD al0.img [(P, A)]) v) => show Calls _ _ _ _ (fun e w' => ∃ v', e = .returned (.int .i64 7) ∧ FlS w w' g ib ic 32 3 4 (oD al0.img [(P, A)]) v') from by
    have := erase_S h (by show (1 : Nat) ≤ _; omega) (P / 3)
    rw [k3] at this
    exact this)
  have HC4 := Lib.hid (fun (w W : World) g ib ic v (h : FlS w W g ib ic 32 3 4 (oD al0.img [(P, A)]) v) => show Calls _ _ _ _ (fun e w' => ∃ v', e = .returned (.int .i64 0) ∧ FlS w w' g ib ic 32 3 4 (oD (doD 32 al0.img P A) []) v') from by
    have := flush_S h
    rw [k4] at this
    exact this)
  clear k1 k2 k3 k4 hbl0
  generalize doD 32 al0.img P A = I2 at *
  have HBA := Lib.hid (fun w => rblank_any A h32 w)
  have HBS := Lib.hid (fun w => rblank_any (blankS 32) (by rw [blankS_size]; decide) w)
  rw [show blankB (blankS 32) = true by kernel_rfl] at HBS
  have hbsz : (blankS 32).size = 32 := blankS_size 32
  have htd : P.tdiv 3 = P / 3 := Int.tdiv_eq_ediv_of_nonneg hP.1
  have q0 : IntKind.i64.wrap (P / 3) = P / 3 := IntWalk.i64_in _ (by omega)
  have hfin : ∀ I4 : List Nat, (I4.length : Int) = 32 * 3 * 4 → pgN (doAll 32 I4 (newRows 32 (P / 3 * 3) 3)) 32 P.toNat = List.replicate 32 255 := fun I4 h => one_rows h (P / 3 * 3) (by omega) hP 3 (by omega) (by omega) (by omega)
  obtain ⟨hbt, hbf⟩ := blankB_iff A hsa
  rcases hblank : blankB A with _ | _
  · have hne : strN (pgN I2 32 P.toNat) ≠ blankS 32 := by rw [hpg2]; exact hbf hblank
    have k5 := one_full (img := I2) (P := P) (B := B) hP hsb hne
    have hl4 := hl2
    have HC5 := Lib.hid (fun (w W : World) g ib ic v (h : FlS w W g ib ic 32 3 4 (oD I2 []) v) => show Calls _ _ _ _ (fun e w' => ∃ v', e = .returned (.int .i64 7) ∧ FlS w w' g ib ic 32 3 4 (oD I2 []) v') from by
      have := prog_S h (by show (0 : Nat) < _; omega) P B h32b
      rw [k5] at this
      exact this)
    have HC5f := Lib.hid (fun (w W : World) g ib ic v (h : FlS w W g ib ic 32 3 4 (oD I2 []) v) => show Calls _ _ _ _ (fun e w' => ∃ v', e = .returned (.int .i64 0) ∧ FlS w w' g ib ic 32 3 4 (oD I2 []) v') from by
      have := flush_S h
      rw [one_flush0] at this
      exact this)
    clear k5 hne hI2
    rw [hblank] at HBA
    have hf4 := hfin (I2) hl4
    have k6 := one_erase (img := I2) hP
    have HC6 := Lib.hid (fun (w W : World) g ib ic v (h : FlS w W g ib ic 32 3 4 (oD (I2) []) v) => show Calls _ _ _ _ (fun e w' => ∃ v', e = .returned (.int .i64 0) ∧ FlS w w' g ib ic 32 3 4 (oD (doAll 32 (I2) (newRows 32 (P / 3 * 3) 3)) []) v') from by
      have := erase_S h (by show (0 : Nat) ≤ _; omega) (P / 3)
      rw [k6] at this
      exact this)
    clear k6
    generalize doAll 32 (I2) (newRows 32 (P / 3 * 3) 3) = I5 at *
    have k7 : readD 32 3 4 (oD I5 []) P = (blankS 32, 0) := by
      rw [read_img P rfl hP.1 (by omega) rfl]
      show (strN (pgN I5 32 P.toNat), _) = _
      rw [hf4, strN_rep]
      rfl
    have HC7 := Lib.hid (fun (w W : World) g ib ic v (h : FlS w W g ib ic 32 3 4 (oD I5 []) v) => show Calls _ _ _ _ (fun e w' => e = .returned (.tuple #[.string (blankS 32), .int .i64 0]) ∧ FlS w w' g ib ic 32 3 4 (oD I5 []) v) from by
      have := read_S h P
      rw [k7] at this
      exact this)
    have k8 := one_prog (img := I5) (P := P) (B := B) hP hsb hf4
    have HC8 := Lib.hid (fun (w W : World) g ib ic v (h : FlS w W g ib ic 32 3 4 (oD I5 []) v) => show Calls _ _ _ _ (fun e w' => ∃ v', e = .returned (.int .i64 0) ∧ FlS w w' g ib ic 32 3 4 (oD I5 [(P, B)]) v') from by
      have := prog_S h (by show (0 : Nat) < _; omega) P B h32b
      rw [k8] at this
      exact this)
    clear k7 k8 hf4 hfin hl4 hl2 hpg2 hbt hbf hblank
    generalize blankS 32 = bs at *
    go_enter Try.func7, Try.ntmps7
    go_wp2_with fail
    refine (ftiny _).mono ?_
    rintro e w1 ⟨rfl, hk1⟩
    go_wp2_with fail
    refine (new0_S _).mono ?_
    rintro e w2 ⟨g, ib, ic, v, rfl, h2⟩
    go_wp2_with fail
    refine (falive _).mono ?_
    rintro e w3 ⟨rfl, hk3⟩
    have h3 := h2.keep hk3
    clear h2 hk3
    go_wp2_with fail
    refine (HPK.out _).mono ?_
    rintro e wz ⟨rfl, rfl⟩
    go_wp2_with fail
    refine (HSA.out _).mono ?_
    rintro e w4 ⟨rfl, rfl⟩
    go_wp2_with fail
    refine (HFA.out _).mono ?_
    rintro e w5 ⟨rfl, hk5⟩
    go_wp2_with fail
    refine (HSB.out _).mono ?_
    rintro e w6 ⟨rfl, rfl⟩
    go_wp2_with fail
    refine (HFB.out _).mono ?_
    rintro e w7 ⟨rfl, hk7⟩
    have h7 := h3.keep (hk5.trans hk7)
    clear h3 hk5 hk7
    go_wp2_with fail
    rw [HPA.out, HPB.out]
    refine (HC1.out _ _ _ _ _ _ h7).mono ?_
    rintro e w8 ⟨v8, rfl, h8⟩
    go_wp2_with fail
    refine (HC2.out _ _ _ _ _ _ h8).mono ?_
    rintro e w9 ⟨v9, rfl, h9⟩
    go_wp2_with fail
    refine (HC3.out _ _ _ _ _ _ h9).mono ?_
    rintro e w10 ⟨v10, rfl, h10⟩
    go_wp2_with fail
    refine (HC4.out _ _ _ _ _ _ h10).mono ?_
    rintro e w11 ⟨v11, rfl, h11⟩
    go_wp2_with fail
    refine (HC5.out _ _ _ _ _ _ h11).mono ?_
    rintro e w12 ⟨v12, rfl, h12⟩
    go_wp2_with fail
    refine (HC5f.out _ _ _ _ _ _ h12).mono ?_
    rintro e w13 ⟨v13, rfl, h13⟩
    go_wp2_with fail
    refine (HC6.out _ _ _ _ _ _ h13).mono ?_
    rintro e w14 ⟨v14, rfl, h14⟩
    go_wp2_with fail
    refine (HC7.out _ _ _ _ _ _ h14).mono ?_
    rintro e w15 ⟨rfl, h15⟩
    go_wp2_with fail
    refine (HBA.out _).mono ?_
    rintro e w16 ⟨rfl, rfl⟩
    go_wp2_with fail
    refine (HBS.out _).mono ?_
    rintro e w17 ⟨rfl, rfl⟩
    go_wp2_with fail
    refine (HC8.out _ _ _ _ _ _ h15).mono ?_
    rintro e w18 ⟨v18, rfl, h18⟩
    go_wp2_with fail
    go_ret
    exact ⟨rfl, hk1.trans h18.kp⟩
  · have hbl2 : pgN I2 32 P.toNat = List.replicate 32 255 := by
      have h9 : strN (pgN I2 32 P.toNat) = strN (List.replicate 32 255) := by rw [hpg2, hbt hblank, strN_rep]; rfl
      have h8 := congrArg nb h9
      rw [hpg2] at h9
      have h7 : nb A = List.replicate 32 255 := by rw [h9, nb_strN]; intro n hn; rw [(List.mem_replicate.1 hn).2]; omega
      have h6 := hI2
      rw [h7] at h6
      exact h6
    have k5 := one_prog (img := I2) (P := P) (B := B) hP hsb hbl2
    have hl4 : ((doD 32 I2 P B).length : Int) = 32 * 3 * 4 := by rw [doD_len tinyR hl2 hP.1 (by omega) (by omega)]; exact hl2
    have HC5 := Lib.hid (fun (w W : World) g ib ic v (h : FlS w W g ib ic 32 3 4 (oD I2 []) v) => show Calls _ _ _ _ (fun e w' => ∃ v', e = .returned (.int .i64 0) ∧ FlS w w' g ib ic 32 3 4 (oD I2 [(P, B)]) v') from by
      have := prog_S h (by show (0 : Nat) < _; omega) P B h32b
      rw [k5] at this
      exact this)
    have HC5f := Lib.hid (fun (w W : World) g ib ic v (h : FlS w W g ib ic 32 3 4 (oD I2 [(P, B)]) v) => show Calls _ _ _ _ (fun e w' => ∃ v', e = .returned (.int .i64 0) ∧ FlS w w' g ib ic 32 3 4 (oD (doD 32 I2 P B) []) v') from by
      have := flush_S h
      rw [one_flush] at this
      exact this)
    clear k5 hbl2 hI2
    rw [hblank] at HBA
    have hf4 := hfin (doD 32 I2 P B) hl4
    have k6 := one_erase (img := doD 32 I2 P B) hP
    have HC6 := Lib.hid (fun (w W : World) g ib ic v (h : FlS w W g ib ic 32 3 4 (oD (doD 32 I2 P B) []) v) => show Calls _ _ _ _ (fun e w' => ∃ v', e = .returned (.int .i64 0) ∧ FlS w w' g ib ic 32 3 4 (oD (doAll 32 (doD 32 I2 P B) (newRows 32 (P / 3 * 3) 3)) []) v') from by
      have := erase_S h (by show (0 : Nat) ≤ _; omega) (P / 3)
      rw [k6] at this
      exact this)
    clear k6
    generalize doAll 32 (doD 32 I2 P B) (newRows 32 (P / 3 * 3) 3) = I5 at *
    have k7 : readD 32 3 4 (oD I5 []) P = (blankS 32, 0) := by
      rw [read_img P rfl hP.1 (by omega) rfl]
      show (strN (pgN I5 32 P.toNat), _) = _
      rw [hf4, strN_rep]
      rfl
    have HC7 := Lib.hid (fun (w W : World) g ib ic v (h : FlS w W g ib ic 32 3 4 (oD I5 []) v) => show Calls _ _ _ _ (fun e w' => e = .returned (.tuple #[.string (blankS 32), .int .i64 0]) ∧ FlS w w' g ib ic 32 3 4 (oD I5 []) v) from by
      have := read_S h P
      rw [k7] at this
      exact this)
    have k8 := one_prog (img := I5) (P := P) (B := B) hP hsb hf4
    have HC8 := Lib.hid (fun (w W : World) g ib ic v (h : FlS w W g ib ic 32 3 4 (oD I5 []) v) => show Calls _ _ _ _ (fun e w' => ∃ v', e = .returned (.int .i64 0) ∧ FlS w w' g ib ic 32 3 4 (oD I5 [(P, B)]) v') from by
      have := prog_S h (by show (0 : Nat) < _; omega) P B h32b
      rw [k8] at this
      exact this)
    clear k7 k8 hf4 hfin hl4 hl2 hpg2 hbt hbf hblank
    generalize blankS 32 = bs at *
    go_enter Try.func7, Try.ntmps7
    go_wp2_with fail
    refine (ftiny _).mono ?_
    rintro e w1 ⟨rfl, hk1⟩
    go_wp2_with fail
    refine (new0_S _).mono ?_
    rintro e w2 ⟨g, ib, ic, v, rfl, h2⟩
    go_wp2_with fail
    refine (falive _).mono ?_
    rintro e w3 ⟨rfl, hk3⟩
    have h3 := h2.keep hk3
    clear h2 hk3
    go_wp2_with fail
    refine (HPK.out _).mono ?_
    rintro e wz ⟨rfl, rfl⟩
    go_wp2_with fail
    refine (HSA.out _).mono ?_
    rintro e w4 ⟨rfl, rfl⟩
    go_wp2_with fail
    refine (HFA.out _).mono ?_
    rintro e w5 ⟨rfl, hk5⟩
    go_wp2_with fail
    refine (HSB.out _).mono ?_
    rintro e w6 ⟨rfl, rfl⟩
    go_wp2_with fail
    refine (HFB.out _).mono ?_
    rintro e w7 ⟨rfl, hk7⟩
    have h7 := h3.keep (hk5.trans hk7)
    clear h3 hk5 hk7
    go_wp2_with fail
    rw [HPA.out, HPB.out]
    refine (HC1.out _ _ _ _ _ _ h7).mono ?_
    rintro e w8 ⟨v8, rfl, h8⟩
    go_wp2_with fail
    refine (HC2.out _ _ _ _ _ _ h8).mono ?_
    rintro e w9 ⟨v9, rfl, h9⟩
    go_wp2_with fail
    refine (HC3.out _ _ _ _ _ _ h9).mono ?_
    rintro e w10 ⟨v10, rfl, h10⟩
    go_wp2_with fail
    refine (HC4.out _ _ _ _ _ _ h10).mono ?_
    rintro e w11 ⟨v11, rfl, h11⟩
    go_wp2_with fail
    refine (HC5.out _ _ _ _ _ _ h11).mono ?_
    rintro e w12 ⟨v12, rfl, h12⟩
    go_wp2_with fail
    refine (HC5f.out _ _ _ _ _ _ h12).mono ?_
    rintro e w13 ⟨v13, rfl, h13⟩
    go_wp2_with fail
    refine (HC6.out _ _ _ _ _ _ h13).mono ?_
    rintro e w14 ⟨v14, rfl, h14⟩
    go_wp2_with fail
    refine (HC7.out _ _ _ _ _ _ h14).mono ?_
    rintro e w15 ⟨rfl, h15⟩
    go_wp2_with fail
    refine (HBA.out _).mono ?_
    rintro e w16 ⟨rfl, rfl⟩
    go_wp2_with fail
    refine (HBS.out _).mono ?_
    rintro e w17 ⟨rfl, rfl⟩
    go_wp2_with fail
    refine (HC8.out _ _ _ _ _ _ h15).mono ?_
    rintro e w18 ⟨v18, rfl, h18⟩
    go_wp2_with fail
    go_ret
    exact ⟨rfl, hk1.trans h18.kp⟩
end Go.Proofs.Ytbclmnlggngepaa
