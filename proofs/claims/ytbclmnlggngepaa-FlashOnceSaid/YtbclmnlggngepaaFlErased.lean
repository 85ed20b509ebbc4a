/- FlashErased. -/
import Derived.Test.YtbclmnlggngepaaFlTorn
namespace Go.Proofs.Ytbclmnlggngepaa
open Go.RowKit
set_option linter.unusedVariables false
def padQ (a : ByteArray) : ByteArray := a.extract 0 384 ++ fillS 3 (384 - ((a.extract 0 384).size : Int)).toNat
theorem ext384_le (a : ByteArray) : (a.extract 0 384).size ≤ 384 := by rw [← nb_len, nb_ext0, List.length_take]; omega
theorem padQ_size (a : ByteArray) : (padQ a).size = 384 := by
  have := ext384_le a
  unfold padQ
  rw [ByteArray.size_append, fillS_size]
  omega
def eD2 (I : ByteArray) : Dev := (eraseD 32 3 4 (fuseD (newD 32 3 4 I) 0) 2).1
def eD3 (I : ByteArray) (mask : List Int) : Dev := crashD 32 (eD2 I) mask
theorem new_full (I : ByteArray) (h : I.size = 384) : (newD 32 3 4 I).img = nb I := by
  unfold newD
  show nb I ++ List.replicate (32 * 3 * 4 - (I.size : Int)).toNat 255 = nb I
  rw [show (32 * 3 * 4 - (I.size : Int)).toNat = 0 by omega]
  simp
theorem er_code (I : ByteArray) (h : I.size = 384) : eraseD 32 3 4 (fuseD (newD 32 3 4 I) 0) 2 = (⟨nb I, newRows 32 6 3, true, false, 0⟩, 6) := by
  have e : fuseD (newD 32 3 4 I) 0 = ⟨nb I, [], false, true, 0⟩ := by
    unfold fuseD
    rw [new_full I h]
    rfl
  rw [e]
  unfold eraseD
  rw [if_neg (by simp), if_neg (by omega), if_neg (by simp)]
  rfl
theorem eD2_is (I : ByteArray) (h : I.size = 384) : eD2 I = ⟨nb I, newRows 32 6 3, true, false, 0⟩ := by unfold eD2; rw [er_code I h]
def eP (mask : List Int) (i : Nat) : ByteArray := (blankS 32).extract 0 (kOf 32 (mask.getD i 0))
def eI1 (I : ByteArray) (mask : List Int) : List Nat := doD 32 (nb I) 6 (eP mask 0)
def eI2 (I : ByteArray) (mask : List Int) : List Nat := doD 32 (eI1 I mask) 7 (eP mask 1)
def eI3 (I : ByteArray) (mask : List Int) : List Nat := doD 32 (eI2 I mask) 8 (eP mask 2)
theorem eP_nb (mask : List Int) (i : Nat) : nb (eP mask i) = List.replicate (kOf 32 (mask.getD i 0)) 255 := by
  have := kOf_le (p := 32) (by omega) (mask.getD i 0)
  unfold eP
  rw [nb_ext0, show nb (blankS 32) = List.replicate 32 255 from nb_fillS 32, List.take_replicate]
  congr 1
  omega
theorem eP_size (mask : List Int) (i : Nat) : (eP mask i).size = kOf 32 (mask.getD i 0) := by rw [← nb_len, eP_nb, List.length_replicate]
theorem eP_le (mask : List Int) (i : Nat) : ((eP mask i).size : Int) ≤ 32 := by rw [eP_size]; exact kOf_le (by omega) _
theorem eI_len (I : ByteArray) (mask : List Int) (h : I.size = 384) : ((nb I).length : Int) = 32 * 3 * 4 ∧ ((eI1 I mask).length : Int) = 32 * 3 * 4 ∧ ((eI2 I mask).length : Int) = 32 * 3 * 4 ∧ ((eI3 I mask).length : Int) = 32 * 3 * 4 := by
  have h0 : ((nb I).length : Int) = 32 * 3 * 4 := by rw [nb_len]; omega
  have h1 : ((eI1 I mask).length : Int) = 32 * 3 * 4 := by unfold eI1; rw [doD_len tinyR h0 (by omega) (by omega) (eP_le _ _)]; exact h0
  have h2 : ((eI2 I mask).length : Int) = 32 * 3 * 4 := by unfold eI2; rw [doD_len tinyR h1 (by omega) (by omega) (eP_le _ _)]; exact h1
  have h3 : ((eI3 I mask).length : Int) = 32 * 3 * 4 := by unfold eI3; rw [doD_len tinyR h2 (by omega) (by omega) (eP_le _ _)]; exact h2
  exact ⟨h0, h1, h2, h3⟩
theorem eD3_is (I : ByteArray) (mask : List Int) (h : I.size = 384) : (eD3 I mask).img = eI3 I mask := by
  obtain ⟨h0, h1, h2, h3⟩ := eI_len I mask h
  have hb : ((blankS 32).size : Int) = 32 := by rw [blankS_size]; rfl
  unfold eD3
  rw [eD2_is I h]
  show crK 32 (nb I) (newRows 32 6 3) mask 3 = _
  have c0 := crOne_k (p := 32) (s := 3) (r := 4) h0 (6, blankS 32) hb (mask.getD 0 0)
  have c1 := crOne_k (p := 32) (s := 3) (r := 4) h1 (7, blankS 32) hb (mask.getD 1 0)
  have c2 := crOne_k (p := 32) (s := 3) (r := 4) h2 (8, blankS 32) hb (mask.getD 2 0)
  show crOne 32 (crOne 32 (crOne 32 (nb I) (6, blankS 32) (mask.getD 0 0)) (7, blankS 32) (mask.getD 1 0)) (8, blankS 32) (mask.getD 2 0) = _
  rw [c0]
  show crOne 32 (crOne 32 (eI1 I mask) (7, blankS 32) (mask.getD 1 0)) (8, blankS 32) (mask.getD 2 0) = _
  rw [c1]
  show crOne 32 (eI2 I mask) (8, blankS 32) (mask.getD 2 0) = _
  rw [c2]
  rfl
theorem doD_far (img : List Nat) (page : Int) (b : ByteArray) (h0 : 6 ≤ page) (h1 : page ≤ 8) (hb : (b.size : Int) ≤ 32) (hl : (img.length : Int) = 32 * 3 * 4) (j : Nat) (hj : j < 192 ∨ 288 ≤ j) : (doD 32 img page b)[j]? = img[j]? := by
  unfold doD
  have e : (page * 32).toNat + b.size ≤ img.length := by omega
  rw [spliceN_get _ _ _ (by rw [nb_len]; exact e), if_neg]
  rw [nb_len]
  omega
theorem eI3_far (I : ByteArray) (mask : List Int) (h : I.size = 384) (j : Nat) (hj : j < 192 ∨ 288 ≤ j) : (eI3 I mask)[j]? = (nb I)[j]? := by
  obtain ⟨h0, h1, h2, h3⟩ := eI_len I mask h
  unfold eI3
  rw [doD_far _ 8 _ (by omega) (by omega) (eP_le _ _) h2 j hj]
  unfold eI2
  rw [doD_far _ 7 _ (by omega) (by omega) (eP_le _ _) h1 j hj]
  unfold eI1
  rw [doD_far _ 6 _ (by omega) (by omega) (eP_le _ _) h0 j hj]
theorem eI3_page (I : ByteArray) (mask : List Int) (h : I.size = 384) (i : Nat) (hi : i < 3) : pgN (eI3 I mask) 32 (6 + i) = List.replicate (kOf 32 (mask.getD i 0)) 255 ++ (pgN (nb I) 32 (6 + i)).drop (kOf 32 (mask.getD i 0)) := by
  obtain ⟨h0, h1, h2, h3⟩ := eI_len I mask h
  have s0 := doD_same tinyR h0 6 (by omega) (by omega) (eP mask 0) (eP_le _ _)
  have s1 := doD_same tinyR h1 7 (by omega) (by omega) (eP mask 1) (eP_le _ _)
  have s2 := doD_same tinyR h2 8 (by omega) (by omega) (eP mask 2) (eP_le _ _)
  have o0 := fun k hk => doD_other tinyR h0 6 (by omega) (by omega) (eP mask 0) (eP_le _ _) k hk
  have o1 := fun k hk => doD_other tinyR h1 7 (by omega) (by omega) (eP mask 1) (eP_le _ _) k hk
  have o2 := fun k hk => doD_other tinyR h2 8 (by omega) (by omega) (eP mask 2) (eP_le _ _) k hk
  rw [eP_nb, eP_size] at s0 s1 s2
  have hc : i = 0 ∨ i = 1 ∨ i = 2 := by omega
  rcases hc with rfl | rfl | rfl
  · refine (o2 6 (by decide)).trans ((o1 6 (by decide)).trans ?_)
    exact s0
  · refine (o2 7 (by decide)).trans (s1.trans ?_)
    show _ ++ List.drop _ (pgN (eI1 I mask) 32 7) = _
    rw [show pgN (eI1 I mask) 32 7 = pgN (nb I) 32 7 from o0 7 (by decide)]
  · refine s2.trans ?_
    show _ ++ List.drop _ (pgN (eI2 I mask) 32 8) = _
    rw [show pgN (eI2 I mask) 32 8 = pgN (eI1 I mask) 32 8 from o1 8 (by decide), show pgN (eI1 I mask) 32 8 = pgN (nb I) 32 8 from o0 8 (by decide)]
theorem er_out (I : ByteArray) (mask : List Int) (h : I.size = 384) (O : ByteArray) (hO : O = strN (eI3 I mask)) :
    O.size = 384 ∧ O.extract 0 192 = I.extract 0 192 ∧ O.extract 288 384 = I.extract 288 384 ∧
    ∀ i, i < 3 → O.extract (192 + 32 * i) (192 + 32 * i + 32) = fillS 255 (kOf 32 (mask.getD i 0)) ++ I.extract (192 + 32 * i + kOf 32 (mask.getD i 0)) (192 + 32 * i + 32) := by
  obtain ⟨h0, h1, h2, h3⟩ := eI_len I mask h
  have hby : ∀ n ∈ eI3 I mask, n < 256 := doD_mem (doD_mem (doD_mem (nb_lt I)))
  have hnb : nb O = eI3 I mask := by rw [hO, nb_strN _ hby]
  refine ⟨by rw [← nb_len, hnb]; omega, ?_, ?_, ?_⟩
  · apply nb_inj
    rw [nb_ext0, nb_ext0, hnb]
    apply List.ext_getElem?
    intro j
    rw [List.getElem?_take, List.getElem?_take]
    split
    · exact eI3_far I mask h j (by omega)
    · rfl
  · apply nb_inj
    rw [nb_ext7, nb_ext7, hnb]
    apply List.ext_getElem?
    intro j
    rw [List.getElem?_take, List.getElem?_take]
    split
    · rw [List.getElem?_drop, List.getElem?_drop]
      exact eI3_far I mask h _ (by omega)
    · rfl
  · intro i hi
    have hk := kOf_le (p := 32) (by omega) (mask.getD i 0)
    have hpg := eI3_page I mask h i hi
    apply nb_inj
    rw [nb_append, nb_ext7, nb_ext7, nb_fillS, hnb]
    have e1 : ((eI3 I mask).drop (192 + 32 * i)).take (192 + 32 * i + 32 - (192 + 32 * i)) = pgN (eI3 I mask) 32 (6 + i) := by
      unfold pgN
      rw [show 192 + 32 * i + 32 - (192 + 32 * i) = 32 by omega, show (6 + i) * 32 = 192 + 32 * i by omega]
    rw [e1, hpg]
    congr 1
    unfold pgN
    rw [List.drop_take, List.drop_drop, show (6 + i) * 32 + kOf 32 (mask.getD i 0) = 192 + 32 * i + kOf 32 (mask.getD i 0) by omega]
    congr 1
    omega
set_option maxRecDepth 20000 in
set_option maxHeartbeats 6400000 in
theorem FlashErased_walk (w : World) (s : ByteArray) (ws : s.size ≤ 140737488351232) (A : Option Addr) (c : Nat) (mask : List Int) (hM : NumsAt .i64 w A mask) (hm8 : mask.length * 8 ≤ 140737488351232) (hmw : ∀ x ∈ mask, (Lit.int .i64 x).wf = true) :
    Calls Try.prog 4 #[.string s, .slice A mask.length c] w fun e w' => e = .returned (.bool true) ∧ Kp w w' := by
  have HSA := Lib.hid (fun w => short_any s 384 (by omega) (by omega) w)
  have hxa := ext384_le s
  have HFA := Lib.hid (fun w => fill_any 3 (384 - ((s.extract 0 384).size : Int)) (by omega) (by omega) w)
  have hsa := padQ_size s
  have HPA := Lib.hid (show s.extract 0 384 ++ fillS 3 (384 - ((s.extract 0 384).size : Int)).toNat = padQ s from rfl)
  have hla : (s.extract 0 384).size + (fillS 3 (384 - ((s.extract 0 384).size : Int)).toNat).size ≤ 9223372036854775807 := by rw [fillS_size]; omega
  have qa : IntKind.i64.wrap (384 - ((s.extract 0 384).size : Int)) = 384 - ((s.extract 0 384).size : Int) := IntWalk.i64_in _ (by omega)
  generalize s.extract 0 384 = a1 at *
  generalize fillS 3 (384 - (a1.size : Int)).toNat = a2 at *
  generalize padQ s = I at *
  have hmb : ∀ x ∈ mask, -9223372036854775808 ≤ x ∧ x ≤ 9223372036854775807 := fun x hx => bounds_i64 (hmw x hx)
  have hml : mask.length ≤ 9223372036854775807 := by omega
  have hbl := hM.2
  have HML := Lib.hid (show 0 < mask.length → ∀ q, A = some q → q.block < w.heap.size from by
    intro h0 q hq
    obtain ⟨b, o, e, hc⟩ := hM.2 h0
    rw [hq] at e
    injection e with e
    subst e
    exact World.block_lt_of_cell? _ _ (hc 0 h0))
  have HMK := Lib.hid (fun W' (k : Kp w W') => hM.keep k)
  have HMW := Lib.hid hmb
  clear hmw hbl hM
  have h2 := eD2_is I hsa
  have hI : strN (eD2 I).img = I := by rw [h2]; exact strN_nb I
  obtain ⟨o1, o2, o3, o4⟩ := er_out I mask hsa _ rfl
  rw [← eD3_is I mask hsa] at o1 o2 o3 o4
  have HN := Lib.hid (fun w => new_S tinyR I (by omega) w)
  have HFU := Lib.hid (fun (w W : World) g ib ic v (h : FlS w W g ib ic 32 3 4 (newD 32 3 4 I) v) => fuse_S h 0 (by omega))
  have HER := Lib.hid (fun (w W : World) g ib ic v (h : FlS w W g ib ic 32 3 4 (fuseD (newD 32 3 4 I) 0) v) => show Calls _ _ _ _ (fun e w' => ∃ v', e = .returned (.int .i64 6) ∧ FlS w w' g ib ic 32 3 4 (eD2 I) v') from by
    have hz : (fuseD (newD 32 3 4 I) 0).row.length ≤ 99990 := by show (0 : Nat) ≤ _; omega
    have := erase_S h hz 2
    have e1 : (eraseD 32 3 4 (fuseD (newD 32 3 4 I) 0) 2).2 = 6 := by rw [er_code I hsa]
    rw [e1] at this
    exact this)
  have HI2 := Lib.hid (fun (w W : World) g ib ic v (h : FlS w W g ib ic 32 3 4 (eD2 I) v) => image_S h)
  rw [hI] at HI2
  have HCR := Lib.hid (fun (w W : World) g ib ic v (h : FlS w W g ib ic 32 3 4 (eD2 I) v) hM hA => show Calls _ _ _ _ (fun e w' => ∃ v', e = .returned (.tuple #[]) ∧ FlS w w' g ib ic 32 3 4 (eD3 I mask) v') from crash_S h A c mask hM hA hmb)
  have HI3 := Lib.hid (fun (w W : World) g ib ic v (h : FlS w W g ib ic 32 3 4 (eD3 I mask) v) => image_S h)
  clear h2 hI hmb
  generalize strN (eD3 I mask).img = O at *
  generalize eD3 I mask = d3 at *
  generalize eD2 I = d2 at *
  generalize fuseD (newD 32 3 4 I) 0 = d1 at *
  generalize newD 32 3 4 I = d0 at *
  have HO4 := Lib.hid o4
  have hII : (I.toList == I.toList) = true := by simp
  have b1 : ((O.extract 0 192).toList == (I.extract 0 192).toList) = true := by rw [o2]; simp
  have b2 : ((O.extract 288 384).toList == (I.extract 288 384).toList) = true := by rw [o3]; simp
  have b3 : ((O.extract 288 O.size).toList == (I.extract 288 I.size).toList) = true := by rw [o1, hsa]; exact b2
  clear o2 o3 o4
  go_enter Try.func4, Try.ntmps4
  go_wp2_with fail
  refine (HSA.out _).mono ?_
  rintro e w4 ⟨rfl, rfl⟩
  go_wp2_with fail
  refine (HFA.out _).mono ?_
  rintro e w5 ⟨rfl, hk5⟩
  go_wp2_with fail
  refine (ftiny _).mono ?_
  rintro e w1 ⟨rfl, hk1⟩
  go_wp2_with fail
  rw [HPA.out]
  refine (HN.out _).mono ?_
  rintro e w2 ⟨g, ib, ic, v, rfl, h2⟩
  go_wp2_with fail
  refine (falive _).mono ?_
  rintro e w3 ⟨rfl, hk3⟩
  have h3 := h2.keep hk3
  have hk0 := hk5.trans hk1
  clear h2 hk3 hk5 hk1
  go_wp2_with fail
  refine (HFU.out _ _ _ _ _ _ h3).mono ?_
  rintro e w6 ⟨rfl, h6⟩
  go_wp2_with fail
  refine (HER.out _ _ _ _ _ _ h6).mono ?_
  rintro e w7 ⟨v7, rfl, h7⟩
  go_wp2_with fail
  refine (HI2.out _ _ _ _ _ _ h7).mono ?_
  rintro e w8 ⟨rfl, h8⟩
  go_wp2_with fail
  refine (HCR.out _ _ _ _ _ _ h8 (HMK.out _ (hk0.trans h8.kp)) (fun h0 q hq hmem => by
    have a1 := HML.out h0 q hq
    have a2 := h8.new _ hmem
    have a3 := hk0.size
    omega)).mono ?_
  rintro e w9 ⟨v9, rfl, h9⟩
  go_wp2_with fail
  refine (HI3.out _ _ _ _ _ _ h9).mono ?_
  rintro e w10 ⟨rfl, h10⟩
  have HK := Lib.hid (hk0.trans h10.kp)
  clear h3 h6 h7 h8 h9 h10 hk0
  go_wp2_with fail
  have hInh := fun (x v : Value) => (⟨fun h => h _ ((Kp.refl w10).drew), fun h _ _ => h⟩ : (∀ Wz9, (fun W' => Kp w10 W') Wz9 → x = v) ↔ x = v)
  dsimp only at hInh
  refine wp_region_quietC (C := fun W' => Kp w10 W') (by kernel_rfl) (by kernel_rfl) ((Kp.refl w10).drew) ?_
  repeat (first | go_big_quiet_step ((intro hW; first | fail | (with_reducible rfl) | (skip; (try go_simp); first | done | with_reducible rfl | exact ⟨rfl, rfl⟩))) | quiet_step ((intro hW; first | fail | (with_reducible rfl) | (skip; (try go_simp); first | done | with_reducible rfl | exact ⟨rfl, rfl⟩))))
  refine wpQuiet_nil ?_
  intro wq hwq
  clear hInh
  clear b1 b2 b3 hII
  have HKQ := Lib.hid (HK.out.trans hwq)
  clear hwq HK
  go_wp2_with fail
  go_loopw [9] (fun i wr => ∃ k : Nat, k ≤ 3 ∧ i = .int .i64 k ∧ Kp w wr) (fun i _ => 3 - (intOf i).toNat)
  case atStart => exact ⟨0, by omega, rfl, HKQ.out⟩
  case round =>
    obtain ⟨k, hk, rfl, hkr⟩ := hrel
    by_cases hlt : k < 3
    · have hEQ := HO4.out k hlt
      have hlt2 : (k : Int) < 3 := by omega
      obtain ⟨AT, hAT⟩ : ∃ AT : Int, AT = 192 + 32 * (k : Int) := ⟨_, rfl⟩
      have q1 : IntKind.i64.wrap (32 * (k : Int)) = 32 * (k : Int) := IntWalk.i64_in _ (by omega)
      have q2 : IntKind.i64.wrap (192 + 32 * (k : Int)) = AT := by rw [hAT]; exact IntWalk.i64_in _ (by omega)
      have q3 : IntKind.i64.wrap (AT + 32) = AT + 32 := IntWalk.i64_in _ (by omega)
      have y1 : 0 ≤ AT := by omega
      have y2 : AT + 32 ≤ (O.size : Int) := by omega
      have y3 : AT + 32 ≤ (I.size : Int) := by omega
      have eN1 : AT.toNat = 192 + 32 * k := by omega
      have eN2 : (AT + 32).toNat = AT.toNat + 32 := by omega
      have y4 : AT ≤ (O.size : Int) := by omega
      have y5 : AT ≤ (I.size : Int) := by omega
      have y6 : 0 ≤ AT + 32 := by omega
      rw [← eN1, ← eN2] at hEQ
      have hmk := HMK.out _ hkr
      have hkr' := Lib.hid hkr
      clear hkr hAT
      have hcases : (mask.length ≤ k ∧ mask.getD k 0 = 0) ∨ (∃ h : k < mask.length, mask.getD k 0 = mask[k]) := by
        by_cases h : k < mask.length
        · exact Or.inr ⟨h, by rw [List.getD_eq_getElem?_getD, List.getElem?_eq_getElem h]; rfl⟩
        · exact Or.inl ⟨by omega, by rw [List.getD_eq_getElem?_getD, List.getElem?_eq_none (by omega)]; rfl⟩
      rcases hcases with ⟨hge, hg⟩ | ⟨hge, hg⟩
      · rw [hg] at hEQ
        have hge2 : (mask.length : Int) ≤ (k : Int) := by omega
        have hK : kOf 32 0 = ((0 : Int)).toNat := by unfold kOf; rw [if_pos (by omega)]; rfl
        clear hg hmk hge
        rw [hK] at hEQ
        have HFK := Lib.hid (fun w => fill_any 255 ((0 : Int)) (by omega) (by omega) w)
        have eN3 : (AT).toNat = AT.toNat + ((0 : Int)).toNat := by omega
        rw [← eN3] at hEQ
        have hs9 : (fillS 255 ((0 : Int)).toNat).size + (I.extract (AT).toNat (AT + 32).toNat).size ≤ 9223372036854775807 := by rw [fillS_size, ← nb_len, nb_ext7, List.length_take]; omega
        have hq9 : IntKind.i64.wrap (AT) = AT := IntWalk.i64_in _ (by omega)
        have hz9 : AT ≤ AT + 32 := by omega
        have hz8 : 0 ≤ AT := by omega
        generalize fillS 255 ((0 : Int)).toNat = fl at *
        have hbe : ((O.extract AT.toNat (AT + 32).toNat).toList == (fl ++ I.extract (AT).toNat (AT + 32).toNat).toList) = true := by rw [hEQ]; simp
        clear hEQ eN1 eN2 eN3 hK
        go_wp2_with fail
        have hInh := fun (x v : Value) => (⟨fun h => h _ ((Kp.refl wr).drew), fun h _ _ => h⟩ : (∀ Wz9, (fun W' => Kp wr W') Wz9 → x = v) ↔ x = v)
        dsimp only at hInh
        refine wp_region_quietC (C := fun W' => Kp wr W') (by kernel_rfl) (by kernel_rfl) ((Kp.refl wr).drew) ?_
        repeat (first | go_big_quiet_step ((intro hW; first | (go_at_call 16; refine (HFK.out _).mono ?_; rintro e w' ⟨rfl, hk9⟩; exact ⟨rfl, hW.trans hk9⟩) | (with_reducible rfl) | (skip; (try go_simp); first | done | with_reducible rfl | exact ⟨rfl, rfl⟩))) | quiet_step ((intro hW; first | (go_at_call 16; refine (HFK.out _).mono ?_; rintro e w' ⟨rfl, hk9⟩; exact ⟨rfl, hW.trans hk9⟩) | (with_reducible rfl) | (skip; (try go_simp); first | done | with_reducible rfl | exact ⟨rfl, rfl⟩))))
        refine wpQuiet_nil ?_
        intro wq hwq
        clear hInh
        go_wp2_with fail
        go_roundw
        case rel => exact ⟨k + 1, by omega, by go_num, hkr'.out.trans hwq⟩
        case measure => simp [intOf]; omega
      · rw [hg] at hEQ
        obtain ⟨bb, bo, rfl, hbc⟩ := hmk.2 (by omega)
        have hcell := hbc k hge
        have hge2 : (k : Int) < (mask.length : Int) := by omega
        have hmm := HMW.out _ (List.getElem_mem hge)
        generalize mask[k] = m at *
        clear hg hbc hmk
        have hc3 : m < 1 ∨ m = 1 ∨ 2 ≤ m := by omega
        rcases hc3 with hc | hc | hc
        · have hK : kOf 32 m = ((0 : Int)).toNat := by unfold kOf; rw [if_pos hc]; rfl
          have d1 : (m == 1) = false := by simp; omega
          have d2 : decide (1 < m) = false := by simp; omega
          rw [hK] at hEQ
          have HFK := Lib.hid (fun w => fill_any 255 ((0 : Int)) (by omega) (by omega) w)
          have eN3 : (AT).toNat = AT.toNat + ((0 : Int)).toNat := by omega
          rw [← eN3] at hEQ
          have hs9 : (fillS 255 ((0 : Int)).toNat).size + (I.extract (AT).toNat (AT + 32).toNat).size ≤ 9223372036854775807 := by rw [fillS_size, ← nb_len, nb_ext7, List.length_take]; omega
          have hq9 : IntKind.i64.wrap (AT) = AT := IntWalk.i64_in _ (by omega)
          have hz9 : AT ≤ AT + 32 := by omega
          have hz8 : 0 ≤ AT := by omega
          generalize fillS 255 ((0 : Int)).toNat = fl at *
          have hbe : ((O.extract AT.toNat (AT + 32).toNat).toList == (fl ++ I.extract (AT).toNat (AT + 32).toNat).toList) = true := by rw [hEQ]; simp
          clear hEQ eN1 eN2 eN3 hK
          go_wp2_with fail
          have hInh := fun (x v : Value) => (⟨fun h => h _ ((Kp.refl wr).drew), fun h _ _ => h⟩ : (∀ Wz9, (fun W' => Kp wr W') Wz9 → x = v) ↔ x = v)
          dsimp only at hInh
          refine wp_region_quietC (C := fun W' => Kp wr W') (by kernel_rfl) (by kernel_rfl) ((Kp.refl wr).drew) ?_
          repeat (first | go_big_quiet_step ((intro hW; first | (go_at_call 16; refine (HFK.out _).mono ?_; rintro e w' ⟨rfl, hk9⟩; exact ⟨rfl, hW.trans hk9⟩) | (with_reducible rfl) | (skip; (try go_simp); first | done | with_reducible rfl | exact ⟨rfl, rfl⟩))) | quiet_step ((intro hW; first | (go_at_call 16; refine (HFK.out _).mono ?_; rintro e w' ⟨rfl, hk9⟩; exact ⟨rfl, hW.trans hk9⟩) | (with_reducible rfl) | (skip; (try go_simp); first | done | with_reducible rfl | exact ⟨rfl, rfl⟩))))
          refine wpQuiet_nil ?_
          intro wq hwq
          clear hInh
          go_wp2_with fail
          go_roundw
          case rel => exact ⟨k + 1, by omega, by go_num, hkr'.out.trans hwq⟩
          case measure => simp [intOf]; omega
        · have hK : kOf 32 m = ((32 : Int)).toNat := by unfold kOf; rw [if_neg (by omega), if_pos hc]
          rw [hK] at hEQ
          have HFK := Lib.hid (fun w => fill_any 255 ((32 : Int)) (by omega) (by omega) w)
          have eN3 : (AT + 32).toNat = AT.toNat + ((32 : Int)).toNat := by omega
          rw [← eN3] at hEQ
          have hs9 : (fillS 255 ((32 : Int)).toNat).size + (I.extract (AT + 32).toNat (AT + 32).toNat).size ≤ 9223372036854775807 := by rw [fillS_size, ← nb_len, nb_ext7, List.length_take]; omega
          have hq9 : IntKind.i64.wrap (AT + 32) = AT + 32 := IntWalk.i64_in _ (by omega)
          have hz9 : AT + 32 ≤ AT + 32 := by omega
          have hz8 : 0 ≤ AT + 32 := by omega
          generalize fillS 255 ((32 : Int)).toNat = fl at *
          have hbe : ((O.extract AT.toNat (AT + 32).toNat).toList == (fl ++ I.extract (AT + 32).toNat (AT + 32).toNat).toList) = true := by rw [hEQ]; simp
          have hbf : ((O.extract AT.toNat (AT + 32).toNat).toList == fl.toList) = true := by simpa using hbe
          subst hc
          clear hEQ eN1 eN2 eN3 hK
          go_wp2_with fail
          have hInh := fun (x v : Value) => (⟨fun h => h _ ((Kp.refl wr).drew), fun h _ _ => h⟩ : (∀ Wz9, (fun W' => Kp wr W') Wz9 → x = v) ↔ x = v)
          dsimp only at hInh
          refine wp_region_quietC (C := fun W' => Kp wr W') (by kernel_rfl) (by kernel_rfl) ((Kp.refl wr).drew) ?_
          repeat (first | go_big_quiet_step ((intro hW; first | (go_at_call 16; refine (HFK.out _).mono ?_; rintro e w' ⟨rfl, hk9⟩; exact ⟨rfl, hW.trans hk9⟩) | (with_reducible rfl) | (skip; (try go_simp); first | done | with_reducible rfl | exact ⟨rfl, rfl⟩))) | quiet_step ((intro hW; first | (go_at_call 16; refine (HFK.out _).mono ?_; rintro e w' ⟨rfl, hk9⟩; exact ⟨rfl, hW.trans hk9⟩) | (with_reducible rfl) | (skip; (try go_simp); first | done | with_reducible rfl | exact ⟨rfl, rfl⟩))))
          refine wpQuiet_nil ?_
          intro wq hwq
          clear hInh
          go_wp2_with fail
          go_roundw
          case rel => exact ⟨k + 1, by omega, by go_num, hkr'.out.trans hwq⟩
          case measure => simp [intOf]; omega
        · obtain ⟨t1, t2, t3⟩ := tornK_bd (p := 32) (m := m) (by omega) hc
          have t4 : tornK 32 m = 1 + (m - 2) % 31 := rfl
          have hK : kOf 32 m = (1 + (m - 2) % 31).toNat := by unfold kOf; rw [if_neg (by omega), if_neg (by omega)]; rfl
          have d1 : (m == 1) = false := by simp; omega
          have d2 : decide (1 < m) = true := by simp; omega
          have u1 : IntKind.i64.wrap (m - 2) = m - 2 := IntWalk.i64_in _ (by omega)
          have u2 : IntKind.i64.wrap (1 + (m - 2) % 31) = 1 + (m - 2) % 31 := IntWalk.i64_in _ (by omega)
          have u3 : (m - 2).tmod 31 = (m - 2) % 31 := Int.tmod_eq_emod_of_nonneg (by omega)
          clear t1 t2 t3 t4
          rw [hK] at hEQ
          have HFK := Lib.hid (fun w => fill_any 255 (1 + (m - 2) % 31) (by omega) (by omega) w)
          have eN3 : (AT + (1 + (m - 2) % 31)).toNat = AT.toNat + (1 + (m - 2) % 31).toNat := by omega
          rw [← eN3] at hEQ
          have hs9 : (fillS 255 (1 + (m - 2) % 31).toNat).size + (I.extract (AT + (1 + (m - 2) % 31)).toNat (AT + 32).toNat).size ≤ 9223372036854775807 := by rw [fillS_size, ← nb_len, nb_ext7, List.length_take]; omega
          have hq9 : IntKind.i64.wrap (AT + (1 + (m - 2) % 31)) = AT + (1 + (m - 2) % 31) := IntWalk.i64_in _ (by omega)
          have hz9 : AT + (1 + (m - 2) % 31) ≤ AT + 32 := by omega
          have hz8 : 0 ≤ AT + (1 + (m - 2) % 31) := by omega
          generalize fillS 255 (1 + (m - 2) % 31).toNat = fl at *
          have hbe : ((O.extract AT.toNat (AT + 32).toNat).toList == (fl ++ I.extract (AT + (1 + (m - 2) % 31)).toNat (AT + 32).toNat).toList) = true := by rw [hEQ]; simp
          clear hEQ eN1 eN2 eN3 hK
          go_wp2_with fail
          have hInh := fun (x v : Value) => (⟨fun h => h _ ((Kp.refl wr).drew), fun h _ _ => h⟩ : (∀ Wz9, (fun W' => Kp wr W') Wz9 → x = v) ↔ x = v)
          dsimp only at hInh
          refine wp_region_quietC (C := fun W' => Kp wr W') (by kernel_rfl) (by kernel_rfl) ((Kp.refl wr).drew) ?_
          repeat (first | go_big_quiet_step ((intro hW; first | (go_at_call 16; refine (HFK.out _).mono ?_; rintro e w' ⟨rfl, hk9⟩; exact ⟨rfl, hW.trans hk9⟩) | (with_reducible rfl) | (skip; (try go_simp); first | done | with_reducible rfl | exact ⟨rfl, rfl⟩))) | quiet_step ((intro hW; first | (go_at_call 16; refine (HFK.out _).mono ?_; rintro e w' ⟨rfl, hk9⟩; exact ⟨rfl, hW.trans hk9⟩) | (with_reducible rfl) | (skip; (try go_simp); first | done | with_reducible rfl | exact ⟨rfl, rfl⟩))))
          refine wpQuiet_nil ?_
          intro wq hwq
          clear hInh
          go_wp2_with fail
          go_roundw
          case rel => exact ⟨k + 1, by omega, by go_num, hkr'.out.trans hwq⟩
          case measure => simp [intOf]; omega
    · have hgt : 3 ≤ (k : Int) := by omega
      go_wp2_with fail
      go_ret
      exact ⟨rfl, hkr⟩
end Go.Proofs.Ytbclmnlggngepaa
