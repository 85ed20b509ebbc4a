/- FlashTorn. -/
import Derived.Test.YtbclmnlggngepaaFlPlain
namespace Go.Proofs.Ytbclmnlggngepaa
open Go.RowKit
set_option linter.unusedVariables false
def tD1 (A : ByteArray) : Dev := (programD 32 3 4 al0 1 A).1
def tD2 (A : ByteArray) : Dev := (flushD 32 (tD1 A)).1
def tD3 (A B : ByteArray) : Dev := (programD 32 3 4 (tD2 A) 4 B).1
def tD4 (A B : ByteArray) (m : Int) : Dev := crashD 32 (tD3 A B) [m]
theorem al0_page (k : Int) (h0 : 0 ≤ k) (h1 : k < 12) : pgN al0.img 32 k.toNat = List.replicate 32 255 := new_img_page 32 3 4 tinyR k h0 (by omega)
theorem al0_len : (al0.img.length : Int) = 32 * 3 * 4 := (newD_ok tinyR ⟨#[]⟩ (by decide)).len
theorem countD_none (d : Dev) (h : d.set = false) : countD d = (d, false) := by unfold countD; rw [if_pos h]
theorem tD1_is (A : ByteArray) (hA : A.size = 32) : tD1 A = ⟨al0.img, [(1, A)], false, false, 0⟩ := by
  unfold tD1
  rw [program_fresh 1 A rfl (by omega) (by omega) (by omega) rfl (al0_page 1 (by omega) (by omega)), countD_none _ rfl]
  rfl
theorem tD2_is (A : ByteArray) (hA : A.size = 32) : tD2 A = ⟨doD 32 al0.img 1 A, [], false, false, 0⟩ := by
  unfold tD2 flushD
  rw [tD1_is A hA, countD_none _ rfl]
  rfl
theorem tD3_is (A B : ByteArray) (hA : A.size = 32) (hB : B.size = 32) : tD3 A B = ⟨doD 32 al0.img 1 A, [(4, B)], false, false, 0⟩ := by
  unfold tD3
  rw [tD2_is A hA, program_fresh 4 B rfl (by omega) (by omega) (by omega) rfl ?_, countD_none _ rfl]
  · rfl
  · show pgN (doD 32 al0.img 1 A) 32 4 = _
    have := doD_other tinyR al0_len 1 (by omega) (by omega) A (by omega) 4 (by omega)
    rw [show (32 : Int).toNat = 32 from rfl] at this
    rw [this]
    exact al0_page 4 (by omega) (by omega)
theorem tD4_is (A B : ByteArray) (hA : A.size = 32) (hB : B.size = 32) (m : Int) : tD4 A B m = ⟨doD 32 (doD 32 al0.img 1 A) 4 (B.extract 0 (kOf 32 m)), [], false, false, 0⟩ := by
  unfold tD4
  rw [tD3_is A B hA hB]
  have hl : ((doD 32 al0.img 1 A).length : Int) = 32 * 3 * 4 := by rw [doD_len tinyR al0_len (by omega) (by omega) (by omega)]; exact al0_len
  have h1 := crOne_k (p := 32) (s := 3) (r := 4) hl (4, B) (by show (B.size : Int) = 32; omega) m
  show (⟨crOne 32 (doD 32 al0.img 1 A) (4, B) m, [], false, false, 0⟩ : Dev) = _
  rw [h1]
theorem torn_reads (A B : ByteArray) (hA : A.size = 32) (hB : B.size = 32) (m : Int) :
    readD 32 3 4 (tD4 A B m) 1 = (A, 0) ∧ readD 32 3 4 (tD4 A B m) 4 = (B.extract 0 (kOf 32 m) ++ fillS 255 (32 - kOf 32 m), 0) := by
  have hl1 : ((doD 32 al0.img 1 A).length : Int) = 32 * 3 * 4 := by rw [doD_len tinyR al0_len (by omega) (by omega) (by omega)]; exact al0_len
  have hk := kOf_le (p := 32) (by omega) m
  have hks : (B.extract 0 (kOf 32 m)).size = kOf 32 m := by rw [← nb_len, nb_ext0, List.length_take, nb_len]; omega
  rw [tD4_is A B hA hB]
  refine ⟨?_, ?_⟩
  · rw [read_img 1 rfl (by omega) (by omega) rfl]
    congr 1
    have h1 := doD_other tinyR hl1 4 (by omega) (by omega) (B.extract 0 (kOf 32 m)) (by omega) 1 (by omega)
    have h2 := doD_same tinyR al0_len 1 (by omega) (by omega) A (by omega)
    show strN (pgN (doD 32 (doD 32 al0.img 1 A) 4 (B.extract 0 (kOf 32 m))) (32 : Int).toNat 1) = A
    rw [h1]
    show strN (pgN (doD 32 al0.img 1 A) (32 : Int).toNat (1 : Int).toNat) = A
    rw [h2, List.drop_eq_nil_of_le, List.append_nil, strN_nb]
    unfold pgN
    rw [List.length_take]
    omega
  · rw [read_img 4 rfl (by omega) (by omega) rfl]
    congr 1
    have h1 := doD_same tinyR hl1 4 (by omega) (by omega) (B.extract 0 (kOf 32 m)) (by omega)
    have h2 := doD_other tinyR al0_len 1 (by omega) (by omega) A (by omega) 4 (by omega)
    show strN (pgN (doD 32 (doD 32 al0.img 1 A) 4 (B.extract 0 (kOf 32 m))) (32 : Int).toNat (4 : Int).toNat) = _
    rw [h1]
    rw [show (4 : Int).toNat = 4 from rfl, h2]
    have h3 := al0_page 4 (by omega) (by omega)
    rw [show (4 : Int).toNat = 4 from rfl] at h3
    rw [show (32 : Int).toNat = 32 from rfl, h3, hks, List.drop_replicate, strN_app _ _ (nb_lt _) (fun n hn => by rw [(List.mem_replicate.1 hn).2]; omega), strN_nb, strN_rep]
def padS (a : ByteArray) (c : Int) : ByteArray := a.extract 0 32 ++ fillS c (32 - ((a.extract 0 32).size : Int)).toNat
theorem ext32_le (a : ByteArray) : (a.extract 0 32).size ≤ 32 := by rw [← nb_len, nb_ext0, List.length_take]; omega
theorem padS_size (a : ByteArray) (c : Int) : (padS a c).size = 32 := by
  have := ext32_le a
  unfold padS
  rw [ByteArray.size_append, fillS_size]
  omega
set_option maxRecDepth 20000 in
set_option maxHeartbeats 6400000 in
theorem FlashTorn_walk (w : World) (a : ByteArray) (wa : a.size ≤ 140737488351232) (b : ByteArray) (wb : b.size ≤ 140737488351232) (m : Int) (wm : (Lit.int .i64 m).wf = true) :
    Calls Try.prog 5 #[.string a, .string b, .int .i64 m] w fun e w' => e = .returned (.bool true) ∧ Kp w w' := by
  have hm := bounds_i64 wm
  clear wm
  have HSA := Lib.hid (fun w => short_any a 32 (by omega) (by omega) w)
  have HSB := Lib.hid (fun w => short_any b 32 (by omega) (by omega) w)
  have hxa := ext32_le a
  have hxb := ext32_le b
  have HFA := Lib.hid (fun w => fill_any 7 (32 - ((a.extract 0 32).size : Int)) (by omega) (by omega) w)
  have HFB := Lib.hid (fun w => fill_any 9 (32 - ((b.extract 0 32).size : Int)) (by omega) (by omega) w)
  have hsa := padS_size a 7
  have hsb := padS_size b 9
  have HPA := Lib.hid (show a.extract 0 32 ++ fillS 7 (32 - ((a.extract 0 32).size : Int)).toNat = padS a 7 from rfl)
  have HPB := Lib.hid (show b.extract 0 32 ++ fillS 9 (32 - ((b.extract 0 32).size : Int)).toNat = padS b 9 from rfl)
  have hla : (a.extract 0 32).size + (fillS 7 (32 - ((a.extract 0 32).size : Int)).toNat).size ≤ 9223372036854775807 := by rw [fillS_size]; omega
  have hlb : (b.extract 0 32).size + (fillS 9 (32 - ((b.extract 0 32).size : Int)).toNat).size ≤ 9223372036854775807 := by rw [fillS_size]; omega
  have qa : IntKind.i64.wrap (32 - ((a.extract 0 32).size : Int)) = 32 - ((a.extract 0 32).size : Int) := IntWalk.i64_in _ (by omega)
  have qb : IntKind.i64.wrap (32 - ((b.extract 0 32).size : Int)) = 32 - ((b.extract 0 32).size : Int) := IntWalk.i64_in _ (by omega)
  generalize a.extract 0 32 = a1 at *
  generalize b.extract 0 32 = b1 at *
  generalize fillS 7 (32 - (a1.size : Int)).toNat = a2 at *
  generalize fillS 9 (32 - (b1.size : Int)).toNat = b2 at *
  generalize padS a 7 = A at *
  generalize padS b 9 = B at *
  obtain ⟨hr1, hr4⟩ := torn_reads A B hsa hsb m
  have h1 := tD1_is A hsa
  have h2 := tD2_is A hsa
  have h4 := tD4_is A B hsa hsb m
  have HP1 := Lib.hid (fun (w W : World) g ib ic v (h : FlS w W g ib ic 32 3 4 al0 v) => show Calls _ _ _ _ (fun e w' => ∃ v', e = _ ∧ FlS w w' g ib ic 32 3 4 (tD1 A) v') from prog_S h (by decide +kernel) 1 A (by omega))
  have HU := Lib.hid (fun (w W : World) g ib ic v (h : FlS w W g ib ic 32 3 4 (tD1 A) v) => show Calls _ _ _ _ (fun e w' => ∃ v', e = _ ∧ FlS w w' g ib ic 32 3 4 (tD2 A) v') from flush_S h)
  have HP2 := Lib.hid (fun (w W : World) g ib ic v (h : FlS w W g ib ic 32 3 4 (tD2 A) v) => show Calls _ _ _ _ (fun e w' => ∃ v', e = _ ∧ FlS w w' g ib ic 32 3 4 (tD3 A B) v') from prog_S h (by rw [h2]; simp) 4 B (by omega))
  have HCR := Lib.hid (fun (w W : World) g ib ic v (h : FlS w W g ib ic 32 3 4 (tD3 A B) v) => show ∀ N, _ → Calls _ _ _ _ (fun e w' => ∃ v', e = _ ∧ FlS w w' g ib ic 32 3 4 (tD4 A B m) v') from crash1_S h m hm)
  have HR1 := Lib.hid (fun (w W : World) g ib ic v (h : FlS w W g ib ic 32 3 4 (tD4 A B m) v) => read_S h 1)
  have HR4 := Lib.hid (fun (w W : World) g ib ic v (h : FlS w W g ib ic 32 3 4 (tD4 A B m) v) => read_S h 4)
  have HPN := Lib.hid (fun (w W : World) g ib ic v (h : FlS w W g ib ic 32 3 4 (tD4 A B m) v) => fpending h.at_)
  rw [hr1] at HR1
  rw [hr4] at HR4
  rw [show (tD4 A B m).row.length = 0 by rw [h4]; rfl] at HPN
  clear hr1 hr4 h1 h2 h4
  generalize tD4 A B m = d4 at *
  generalize tD3 A B = d3 at *
  generalize tD2 A = d2 at *
  generalize tD1 A = d1 at *
  have hAA : (A.toList == A.toList) = true := by simp
  have hcases : m < 1 ∨ m = 1 ∨ 2 ≤ m := by omega
  rcases hcases with hc | hc | hc
  · have hK : kOf 32 m = ((0 : Int)).toNat := by unfold kOf; rw [if_pos hc]; rfl
    have hK0 : 0 ≤ (0 : Int) ∧ (0 : Int) ≤ 32 := by omega
    have HFK := Lib.hid (fun w => fill_any 255 (32 - ((0 : Int))) (by omega) (by omega) w)
    have qk : IntKind.i64.wrap (32 - ((0 : Int))) = 32 - ((0 : Int)) := IntWalk.i64_in _ (by omega)
    have hks : (B.extract 0 ((0 : Int)).toNat).size + (fillS 255 (32 - ((0 : Int))).toNat).size ≤ 9223372036854775807 := by have := extract_le B ((0 : Int)).toNat; rw [fillS_size]; omega
    rw [hK, show 32 - ((0 : Int)).toNat = (32 - ((0 : Int))).toNat by omega] at HR4
    generalize hfl : fillS 255 (32 - ((0 : Int))).toNat = fl at *
    have hBB : ((B.extract 0 ((0 : Int)).toNat ++ fl).toList == (B.extract 0 ((0 : Int)).toNat ++ fl).toList) = true := by simp
    have hkb : (0 : Int) ≤ (B.size : Int) := by omega
    clear hfl hK
    have d1 : (m == 1) = false := by simp; omega
    have d2 : decide (1 < m) = false := by simp; omega
    go_enter Try.func5, Try.ntmps5
    go_wp2_with fail
    refine (ftiny _).mono ?_
    rintro e w1 ⟨rfl, hk1⟩
    go_wp2_with fail
    refine (new0_S _).mono ?_
    rintro e w2 ⟨g, ib, ic, v, rfl, h2⟩
    go_wp2_with fail
    refine (falive _).mono ?_
    rintro e w3 ⟨rfl, hk3⟩
    have h3 := h2.keep hk3
    clear h2 hk3
    go_wp2_with fail
    refine (HSA.out _).mono ?_
    rintro e w4 ⟨rfl, rfl⟩
    go_wp2_with fail
    refine (HFA.out _).mono ?_
    rintro e w5 ⟨rfl, hk5⟩
    go_wp2_with fail
    refine (HSB.out _).mono ?_
    rintro e w6 ⟨rfl, rfl⟩
    go_wp2_with fail
    refine (HFB.out _).mono ?_
    rintro e w7 ⟨rfl, hk7⟩
    have h7 := h3.keep (hk5.trans hk7)
    clear h3 hk5 hk7
    go_wp2_with fail
    rw [HPA.out, HPB.out]
    refine (HP1.out _ _ _ _ _ _ h7).mono ?_
    rintro e w8 ⟨v8, rfl, h8⟩
    go_wp2_with fail
    refine (HU.out _ _ _ _ _ _ h8).mono ?_
    rintro e w9 ⟨v9, rfl, h9⟩
    go_wp2_with fail
    refine (HP2.out _ _ _ _ _ _ h9).mono ?_
    rintro e w10 ⟨v10, rfl, h10⟩
    go_wp2_with fail
    refine (HCR.out _ _ _ _ _ _ h10 _ rfl).mono ?_
    rintro e w11 ⟨v11, rfl, h11⟩
    go_wp2_with fail
    refine (HR1.out _ _ _ _ _ _ h11).mono ?_
    rintro e w12 ⟨rfl, h12⟩
    go_wp2_with fail
    refine (HR4.out _ _ _ _ _ _ h12).mono ?_
    rintro e w13 ⟨rfl, h13⟩
    have H13 := Lib.hid h13
    clear h7 h8 h9 h10 h11 h12 h13
    go_wp2_with fail
    have hInh := fun (x v : Value) => (⟨fun h => h _ ((Kp.refl w13).drew), fun h _ _ => h⟩ : (∀ Wz9, (fun W' => Kp w13 W') Wz9 → x = v) ↔ x = v)
    dsimp only at hInh
    refine wp_region_quietC (C := fun W' => Kp w13 W') (by kernel_rfl) (by kernel_rfl) ((Kp.refl w13).drew) ?_
    repeat (first | go_big_quiet_step ((intro hW; first | (first | (go_at_call 18; refine (HPN.out _ _ _ _ _ _ (H13.out.keep hW)).mono ?_; rintro e w' ⟨rfl, hk9⟩; exact ⟨rfl, hW.trans hk9⟩) | (go_at_call 16; refine (HFK.out _).mono ?_; rintro e w' ⟨rfl, hk9⟩; exact ⟨rfl, hW.trans hk9⟩)) | (with_reducible rfl) | (skip; (try go_simp); first | done | with_reducible rfl | exact ⟨rfl, rfl⟩))) | quiet_step ((intro hW; first | (first | (go_at_call 18; refine (HPN.out _ _ _ _ _ _ (H13.out.keep hW)).mono ?_; rintro e w' ⟨rfl, hk9⟩; exact ⟨rfl, hW.trans hk9⟩) | (go_at_call 16; refine (HFK.out _).mono ?_; rintro e w' ⟨rfl, hk9⟩; exact ⟨rfl, hW.trans hk9⟩)) | (with_reducible rfl) | (skip; (try go_simp); first | done | with_reducible rfl | exact ⟨rfl, rfl⟩))))
    refine wpQuiet_nil ?_
    intro wq hwq
    clear hInh
    go_wp2_with fail
    go_ret
    exact ⟨rfl, (hk1.trans H13.out.kp).trans hwq⟩
  · have hK : kOf 32 m = ((32 : Int)).toNat := by unfold kOf; rw [if_neg (by omega), if_pos hc]
    have hK0 : 0 ≤ (32 : Int) ∧ (32 : Int) ≤ 32 := by omega
    have HFK := Lib.hid (fun w => fill_any 255 ((0 : Int)) (by omega) (by omega) w)
    have hks : (B.extract 0 ((32 : Int)).toNat).size + (fillS 255 ((0 : Int)).toNat).size ≤ 9223372036854775807 := by have := extract_le B ((32 : Int)).toNat; rw [fillS_size]; omega
    rw [hK, show 32 - ((32 : Int)).toNat = ((0 : Int)).toNat by omega] at HR4
    generalize hfl : fillS 255 ((0 : Int)).toNat = fl at *
    have hBB : ((B.extract 0 ((32 : Int)).toNat ++ fl).toList == (B.extract 0 ((32 : Int)).toNat ++ fl).toList) = true := by simp
    have hkb : (32 : Int) ≤ (B.size : Int) := by omega
    clear hfl hK
    rw [show ((32 : Int)).toNat = 32 from rfl] at hks hBB HR4
    subst hc
    go_enter Try.func5, Try.ntmps5
    go_wp2_with fail
    refine (ftiny _).mono ?_
    rintro e w1 ⟨rfl, hk1⟩
    go_wp2_with fail
    refine (new0_S _).mono ?_
    rintro e w2 ⟨g, ib, ic, v, rfl, h2⟩
    go_wp2_with fail
    refine (falive _).mono ?_
    rintro e w3 ⟨rfl, hk3⟩
    have h3 := h2.keep hk3
    clear h2 hk3
    go_wp2_with fail
    refine (HSA.out _).mono ?_
    rintro e w4 ⟨rfl, rfl⟩
    go_wp2_with fail
    refine (HFA.out _).mono ?_
    rintro e w5 ⟨rfl, hk5⟩
    go_wp2_with fail
    refine (HSB.out _).mono ?_
    rintro e w6 ⟨rfl, rfl⟩
    go_wp2_with fail
    refine (HFB.out _).mono ?_
    rintro e w7 ⟨rfl, hk7⟩
    have h7 := h3.keep (hk5.trans hk7)
    clear h3 hk5 hk7
    go_wp2_with fail
    rw [HPA.out, HPB.out]
    refine (HP1.out _ _ _ _ _ _ h7).mono ?_
    rintro e w8 ⟨v8, rfl, h8⟩
    go_wp2_with fail
    refine (HU.out _ _ _ _ _ _ h8).mono ?_
    rintro e w9 ⟨v9, rfl, h9⟩
    go_wp2_with fail
    refine (HP2.out _ _ _ _ _ _ h9).mono ?_
    rintro e w10 ⟨v10, rfl, h10⟩
    go_wp2_with fail
    refine (HCR.out _ _ _ _ _ _ h10 _ rfl).mono ?_
    rintro e w11 ⟨v11, rfl, h11⟩
    go_wp2_with fail
    refine (HR1.out _ _ _ _ _ _ h11).mono ?_
    rintro e w12 ⟨rfl, h12⟩
    go_wp2_with fail
    refine (HR4.out _ _ _ _ _ _ h12).mono ?_
    rintro e w13 ⟨rfl, h13⟩
    have H13 := Lib.hid h13
    clear h7 h8 h9 h10 h11 h12 h13
    go_wp2_with fail
    have hInh := fun (x v : Value) => (⟨fun h => h _ ((Kp.refl w13).drew), fun h _ _ => h⟩ : (∀ Wz9, (fun W' => Kp w13 W') Wz9 → x = v) ↔ x = v)
    dsimp only at hInh
    refine wp_region_quietC (C := fun W' => Kp w13 W') (by kernel_rfl) (by kernel_rfl) ((Kp.refl w13).drew) ?_
    repeat (first | go_big_quiet_step ((intro hW; first | (first | (go_at_call 18; refine (HPN.out _ _ _ _ _ _ (H13.out.keep hW)).mono ?_; rintro e w' ⟨rfl, hk9⟩; exact ⟨rfl, hW.trans hk9⟩) | (go_at_call 16; refine (HFK.out _).mono ?_; rintro e w' ⟨rfl, hk9⟩; exact ⟨rfl, hW.trans hk9⟩)) | (with_reducible rfl) | (skip; (try go_simp); first | done | with_reducible rfl | exact ⟨rfl, rfl⟩))) | quiet_step ((intro hW; first | (first | (go_at_call 18; refine (HPN.out _ _ _ _ _ _ (H13.out.keep hW)).mono ?_; rintro e w' ⟨rfl, hk9⟩; exact ⟨rfl, hW.trans hk9⟩) | (go_at_call 16; refine (HFK.out _).mono ?_; rintro e w' ⟨rfl, hk9⟩; exact ⟨rfl, hW.trans hk9⟩)) | (with_reducible rfl) | (skip; (try go_simp); first | done | with_reducible rfl | exact ⟨rfl, rfl⟩))))
    refine wpQuiet_nil ?_
    intro wq hwq
    clear hInh
    go_wp2_with fail
    go_ret
    exact ⟨rfl, (hk1.trans H13.out.kp).trans hwq⟩
  · obtain ⟨t1, t2, t3⟩ := tornK_bd (p := 32) (m := m) (by omega) hc
    have t4 : tornK 32 m = 1 + (m - 2) % 31 := rfl

    have hK : kOf 32 m = (1 + (m - 2) % 31).toNat := by unfold kOf; rw [if_neg (by omega), if_neg (by omega)]; rfl
    have hK0 : 0 ≤ 1 + (m - 2) % 31 ∧ 1 + (m - 2) % 31 ≤ 32 := by omega
    have HFK := Lib.hid (fun w => fill_any 255 (32 - (1 + (m - 2) % 31)) (by omega) (by omega) w)
    have qk : IntKind.i64.wrap (32 - (1 + (m - 2) % 31)) = 32 - (1 + (m - 2) % 31) := IntWalk.i64_in _ (by omega)
    have hks : (B.extract 0 (1 + (m - 2) % 31).toNat).size + (fillS 255 (32 - (1 + (m - 2) % 31)).toNat).size ≤ 9223372036854775807 := by have := extract_le B (1 + (m - 2) % 31).toNat; rw [fillS_size]; omega
    rw [hK, show 32 - (1 + (m - 2) % 31).toNat = (32 - (1 + (m - 2) % 31)).toNat by omega] at HR4
    generalize hfl : fillS 255 (32 - (1 + (m - 2) % 31)).toNat = fl at *
    have hBB : ((B.extract 0 (1 + (m - 2) % 31).toNat ++ fl).toList == (B.extract 0 (1 + (m - 2) % 31).toNat ++ fl).toList) = true := by simp
    have hkb : 1 + (m - 2) % 31 ≤ (B.size : Int) := by omega
    clear hfl hK
    have d1 : (m == 1) = false := by simp; omega
    have d2 : decide (1 < m) = true := by simp; omega
    have q1 : IntKind.i64.wrap (m - 2) = m - 2 := IntWalk.i64_in _ (by omega)
    have q2 : IntKind.i64.wrap (1 + (m - 2) % 31) = 1 + (m - 2) % 31 := IntWalk.i64_in _ (by omega)
    have q3 : (m - 2).tmod 31 = (m - 2) % 31 := Int.tmod_eq_emod_of_nonneg (by omega)
    clear t1 t2 t3 t4
    go_enter Try.func5, Try.ntmps5
    go_wp2_with fail
    refine (ftiny _).mono ?_
    rintro e w1 ⟨rfl, hk1⟩
    go_wp2_with fail
    refine (new0_S _).mono ?_
    rintro e w2 ⟨g, ib, ic, v, rfl, h2⟩
    go_wp2_with fail
    refine (falive _).mono ?_
    rintro e w3 ⟨rfl, hk3⟩
    have h3 := h2.keep hk3
    clear h2 hk3
    go_wp2_with fail
    refine (HSA.out _).mono ?_
    rintro e w4 ⟨rfl, rfl⟩
    go_wp2_with fail
    refine (HFA.out _).mono ?_
    rintro e w5 ⟨rfl, hk5⟩
    go_wp2_with fail
    refine (HSB.out _).mono ?_
    rintro e w6 ⟨rfl, rfl⟩
    go_wp2_with fail
    refine (HFB.out _).mono ?_
    rintro e w7 ⟨rfl, hk7⟩
    have h7 := h3.keep (hk5.trans hk7)
    clear h3 hk5 hk7
    go_wp2_with fail
    rw [HPA.out, HPB.out]
    refine (HP1.out _ _ _ _ _ _ h7).mono ?_
    rintro e w8 ⟨v8, rfl, h8⟩
    go_wp2_with fail
    refine (HU.out _ _ _ _ _ _ h8).mono ?_
    rintro e w9 ⟨v9, rfl, h9⟩
    go_wp2_with fail
    refine (HP2.out _ _ _ _ _ _ h9).mono ?_
    rintro e w10 ⟨v10, rfl, h10⟩
    go_wp2_with fail
    refine (HCR.out _ _ _ _ _ _ h10 _ rfl).mono ?_
    rintro e w11 ⟨v11, rfl, h11⟩
    go_wp2_with fail
    refine (HR1.out _ _ _ _ _ _ h11).mono ?_
    rintro e w12 ⟨rfl, h12⟩
    go_wp2_with fail
    refine (HR4.out _ _ _ _ _ _ h12).mono ?_
    rintro e w13 ⟨rfl, h13⟩
    have H13 := Lib.hid h13
    clear h7 h8 h9 h10 h11 h12 h13
    go_wp2_with fail
    have hInh := fun (x v : Value) => (⟨fun h => h _ ((Kp.refl w13).drew), fun h _ _ => h⟩ : (∀ Wz9, (fun W' => Kp w13 W') Wz9 → x = v) ↔ x = v)
    dsimp only at hInh
    refine wp_region_quietC (C := fun W' => Kp w13 W') (by kernel_rfl) (by kernel_rfl) ((Kp.refl w13).drew) ?_
    repeat (first | go_big_quiet_step ((intro hW; first | (first | (go_at_call 18; refine (HPN.out _ _ _ _ _ _ (H13.out.keep hW)).mono ?_; rintro e w' ⟨rfl, hk9⟩; exact ⟨rfl, hW.trans hk9⟩) | (go_at_call 16; refine (HFK.out _).mono ?_; rintro e w' ⟨rfl, hk9⟩; exact ⟨rfl, hW.trans hk9⟩)) | (with_reducible rfl) | (skip; (try go_simp); first | done | with_reducible rfl | exact ⟨rfl, rfl⟩))) | quiet_step ((intro hW; first | (first | (go_at_call 18; refine (HPN.out _ _ _ _ _ _ (H13.out.keep hW)).mono ?_; rintro e w' ⟨rfl, hk9⟩; exact ⟨rfl, hW.trans hk9⟩) | (go_at_call 16; refine (HFK.out _).mono ?_; rintro e w' ⟨rfl, hk9⟩; exact ⟨rfl, hW.trans hk9⟩)) | (with_reducible rfl) | (skip; (try go_simp); first | done | with_reducible rfl | exact ⟨rfl, rfl⟩))))
    refine wpQuiet_nil ?_
    intro wq hwq
    clear hInh
    go_wp2_with fail
    go_ret
    exact ⟨rfl, (hk1.trans H13.out.kp).trans hwq⟩
end Go.Proofs.Ytbclmnlggngepaa
