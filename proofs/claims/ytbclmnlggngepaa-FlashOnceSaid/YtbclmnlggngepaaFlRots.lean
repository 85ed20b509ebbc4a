/- FlashRots. -/
import Derived.Test.YtbclmnlggngepaaFlErased
namespace Go.Proofs.Ytbclmnlggngepaa
open Go.RowKit
set_option linter.unusedVariables false
theorem FlS.mv {w0 W W' : World} {g ib ic : Nat} {p s r : Int} {d : Dev} {v : Value} {S : List Nat} (h : FlS w0 W g ib ic p s r d v) (k : Mv S W W') (hd : ∀ x ∈ foot g ib v, x ∉ S) (hS : ∀ b ∈ S, w0.heap.size ≤ b) : FlS w0 W' g ib ic p s r d v :=
  ⟨h.at_.mv k hd, h.ok, Mv.kp h.kp hS k, h.new⟩
theorem getD_lt7 (img : List Nat) (h : ∀ n ∈ img, n < 256) (i : Nat) : img.getD i 0 < 256 := by
  rw [List.getD_eq_getElem?_getD]
  cases hg : img[i]? with
  | none => show (0 : Nat) < 256; omega
  | some y => exact h y (List.mem_of_getElem? hg)
theorem rot_yes {d : Dev} {P T x : Int} (hP : 0 ≤ P ∧ P < 12) (hT : 0 ≤ T ∧ T < 32) : rotD 32 3 4 d P T x = ({ d with img := d.img.set (32 * P + T).toNat (d.img.getD (32 * P + T).toNat 0 ^^^ x.toNat) }, 0) := by
  unfold rotD
  rw [if_neg (by omega), show P * 32 + T = 32 * P + T by omega]
theorem rot_twice {img : List Nat} {o X : Nat} (ho : o < img.length) : ((img.set o (img.getD o 0 ^^^ X)).set o ((img.set o (img.getD o 0 ^^^ X)).getD o 0 ^^^ X)) = img := by
  have e : (img.set o (img.getD o 0 ^^^ X)).getD o 0 = img.getD o 0 ^^^ X := by
    rw [List.getD_eq_getElem?_getD, List.getElem?_set_self ho]
    rfl
  rw [e, List.set_set, Nat.xor_assoc, Nat.xor_self, Nat.xor_zero]
  rw [List.getD_eq_getElem?_getD, List.getElem?_eq_getElem ho]
  exact List.set_getElem_self ho
set_option maxRecDepth 20000 in
set_option maxHeartbeats 6400000 in
theorem FlashRots_walk (w : World) (image : ByteArray) (wi : image.size ≤ 140737488351232) (page : Int) (wp : (Lit.int .i64 page).wf = true) (at' : Int) (wa : (Lit.int .i64 at').wf = true) (x : Int) (wx : (Lit.int .u8 x).wf = true) :
    Calls Try.prog 8 #[.string image, .int .i64 page, .int .i64 at', .int .u8 x] w fun e w' => e = .returned (.bool true) ∧ Kp w w' := by
  have hp := bounds_i64 wp
  have ha := bounds_i64 wa
  have hx := bounds_u8 wx
  clear wp wa wx
  have HP := Lib.hid (fun w => pick_any page 12 (by omega) (by omega) hp.1 hp.2 w)
  have HT := Lib.hid (fun w => pick_any at' 32 (by omega) (by omega) ha.1 ha.2 w)
  have hP : 0 ≤ page % 12 ∧ page % 12 < 12 := by omega
  have hT : 0 ≤ at' % 32 ∧ at' % 32 < 32 := by omega
  generalize page % 12 = P at *
  generalize at' % 32 = T at *
  clear hp ha
  obtain ⟨X, rfl⟩ : ∃ X : Nat, x = X := ⟨x.toNat, by omega⟩
  have HSA := Lib.hid (fun w => short_any image 384 (by omega) (by omega) w)
  have hxa := ext384_le image
  generalize image.extract 0 384 = I at *
  have HN := Lib.hid (fun w => new_S tinyR I (by omega) w)
  have ok0 := newD_ok tinyR I (by omega)
  have hlen := ok0.len
  have hby := ok0.byt
  have hol : (32 * P + T).toNat < (newD 32 3 4 I).img.length := by omega
  have hR1 := rot_yes (d := newD 32 3 4 I) (x := (X : Int)) hP hT
  have hR2 := rot_yes (d := (rotD 32 3 4 (newD 32 3 4 I) P T X).1) (x := (X : Int)) hP hT
  have h2 : (rotD 32 3 4 (rotD 32 3 4 (newD 32 3 4 I) P T X).1 P T X).1 = newD 32 3 4 I := by
    rw [hR2, hR1]
    show ({ newD 32 3 4 I with img := _ } : Dev) = _
    rw [Int.toNat_natCast, rot_twice hol]
  have hc2 : (rotD 32 3 4 (rotD 32 3 4 (newD 32 3 4 I) P T X).1 P T X).2 = 0 := by rw [hR2]
  have hc1 : (rotD 32 3 4 (newD 32 3 4 I) P T X).2 = 0 := by rw [hR1]
  have hi1 : (rotD 32 3 4 (newD 32 3 4 I) P T X).1.img = (newD 32 3 4 I).img.set (32 * P + T).toNat ((newD 32 3 4 I).img.getD (32 * P + T).toNat 0 ^^^ X) := by rw [hR1, Int.toNat_natCast]
  clear hR1 hR2
  have hT9 : T ≤ 9223372036854775807 := by omega
  have HRA := Lib.hid (fun (w W : World) g ib ic v (h : FlS w W g ib ic 32 3 4 (newD 32 3 4 I) v) => rot_S h P T X (by omega) hT9)
  rw [hc1] at HRA
  have HRB := Lib.hid (fun (w W : World) g ib ic v (h : FlS w W g ib ic 32 3 4 (rotD 32 3 4 (newD 32 3 4 I) P T X).1 v) => rot_S h P T X (by omega) hT9)
  rw [hc2, h2] at HRB
  generalize (rotD 32 3 4 (newD 32 3 4 I) P T X).1 = d1 at *
  have HI0 := Lib.hid (fun (w W : World) g ib ic v (h : FlS w W g ib ic 32 3 4 (newD 32 3 4 I) v) => image_S h)
  have HI1 := Lib.hid (fun (w W : World) g ib ic v (h : FlS w W g ib ic 32 3 4 d1 v) => fimage h.at_)
  have hsb : sb (strN (newD 32 3 4 I).img) = ints (newD 32 3 4 I).img := by rw [sb_nb, nb_strN _ hby]
  have hws : (strN (newD 32 3 4 I).img).size = 384 := by rw [strN_size]; omega
  generalize newD 32 3 4 I = d0 at *
  clear h2 hc1 hc2 ok0
  generalize hS0 : strN d0.img = S0 at *
  have hy : d0.img.getD (32 * P + T).toNat 0 < 256 := getD_lt7 d0.img hby _
  have HX := Lib.hid (u8_xor_nat _ _ hy (show X < 256 by omega))
  have hBYc := fun (W : World) gg (h : By W gg (ints d0.img)) => h.cell (32 * P + T).toNat (by rw [List.length_map]; exact hol)
  have hBYf := fun (W : World) gg (h : By W gg (ints d0.img)) => h.free (32 * P + T).toNat (by rw [List.length_map]; exact hol)
  have hBYp : ∀ (W : World) gg (h : By W gg (ints d0.img)), By (W.setCell ⟨gg, (32 * P + T).toNat, none⟩ (.int .u8 ((d0.img.getD (32 * P + T).toNat 0 ^^^ X : Nat) : Int))) gg (ints d1.img) := by
    intro W gg h
    have := h.put (32 * P + T).toNat (by rw [List.length_map]; exact hol) ((d0.img.getD (32 * P + T).toNat 0 ^^^ X : Nat) : Int)
    rw [hi1]
    unfold ints
    rw [List.map_set]
    exact this
  have hBYx : ∀ (W : World) gg (h : By W gg (ints d0.img)), W.cell? ⟨gg, (32 * P + T).toNat, none⟩ = some (.int .u8 (d0.img.getD (32 * P + T).toNat 0 : Nat)) := by
    intro W gg h
    rw [hBYc W gg h, List.getElem_map, List.getD_eq_getElem?_getD, List.getElem?_eq_getElem hol]
    rfl
  have hd1l : d1.img.length = 384 := by rw [hi1, List.length_set]; omega
  have HBX := Lib.hid hBYx
  have HBF := Lib.hid hBYf
  have HBP := Lib.hid hBYp
  have HCV := Lib.hid (fun (W : World) gg c (h : By W gg (ints d1.img)) => show _ = Result.ok (Value.string (strN d1.img)) W from h.conv (n := 384) (c := c) (by rw [List.length_map]; exact hd1l))
  clear hBYc hBYf hBYp hBYx hi1 hby hS0 hlen hd1l
  generalize d0.img.getD (32 * P + T).toNat 0 = y at *
  generalize hS1 : strN d1.img = S1 at *
  clear hS1
  have q1 : IntKind.i64.wrap (32 * P) = 32 * P := IntWalk.i64_in _ (by omega)
  have q2 : IntKind.i64.wrap (32 * P + T) = 32 * P + T := IntWalk.i64_in _ (by omega)
  have q3 : 0 ≤ 32 * P + T := by omega
  have q4 : 32 * P + T < (S0.size : Int) := by omega
  have q5 : 32 * P + T < 384 := by omega
  have b0 : (S0.toList == S0.toList) = true := by simp
  have b1 : (S1.toList == S1.toList) = true := by simp
  go_enter Try.func8, Try.ntmps8
  go_wp2_with fail
  refine (ftiny _).mono ?_
  rintro e w1 ⟨rfl, hk1⟩
  go_wp2_with fail
  refine (HSA.out _).mono ?_
  rintro e w2 ⟨rfl, rfl⟩
  go_wp2_with fail
  refine (HN.out _).mono ?_
  rintro e w3 ⟨g, ib, ic, v, rfl, h3⟩
  go_wp2_with fail
  refine (falive _).mono ?_
  rintro e w4 ⟨rfl, hk4⟩
  have h4 := h3.keep hk4
  clear h3 hk4
  go_wp2_with fail
  refine (HP.out _).mono ?_
  rintro e w5 ⟨rfl, rfl⟩
  go_wp2_with fail
  refine (HT.out _).mono ?_
  rintro e w6 ⟨rfl, rfl⟩
  go_wp2_with fail
  refine (HI0.out _ _ _ _ _ _ h4).mono ?_
  rintro e w7 ⟨rfl, h7⟩
  go_wp2_with fail
  refine (HRA.out _ _ _ _ _ _ h7).mono ?_
  rintro e w8 ⟨rfl, h8⟩
  obtain ⟨W1, c, hcv, hbb, hkb, hsz, hcap⟩ := bytes_of2 w8 S0 9 Try.underlying9
  rw [hsb] at hbb
  have hx1 := HBX.out _ _ hbb
  have hf1 := HBF.out _ _ hbb
  have h9 := (h8.keep hkb).mv (S := [w8.heap.size]) ((Mv.refl W1).set (p := ⟨w8.heap.size, (32 * P + T).toNat, none⟩) (by simp) (.int .u8 ((y ^^^ X : Nat) : Int))) (fun z hz hm => by
    have := h8.at_.foot_lt z hz
    simp at hm
    omega) (fun b hb => by
    simp at hb
    have := h8.kp.size
    omega)
  have hb9 := HBP.out _ _ hbb
  have H9 := Lib.hid h9
  have HB9 := Lib.hid hb9
  clear h4 h7 h8 h9 hb9 hbb hkb
  have q6 : 32 * P + T < (c : Int) := by omega
  go_wp2_with fail
  rw [HX.out]
  refine (HI1.out _ _ _ _ _ _ H9.out).mono ?_
  rintro e w10 ⟨rfl, hk10⟩
  have h10 := H9.out.keep hk10
  have hcv2 := HCV.out _ _ c (HB9.out.keep hk10)
  go_wp2_with fail
  refine (HRB.out _ _ _ _ _ _ h10).mono ?_
  rintro e w11 ⟨rfl, h11⟩
  go_wp2_with fail
  refine (HI0.out _ _ _ _ _ _ h11).mono ?_
  rintro e w12 ⟨rfl, h12⟩
  go_wp2_with fail
  go_ret
  exact ⟨rfl, hk1.trans h12.kp⟩
end Go.Proofs.Ytbclmnlggngepaa
