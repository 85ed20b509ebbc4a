/- The walks of PieceNone, PieceTypes. -/
import Derived.Test.YtadggldngoknjaaPiece6
import Derived.OpenShut
namespace Go.Proofs.Ytadggldngoknjaa
open Go.RowKit
set_option linter.unusedVariables false

section
variable {w : World} {g : Nat} {t : TypeId} {a b c d e f : Value}
theorem Bk.c3 (h : Bk w g t [a, b, c]) : w.cell? ⟨g, 0, none⟩ = some a ∧ w.cell? ⟨g, 1, none⟩ = some b ∧ w.cell? ⟨g, 2, none⟩ = some c := ⟨h.cell 0, h.cell 1, h.cell 2⟩
theorem Bk.c4 (h : Bk w g t [a, b, c, d]) : w.cell? ⟨g, 0, none⟩ = some a ∧ w.cell? ⟨g, 1, none⟩ = some b ∧ w.cell? ⟨g, 2, none⟩ = some c ∧ w.cell? ⟨g, 3, none⟩ = some d := ⟨h.cell 0, h.cell 1, h.cell 2, h.cell 3⟩
theorem Bk.c6 (h : Bk w g t [a, b, c, d, e, f]) : w.cell? ⟨g, 0, none⟩ = some a ∧ w.cell? ⟨g, 1, none⟩ = some b ∧ w.cell? ⟨g, 2, none⟩ = some c ∧ w.cell? ⟨g, 3, none⟩ = some d ∧ w.cell? ⟨g, 4, none⟩ = some e ∧ w.cell? ⟨g, 5, none⟩ = some f := ⟨h.cell 0, h.cell 1, h.cell 2, h.cell 3, h.cell 4, h.cell 5⟩
end

theorem frame_none (w : World) : Calls Try.prog 15 #[.nilIface] w fun e w' => e = .returned (.tuple #[frv 0 0 0 ⟨#[]⟩, .int .i64 2]) ∧ Kp w w' := by
  have := frame_any none trivial w
  have e : frameV (fkOf none) (faOf none) (fbOf none) (fsOf none) = .tuple #[frv 0 0 0 ⟨#[]⟩, .int .i64 2] := by
    simp only [fkOf, faOf, fbOf, fsOf]
    have : ofP 0 0 0 ⟨#[]⟩ = none := by unfold ofP; rw [if_neg (by omega)]
    unfold frameV; rw [this]
  rwa [e] at this

set_option maxRecDepth 20000 in
set_option maxHeartbeats 1600000 in
theorem PieceNone_walk (w : World) : Calls Try.prog 6 #[] w fun e w' => e = .returned (.bool true) ∧ Kp w w' := by
  have h2 := fun w => aspart_any none w
  have h3 := fun w => asseal_any none w
  have h4 := fun w => asfloor_any none w
  simp only [pval, sealV, partV, floorV] at h2 h3 h4
  have H2 := Lib.hid h2
  have H3 := Lib.hid h3
  have H4 := Lib.hid h4
  clear h2 h3 h4
  go_enter Try.func6, Try.ntmps6
  go_wp2_with fail
  refine (frame_none _).mono ?_
  rintro e w1 ⟨rfl, hk1⟩
  go_wp2_with fail
  refine (H2.out _).mono ?_
  rintro e w2 ⟨rfl, hk2⟩
  have b1 := (Bk.new w1 29 [.int .i64 0, .int .u32 0, .int .u32 0, .string ⟨#[]⟩]).keep hk2
  have k2 : Kp w w2 := Kp.trans (hk1.alloc _) hk2
  clear hk2
  go_wp2_with fail
  refine (H3.out _).mono ?_
  rintro e w3 ⟨rfl, hk3⟩
  have b2 := (Bk.new w2 31 [.int .u32 0, .int .u32 0, .string ⟨#[]⟩]).keep hk3
  have b1 := (b1.alloc _).keep hk3
  have k3 : Kp w w3 := Kp.trans (k2.alloc _) hk3
  clear hk3 k2
  go_wp2_with fail
  refine (H4.out _).mono ?_
  rintro e w4 ⟨rfl, hk4⟩
  have b3 := (Bk.new w3 33 [.int .u32 0, .int .u32 0, .int .u32 0, .int .u32 0, .int .u32 0, .int .u32 0]).keep hk4
  have b2 := (b2.alloc _).keep hk4
  have b1 := (b1.alloc _).keep hk4
  have k4 : Kp w w4 := Kp.trans (k3.alloc _) hk4
  clear hk4 k3
  go_wp2_with fail
  refine (alive_any _).mono ?_
  rintro e w5 ⟨rfl, hk5⟩
  have b4 := (Bk.new w4 35 [.int .u32 0, .int .u32 0, .int .u32 0]).keep hk5
  have b3 := (b3.alloc _).keep hk5
  have b2 := (b2.alloc _).keep hk5
  have b1 := (b1.alloc _).keep hk5
  have k5 : Kp w w5 := Kp.trans (k4.alloc _) hk5
  clear hk5 k4
  obtain ⟨c10, c11, c12, c13⟩ := b1.c4
  obtain ⟨c20, c21, c22⟩ := b2.c3
  obtain ⟨c30, c31, c32, c33, c34, c35⟩ := b3.c6
  obtain ⟨c40, c41, c42⟩ := b4.c3
  clear b1 b2 b3 b4
  go_wp2_with fail
  go_ret
  exact ⟨rfl, by (repeat (first | with_reducible exact Kp.refl _ | with_reducible assumption | with_reducible refine Kp.alloc ?_ _ | with_reducible refine Kp.drew ?_ | with_reducible refine Kp.drewN ?_ _ | exact Kp.refl _ | assumption | refine Kp.alloc ?_ _ | refine Kp.drew ?_ | refine Kp.drewN ?_ _ | refine Kp.trans ?_ (by assumption)))⟩
set_option maxRecDepth 20000 in
set_option maxHeartbeats 3200000 in
theorem PieceTypes_walk (w : World) (a : Int) (wa : (Lit.int .u32 a).wf = true) (b : Int) (wb : (Lit.int .u32 b).wf = true) (c : Int) (wc : (Lit.int .u32 c).wf = true) (s : ByteArray) (hs : s.size ≤ 140737488351232) :
    Calls Try.prog 7 #[.int .u32 a, .int .u32 b, .int .u32 c, .string s] w fun e w' => e = .returned (.bool true) ∧ Kp w w' := by
  have ba := bounds_u32 wa
  have bb := bounds_u32 wb
  have bc := bounds_u32 wc
  clear wa wb wc
  have h1 := fun w => aspart_any (some (.part a b s)) w
  have h2 := fun w => asseal_any (some (.slp a b 0 0 c 0)) w
  have h3 := fun w => asfloor_any (some (.floor a 0 c)) w
  have h4 := fun w => aspart_any (some (.floor a 0 0)) w
  have h5 := fun w => asfloor_any (some (.head a 0)) w
  simp only [pval, sealV, partV, floorV] at h1 h2 h3 h4 h5
  have H1 := Lib.hid h1
  have H2 := Lib.hid h2
  have H3 := Lib.hid h3
  have H4 := Lib.hid h4
  have H5 := Lib.hid h5
  clear h1 h2 h3 h4 h5
  go_enter Try.func7, Try.ntmps7
  go_wp2_with fail
  refine (H1.out _).mono ?_
  rintro e w1 ⟨rfl, hk1⟩
  go_wp2_with fail
  refine (H2.out _).mono ?_
  rintro e w2 ⟨rfl, hk2⟩
  have b1 := (Bk.new w1 31 [.int .u32 a, .int .u32 b, .string s]).keep hk2
  have k2 : Kp w w2 := Kp.trans (hk1.alloc _) hk2
  clear hk2
  go_wp2_with fail
  refine (H3.out _).mono ?_
  rintro e w3 ⟨rfl, hk3⟩
  have b2 := (Bk.new w2 33 [.int .u32 a, .int .u32 b, .int .u32 0, .int .u32 0, .int .u32 c, .int .u32 0]).keep hk3
  have b1 := (b1.alloc _).keep hk3
  have k3 : Kp w w3 := Kp.trans (k2.alloc _) hk3
  clear hk3 k2
  go_wp2_with fail
  refine (H4.out _).mono ?_
  rintro e w4 ⟨rfl, hk4⟩
  have b3 := (Bk.new w3 35 [.int .u32 a, .int .u32 0, .int .u32 c]).keep hk4
  have b2 := (b2.alloc _).keep hk4
  have b1 := (b1.alloc _).keep hk4
  have k4 : Kp w w4 := Kp.trans (k3.alloc _) hk4
  clear hk4 k3
  go_wp2_with fail
  refine (H5.out _).mono ?_
  rintro e w5 ⟨rfl, hk5⟩
  have b3 := (b3.alloc _).keep hk5
  have b2 := (b2.alloc _).keep hk5
  have b1 := (b1.alloc _).keep hk5
  have k5 : Kp w w5 := Kp.trans (k4.alloc _) hk5
  clear hk5 k4
  go_wp2_with fail
  refine (alive_any _).mono ?_
  rintro e w6 ⟨rfl, hk6⟩
  have b3 := (b3.alloc _).keep hk6
  have b2 := (b2.alloc _).keep hk6
  have b1 := (b1.alloc _).keep hk6
  have k6 : Kp w w6 := Kp.trans (k5.alloc _) hk6
  clear hk6 k5
  obtain ⟨c10, c11, c12⟩ := b1.c3
  obtain ⟨c20, c21, c22, c23, c24, c25⟩ := b2.c6
  obtain ⟨c30, c31, c32⟩ := b3.c3
  go_wp2_with fail
  refine (kind_head 0 0 _).mono ?_
  rintro e w7 ⟨rfl, hk7⟩
  clear c10 c11 c12 c20 c21 c22 c23 c24 c25 c30 c31 c32
  obtain ⟨c10, c11, c12⟩ := (b1.keep hk7).c3
  obtain ⟨c20, c21, c22, c23, c24, c25⟩ := (b2.keep hk7).c6
  obtain ⟨c30, c31, c32⟩ := (b3.keep hk7).c3
  go_wp2_with fail
  refine (kind_part _ _ _ _).mono ?_
  rintro e w8 ⟨rfl, hk8⟩
  clear c10 c11 c12 c20 c21 c22 c23 c24 c25 c30 c31 c32
  obtain ⟨c20, c21, c22, c23, c24, c25⟩ := ((b2.keep hk7).keep hk8).c6
  obtain ⟨c30, c31, c32⟩ := ((b3.keep hk7).keep hk8).c3
  go_wp2_with fail
  refine (kind_seal _ _ _ _ _ _ _).mono ?_
  rintro e w9 ⟨rfl, hk9⟩
  clear c20 c21 c22 c23 c24 c25 c30 c31 c32
  obtain ⟨c30, c31, c32⟩ := (((b3.keep hk7).keep hk8).keep hk9).c3
  go_wp2_with fail
  refine (kind_floor _ _ _ _).mono ?_
  rintro e w10 ⟨rfl, hk10⟩
  go_wp2_with fail
  go_ret
  exact ⟨rfl, (((k6.trans hk7).trans hk8).trans hk9).trans hk10⟩
end Go.Proofs.Ytadggldngoknjaa
