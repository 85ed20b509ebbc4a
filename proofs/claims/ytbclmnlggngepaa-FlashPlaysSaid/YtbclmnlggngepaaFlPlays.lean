/- The walk of FlashPlays: step, same. -/
import Derived.Test.YtbclmnlggngepaaFlPair
import Derived.Test.YtbclmnlggngepaaFlLaw
namespace Go.Proofs.Ytbclmnlggngepaa
open Go.RowKit
set_option linter.unusedVariables false

theorem fl_short (S : ByteArray) (P : Nat) (hS : S.size ≤ 9223372036854775807) (hP : P ≤ 1000) (w : World) : Calls Try.prog 19 #[.string S, .int .i64 (P : Int)] w fun e w' => e = .returned (.string (S.extract 0 P)) ∧ w = w' :=
  short_any S P (by omega) (by omega) w
/-- What a step leaves. -/
def FStepPost (w0 : World) (g ib ic h hb hc : Nat) (p s r : Int) (e : Ending) (w' : World) : Prop :=
  e = .returned (.bool true) ∧ ∃ d v v', FPair w0 w' g ib ic h hb hc p s r d d v v' ∧ NdD d
section
variable {w0 W : World} {g ib ic h hb hc : Nat} {p s r : Int} {d : Dev} {v v' : Value}
/-- The worlds of 'f.Rot(..) == r.Rot(..)': ahead of the program's call, and behind it. -/
def RotC (n0 : Nat) (cs : List Value) (w0 : World) (g ib ic h hb hc : Nat) (p s r : Int) (d dr : Dev) (v v' : Value) (b : Bool) (W : World) : Prop :=
  Bk W n0 60 cs ∧ FPair w0 W g ib ic h hb hc p s r (if b = true then dr else d) d v v'
theorem RotC.keep {n0 : Nat} {cs : List Value} {w0 W W' : World} {g ib ic h hb hc : Nat} {p s r : Int} {d dr : Dev} {v v' : Value} {b : Bool} (t : RotC n0 cs w0 g ib ic h hb hc p s r d dr v v' b W) (k : Kp W W') : RotC n0 cs w0 g ib ic h hb hc p s r d dr v v' b W' := ⟨t.1.keep k, t.2.keep k⟩
set_option maxRecDepth 20000 in
set_option maxHeartbeats 12800000 in
theorem fstep (t : FPair w0 W g ib ic h hb hc p s r d d v v') (nd : NdD d) (what a b : Int) (S : ByteArray) (x : Int) (A : Option Addr) (cM : Nat) (mask : List Int) (near : Bool)
    (bw : -9223372036854775808 ≤ what ∧ what ≤ 9223372036854775807) (ba : -9223372036854775808 ≤ a ∧ a ≤ 9223372036854775807) (bb : -9223372036854775808 ≤ b ∧ b ≤ 9223372036854775807) (hS : S.size ≤ 9223372036854775807) (bx : 0 ≤ x ∧ x ≤ 255)
    (hM : NumsAt .i64 w0 A mask) (hmw : ∀ x ∈ mask, -9223372036854775808 ≤ x ∧ x ≤ 9223372036854775807) :
    Calls Try.prog 32 #[.pointer (some ⟨g, 0, none⟩), .pointer (some ⟨h, 0, none⟩), .agg #[.int .i64 what, .int .i64 a, .int .i64 b, .string S, .int .u8 x, .slice A mask.length cM, .bool near]] W (FStepPost w0 g ib ic h hb hc p s r) := by
  have hR := t.fl.ok.right
  obtain ⟨r1, r2, r3, r4, r5, r6⟩ := id hR
  have hsr := mul_sr hR
  obtain ⟨P, rfl⟩ : ∃ P : Nat, p = P := ⟨p.toNat, by omega⟩
  have hrl := nd_len t.fl.ok nd
  have HPW := Lib.hid (fun w => pick_any what 12 (by omega) (by omega) bw.1 bw.2 w)
  have hm0 := Int.emod_nonneg what (show (12 : Int) ≠ 0 by omega)
  have hm1 := Int.emod_lt_of_pos what (show (0 : Int) < 12 by omega)
  generalize what % 12 = m at *
  have HPA := Lib.hid (fun w => pick_any a 12 (by omega) (by omega) ba.1 ba.2 w)
  have ha0 := Int.emod_nonneg a (show (12 : Int) ≠ 0 by omega)
  have ha1 := Int.emod_lt_of_pos a (show (0 : Int) < 12 by omega)
  generalize a % 12 = a12 at *
  have HPS := Lib.hid (fun w => pick_any a (s * r) (by have := page_lt (a := 0) (b := 0) hR; omega) (by omega) ba.1 ba.2 w)
  generalize a % (s * r) = aP at *
  have HPR := Lib.hid (fun w => pick_any a r (by omega) (by omega) ba.1 ba.2 w)
  generalize a % r = aR at *
  have HPB := Lib.hid (fun w => pick_any b (P : Int) (by omega) (by omega) bb.1 bb.2 w)
  have hb0 := Int.emod_nonneg b (show (P : Int) ≠ 0 by omega)
  have hb1 := Int.emod_lt_of_pos b (show (0 : Int) < P by omega)
  generalize b % (P : Int) = bP at *
  have HSH := Lib.hid (fun w => fl_short S P hS (by omega) w)
  have hes : (S.extract 0 P).size ≤ P := by rw [ByteArray.size_extract]; omega
  generalize S.extract 0 P = S1 at *
  have HFI := Lib.hid (fun w => fill_any 0 ((P : Int) - (S1.size : Int)) (by omega) (by omega) w)
  have hfs : (fillS 0 ((P : Int) - (S1.size : Int)).toNat).size = P - S1.size := by rw [fillS_size]; omega
  generalize fillS 0 ((P : Int) - (S1.size : Int)).toNat = F1 at *
  have q1 : IntKind.i64.wrap ((P : Int) - (S1.size : Int)) = (P : Int) - (S1.size : Int) := IntWalk.i64_in _ (by omega)
  have q2 : IntKind.i64.wrap (s * r) = s * r := IntWalk.i64_in _ (by omega)
  have q3 : IntKind.i64.wrap (a12 - 2) = a12 - 2 := IntWalk.i64_in _ (by omega)
  have hcat : ¬ (9223372036854775807 < S1.size + F1.size) := by omega
  have hcs : (S1 ++ F1).size ≤ 9223372036854775807 := by rw [ByteArray.size_append]; omega
  have HCS := Lib.hid hcs
  have hss : S.size ≤ 9223372036854775807 := by omega
  have HM := Lib.hid hM
  have HMW := Lib.hid hmw
  have HND := Lib.hid nd
  clear hcs hfs hM hmw nd
  obtain ⟨d', k1, k2⟩ := t.rf.at_
  have c0 := fun O => (k1.keep (Kp.one W O)).c8.1
  have c1 := fun O => (k1.keep (Kp.one W O)).c8.2.1
  have c2 := fun O => (k1.keep (Kp.one W O)).c8.2.2.1
  go_enter Try.func32, Try.ntmps32
  go_wp2_with fail
  have kk0 := (Kp.one W (.cells #[.int .i64 what, .int .i64 a, .int .i64 b, .string S, .int .u8 x, .slice A mask.length cM, .bool near] 60)).alloc (.cells #[.int .i64 (P : Int), .int .i64 s, .int .i64 r] 23)
  have hb0 := (Bk.new W 60 [.int .i64 what, .int .i64 a, .int .i64 b, .string S, .int .u8 x, .slice A mask.length cM, .bool near]).alloc (.cells #[.int .i64 (P : Int), .int .i64 s, .int .i64 r] 23)
  have hb1 := Bk.new (W.alloc (.cells #[.int .i64 what, .int .i64 a, .int .i64 b, .string S, .int .u8 x, .slice A mask.length cM, .bool near] 60)) 23 [.int .i64 (P : Int), .int .i64 s, .int .i64 r]
  have hz1 : (W.alloc (.cells #[.int .i64 what, .int .i64 a, .int .i64 b, .string S, .int .u8 x, .slice A mask.length cM, .bool near] 60)).heap.size = W.heap.size + 1 := by simp
  rw [hz1] at hb1
  have t0 := t.keep kk0
  have hnf : W.heap.size ∉ foot g ib v := fun hx => by have := t.fl.at_.foot_lt _ hx; omega
  have HNF := Lib.hid hnf
  change Bk ((W.alloc (.cells #[.int .i64 what, .int .i64 a, .int .i64 b, .string S, .int .u8 x, .slice A mask.length cM, .bool near] 60)).alloc (.cells #[.int .i64 (P : Int), .int .i64 s, .int .i64 r] 23)) _ _ _ at hb0
  change Bk ((W.alloc (.cells #[.int .i64 what, .int .i64 a, .int .i64 b, .string S, .int .u8 x, .slice A mask.length cM, .bool near] 60)).alloc (.cells #[.int .i64 (P : Int), .int .i64 s, .int .i64 r] 23)) _ _ _ at hb1
  generalize hn0 : W.heap.size = n0 at *
  generalize hw2 : (W.alloc (.cells #[.int .i64 what, .int .i64 a, .int .i64 b, .string S, .int .u8 x, .slice A mask.length cM, .bool near] 60)).alloc (.cells #[.int .i64 (P : Int), .int .i64 s, .int .i64 r] 23) = w2 at *
  clear hw2 hn0 kk0 c0 c1 c2 k1 k2 hz1 hnf t
  have HX := Lib.hid (fun W' (k : Kp w2 W') => (⟨(hb0.keep k).cell 0, (hb0.keep k).cell 1, (hb0.keep k).cell 2, (hb0.keep k).cell 3, (hb0.keep k).cell 4, (hb0.keep k).cell 5, (hb0.keep k).cell 6, (hb1.keep k).cell 0, (hb1.keep k).cell 1, (hb1.keep k).cell 2⟩ : W'.cell? ⟨n0, 0, none⟩ = some (.int .i64 what) ∧ W'.cell? ⟨n0, 1, none⟩ = some (.int .i64 a) ∧ W'.cell? ⟨n0, 2, none⟩ = some (.int .i64 b) ∧ W'.cell? ⟨n0, 3, none⟩ = some (.string S) ∧ W'.cell? ⟨n0, 4, none⟩ = some (.int .u8 x) ∧ W'.cell? ⟨n0, 5, none⟩ = some (.slice A mask.length cM) ∧ W'.cell? ⟨n0, 6, none⟩ = some (.bool near) ∧ W'.cell? ⟨n0 + 1, 0, none⟩ = some (.int .i64 (P : Int)) ∧ W'.cell? ⟨n0 + 1, 1, none⟩ = some (.int .i64 s) ∧ W'.cell? ⟨n0 + 1, 2, none⟩ = some (.int .i64 r)))
  have HB0 := Lib.hid hb0
  clear hb0 hb1
  have hInh := fun (x v : Value) => (⟨fun h => h _ ((Kp.refl w2).drew), fun h _ _ => h⟩ : (∀ Wz9, (fun W1 => Kp w2 W1) Wz9 → x = v) ↔ x = v)
  dsimp only at hInh
  refine wp_region_quietC (C := fun W1 => Kp w2 W1) (by kernel_rfl) (by kernel_rfl) ((Kp.refl w2).drew) ?_
  repeat (first | go_big_quiet_step ((intro hW; first | fail | (with_reducible rfl) | (obtain ⟨x0, x1, x2, x3, x4, x5, x6, y0, y1, y2⟩ := HX.out _ hW; (try go_simp); first | done | with_reducible rfl | exact ⟨rfl, rfl⟩))) | quiet_step ((intro hW; first | fail | (with_reducible rfl) | (obtain ⟨x0, x1, x2, x3, x4, x5, x6, y0, y1, y2⟩ := HX.out _ hW; (try go_simp); first | done | with_reducible rfl | exact ⟨rfl, rfl⟩))))
  refine wpQuiet_nil ?_
  intro wq hwq
  clear hInh
  obtain ⟨x0, x1, x2, x3, x4, x5, x6, y0, y1, y2⟩ := HX.out _ hwq
  have t1 := t0.keep hwq
  have hcases : m = 5 ∨ (m = 6 ∨ m = 7) ∨ m = 8 ∨ m = 9 ∨ m = 10 ∨ m = 11 ∨ (m ≠ 5 ∧ m ≠ 6 ∧ m ≠ 7 ∧ m ≠ 8 ∧ m ≠ 9 ∧ m ≠ 10 ∧ m ≠ 11) := by omega
  clear hm0 hm1
  rcases near with _ | _
  · go_wp2_with fail
    refine (HPW.out _).mono ?_
    rintro e w9 ⟨rfl, rfl⟩
    rcases hcases with rfl | hm | rfl | rfl | rfl | rfl | ⟨h5, h6, h7, h8, h9, h10, h11⟩
    · go_wp2_with fail
      refine (erase_PF t1 (by omega) a).mono ?_
      rintro e w4 ⟨rfl, v1, t2, m2⟩
      go_wp2_with fail
      refine (erase_PR t2 (by omega) a).mono ?_
      rintro e w5 ⟨rfl, v2, t3⟩
      go_wp2_with fail
      go_ret
      exact ⟨ret_bool (by simp), _, _, _, t3, nd_erase HND.out _ (by omega)⟩
    · rcases hm with rfl | rfl
      all_goals
        go_wp2_with fail
        refine (flush_PF t1).mono ?_
        rintro e w4 ⟨rfl, v1, t2, m2⟩
        go_wp2_with fail
        refine (flush_PR t2).mono ?_
        rintro e w5 ⟨rfl, v2, t3⟩
        go_wp2_with fail
        go_ret
        exact ⟨ret_bool (by simp), _, _, _, t3, nd_flush HND.out⟩
    · go_wp2_with fail
      refine (crash_PF t1 A cM mask HM.out HMW.out).mono ?_
      rintro e w4 ⟨rfl, v1, t2, m2⟩
      clear x0 x1 x2 x3 x4 x5 x6 y0 y1 y2
      have x5 := ((HB0.out.keep hwq).mv m2.1 HNF.out).cell 5
      dsimp only [List.getElem?_cons_succ, List.getElem?_cons_zero] at x5
      go_wp2_with fail
      refine (crash_PR t2 A cM mask HM.out HMW.out).mono ?_
      rintro e w5 ⟨rfl, v2, t3⟩
      go_wp2_with fail
      go_ret
      exact ⟨rfl, _, _, _, t3, nd_nil rfl⟩
    · go_wp2_with fail
      refine (HPA.out _).mono ?_
      rintro e w9 ⟨rfl, rfl⟩
      go_wp2_with fail
      refine (fuse_PF t1 (a12 - 2) (by omega)).mono ?_
      rintro e w4 ⟨rfl, t2, m2⟩
      clear x0 x1 x2 x3 x4 x5 x6 y0 y1 y2
      have x1 := ((HB0.out.keep hwq).mv m2.1 HNF.out).cell 1
      dsimp only [List.getElem?_cons_succ, List.getElem?_cons_zero] at x1
      go_wp2_with fail
      refine (HPA.out _).mono ?_
      rintro e w9 ⟨rfl, rfl⟩
      go_wp2_with fail
      refine (fuse_PR t2 (a12 - 2) (by omega)).mono ?_
      rintro e w5 ⟨rfl, t3⟩
      go_wp2_with fail
      go_ret
      exact ⟨rfl, _, _, _, t3, nd_of_row rfl HND.out⟩
    · have HC0 : RotC n0 [.int .i64 what, .int .i64 a, .int .i64 b, .string S, .int .u8 x, .slice A mask.length cM, .bool false] w0 g ib ic h hb hc P s r d (rotD P s r d a b x).1 v v' false _ := ⟨HB0.out.keep hwq, t1⟩
      have HC := Lib.hid HC0
      have hat : b ≤ 9223372036854775807 := by omega
      clear HC0 x0 x1 x3 x5 y0 y1 y2
      go_wp2_with fail
      clear x2 x4 x6
      refine wp_region_rel3 (R1 := Kp) (C := RotC n0 [.int .i64 what, .int .i64 a, .int .i64 b, .string S, .int .u8 x, .slice A mask.length cM, .bool false] w0 g ib ic h hb hc P s r d (rotD P s r d a b x).1 v v') 11 5 (by kernel_rfl) (by kernel_rfl) (HC.out.keep (Kp.refl _).drew) (fun _ _ _ h k => h.keep k) Kp.refl (fun _ _ _ h k => h.trans k) ?_
      simp only [List.take_succ_cons, List.take_zero, List.drop_succ_cons, List.drop_zero]
      repeat (refine wpRel3_step (by simp) (fun K hK => ?_); apply rel3_eq; (case ob => (intro f b W hW hd; (have x4 := hW.1.cell 4; dsimp only [List.getElem?_cons_succ, List.getElem?_cons_zero] at x4); (try simp [deps, factOf, Region.binds] at hd); unfold relOp; go_simp; (first | exact ⟨Kp.refl _, rfl⟩ | exact Kp.refl _ | (refine ⟨Kp.refl _, ?_⟩; fail)))); go_simp; refine hK _ _ ?_; clear hK K)
      refine wpRel3_move rfl rfl (.int .i64 (rotD P s r d a b x).2) ?ob (fun K hK => ?_)
      case ob =>
        intro f W hW hd
        have HW2 := Lib.hid hW
        (try simp [deps, factOf, Region.binds] at hd)
        unfold mvOp
        go_simp
        (refine (rot_PF HW2.out.2 a b x bx hat).mono ?_; rintro e w4 ⟨rfl, t2, m2⟩; exact ⟨rfl, HW2.out.1.mv m2.1 HNF.out, t2⟩)
      go_simp
      refine hK _ _ ?_
      clear hK K
      repeat (refine wpRel3_step (by simp) (fun K hK => ?_); apply rel3_eq; (case ob => (intro f b W hW hd; (have x4 := hW.1.cell 4; dsimp only [List.getElem?_cons_succ, List.getElem?_cons_zero] at x4); (try simp [deps, factOf, Region.binds] at hd); unfold relOp; go_simp; (first | exact ⟨Kp.refl _, rfl⟩ | exact Kp.refl _ | (refine ⟨Kp.refl _, ?_⟩; fail)))); go_simp; refine hK _ _ ?_; clear hK K)
      refine wpRel3_nil ?_
      intro f W' hW hall
      have h5 : f 5 = .int .i64 (rotD P s r d a b x).2 := allF_get hall 5 _ rfl
      have h6 : f 6 = .pointer (some ⟨h, 0, none⟩) := allF_get hall 6 _ rfl
      have h7 : f 7 = .int .i64 a := allF_get hall 7 _ rfl
      have h8 : f 8 = .int .i64 b := allF_get hall 8 _ rfl
      have h10 : f 10 = .int .u8 x := allF_get hall 10 _ rfl
      clear hall
      dsimp only
      rw [h5, h6, h7, h8, h10]
      have HT := Lib.hid hW.2
      clear hW
      go_wp2_with fail
      refine (rot_PR HT.out a b x bx hat).mono ?_
      rintro e w5 ⟨rfl, v2, t3⟩
      go_wp2_with fail
      go_ret
      exact ⟨ret_bool (by simp), _, _, _, t3, nd_rot HND.out _ _ _⟩
    · go_wp2_with fail
      refine (read_PF t1 a).mono ?_
      rintro e w4 ⟨rfl, hk4⟩
      have t2 := t1.keep hk4
      clear x0 x1 x2 x3 x4 x5 x6 y0 y1 y2
      obtain ⟨x0, x1, x2, x3, x4, x5, x6, y0, y1, y2⟩ := HX.out _ (hwq.trans hk4)
      go_wp2_with fail
      refine (read_PR t2 a).mono ?_
      rintro e w5 ⟨rfl, hk5⟩
      have t3 := t2.keep hk5
      have hbe : ((readD (P : Int) s r d a).1.toList == (readD (P : Int) s r d a).1.toList) = true := by simp
      go_wp2_with fail
      go_ret
      exact ⟨ret_bool (by simp), _, _, _, t3, HND.out⟩
    · have g5 : (m == 5) = false := by simp; omega
      have g6 : (m == 6) = false := by simp; omega
      have g7 : (m == 7) = false := by simp; omega
      have g8 : (m == 8) = false := by simp; omega
      have g9 : (m == 9) = false := by simp; omega
      have g10 : (m == 10) = false := by simp; omega
      have g11 : (m == 11) = false := by simp; omega
      clear h5 h6 h7 h8 h9 h10 h11
      go_wp2_with fail
      refine (prog_PF t1 (by omega) a S hss).mono ?_
      rintro e w4 ⟨rfl, v1, t2, m2⟩
      go_wp2_with fail
      refine (prog_PR t2 (by omega) a S hss).mono ?_
      rintro e w5 ⟨rfl, v2, t3⟩
      go_wp2_with fail
      go_ret
      exact ⟨ret_bool (by simp), _, _, _, t3, nd_program HND.out _ _⟩
  · go_wp2_with fail
    refine (HPS.out _).mono ?_
    rintro e w9 ⟨rfl, rfl⟩
    go_wp2_with fail
    refine (HSH.out _).mono ?_
    rintro e w9 ⟨rfl, rfl⟩
    go_wp2_with fail
    refine (HFI.out _).mono ?_
    rintro e w3 ⟨rfl, hk3⟩
    have hwq3 := hwq.trans hk3
    have t9 := t1.keep hk3
    clear x0 x1 x2 x3 x4 x5 x6 y0 y1 y2 t1 hwq
    have t1 := t9
    clear t9
    have hwq := hwq3
    clear hwq3
    obtain ⟨x0, x1, x2, x3, x4, x5, x6, y0, y1, y2⟩ := HX.out _ hwq
    go_wp2_with fail
    refine (HPW.out _).mono ?_
    rintro e w9 ⟨rfl, rfl⟩
    rcases hcases with rfl | hm | rfl | rfl | rfl | rfl | ⟨h5, h6, h7, h8, h9, h10, h11⟩
    · go_wp2_with fail
      refine (HPR.out _).mono ?_
      rintro e w9 ⟨rfl, rfl⟩
      go_wp2_with fail
      refine (erase_PF t1 (by omega) aR).mono ?_
      rintro e w4 ⟨rfl, v1, t2, m2⟩
      go_wp2_with fail
      refine (erase_PR t2 (by omega) aR).mono ?_
      rintro e w5 ⟨rfl, v2, t3⟩
      go_wp2_with fail
      go_ret
      exact ⟨ret_bool (by simp), _, _, _, t3, nd_erase HND.out _ (by omega)⟩
    · rcases hm with rfl | rfl
      all_goals
        go_wp2_with fail
        refine (flush_PF t1).mono ?_
        rintro e w4 ⟨rfl, v1, t2, m2⟩
        go_wp2_with fail
        refine (flush_PR t2).mono ?_
        rintro e w5 ⟨rfl, v2, t3⟩
        go_wp2_with fail
        go_ret
        exact ⟨ret_bool (by simp), _, _, _, t3, nd_flush HND.out⟩
    · go_wp2_with fail
      refine (crash_PF t1 A cM mask HM.out HMW.out).mono ?_
      rintro e w4 ⟨rfl, v1, t2, m2⟩
      clear x0 x1 x2 x3 x4 x5 x6 y0 y1 y2
      have x5 := ((HB0.out.keep hwq).mv m2.1 HNF.out).cell 5
      dsimp only [List.getElem?_cons_succ, List.getElem?_cons_zero] at x5
      go_wp2_with fail
      refine (crash_PR t2 A cM mask HM.out HMW.out).mono ?_
      rintro e w5 ⟨rfl, v2, t3⟩
      go_wp2_with fail
      go_ret
      exact ⟨rfl, _, _, _, t3, nd_nil rfl⟩
    · go_wp2_with fail
      refine (HPA.out _).mono ?_
      rintro e w9 ⟨rfl, rfl⟩
      go_wp2_with fail
      refine (fuse_PF t1 (a12 - 2) (by omega)).mono ?_
      rintro e w4 ⟨rfl, t2, m2⟩
      clear x0 x1 x2 x3 x4 x5 x6 y0 y1 y2
      have x1 := ((HB0.out.keep hwq).mv m2.1 HNF.out).cell 1
      dsimp only [List.getElem?_cons_succ, List.getElem?_cons_zero] at x1
      go_wp2_with fail
      refine (HPA.out _).mono ?_
      rintro e w9 ⟨rfl, rfl⟩
      go_wp2_with fail
      refine (fuse_PR t2 (a12 - 2) (by omega)).mono ?_
      rintro e w5 ⟨rfl, t3⟩
      go_wp2_with fail
      go_ret
      exact ⟨rfl, _, _, _, t3, nd_of_row rfl HND.out⟩
    · go_wp2_with fail
      refine (HPB.out _).mono ?_
      rintro e w9 ⟨rfl, rfl⟩
      have HC0 : RotC n0 [.int .i64 what, .int .i64 a, .int .i64 b, .string S, .int .u8 x, .slice A mask.length cM, .bool true] w0 g ib ic h hb hc P s r d (rotD P s r d aP bP x).1 v v' false _ := ⟨HB0.out.keep hwq, t1⟩
      have HC := Lib.hid HC0
      have hat : bP ≤ 9223372036854775807 := by omega
      clear HC0 x0 x1 x3 x5 y0 y1 y2
      go_wp2_with fail
      clear x2 x4 x6
      refine wp_region_rel3 (R1 := Kp) (C := RotC n0 [.int .i64 what, .int .i64 a, .int .i64 b, .string S, .int .u8 x, .slice A mask.length cM, .bool true] w0 g ib ic h hb hc P s r d (rotD P s r d aP bP x).1 v v') 11 5 (by kernel_rfl) (by kernel_rfl) (HC.out.keep (Kp.refl _).drew) (fun _ _ _ h k => h.keep k) Kp.refl (fun _ _ _ h k => h.trans k) ?_
      simp only [List.take_succ_cons, List.take_zero, List.drop_succ_cons, List.drop_zero]
      repeat (refine wpRel3_step (by simp) (fun K hK => ?_); apply rel3_eq; (case ob => (intro f b W hW hd; (have x4 := hW.1.cell 4; dsimp only [List.getElem?_cons_succ, List.getElem?_cons_zero] at x4); (try simp [deps, factOf, Region.binds] at hd); unfold relOp; go_simp; (first | exact ⟨Kp.refl _, rfl⟩ | exact Kp.refl _ | (refine ⟨Kp.refl _, ?_⟩; fail)))); go_simp; refine hK _ _ ?_; clear hK K)
      refine wpRel3_move rfl rfl (.int .i64 (rotD P s r d aP bP x).2) ?ob (fun K hK => ?_)
      case ob =>
        intro f W hW hd
        have HW2 := Lib.hid hW
        (try simp [deps, factOf, Region.binds] at hd)
        unfold mvOp
        go_simp
        (refine (rot_PF HW2.out.2 aP bP x bx hat).mono ?_; rintro e w4 ⟨rfl, t2, m2⟩; exact ⟨rfl, HW2.out.1.mv m2.1 HNF.out, t2⟩)
      go_simp
      refine hK _ _ ?_
      clear hK K
      repeat (refine wpRel3_step (by simp) (fun K hK => ?_); apply rel3_eq; (case ob => (intro f b W hW hd; (have x4 := hW.1.cell 4; dsimp only [List.getElem?_cons_succ, List.getElem?_cons_zero] at x4); (try simp [deps, factOf, Region.binds] at hd); unfold relOp; go_simp; (first | exact ⟨Kp.refl _, rfl⟩ | exact Kp.refl _ | (refine ⟨Kp.refl _, ?_⟩; fail)))); go_simp; refine hK _ _ ?_; clear hK K)
      refine wpRel3_nil ?_
      intro f W' hW hall
      have h5 : f 5 = .int .i64 (rotD P s r d aP bP x).2 := allF_get hall 5 _ rfl
      have h6 : f 6 = .pointer (some ⟨h, 0, none⟩) := allF_get hall 6 _ rfl
      have h7 : f 7 = .int .i64 aP := allF_get hall 7 _ rfl
      have h8 : f 8 = .int .i64 bP := allF_get hall 8 _ rfl
      have h10 : f 10 = .int .u8 x := allF_get hall 10 _ rfl
      clear hall
      dsimp only
      rw [h5, h6, h7, h8, h10]
      have HT := Lib.hid hW.2
      clear hW
      go_wp2_with fail
      refine (rot_PR HT.out aP bP x bx hat).mono ?_
      rintro e w5 ⟨rfl, v2, t3⟩
      go_wp2_with fail
      go_ret
      exact ⟨ret_bool (by simp), _, _, _, t3, nd_rot HND.out _ _ _⟩
    · go_wp2_with fail
      refine (read_PF t1 a).mono ?_
      rintro e w4 ⟨rfl, hk4⟩
      have t2 := t1.keep hk4
      clear x0 x1 x2 x3 x4 x5 x6 y0 y1 y2
      obtain ⟨x0, x1, x2, x3, x4, x5, x6, y0, y1, y2⟩ := HX.out _ (hwq.trans hk4)
      go_wp2_with fail
      refine (read_PR t2 a).mono ?_
      rintro e w5 ⟨rfl, hk5⟩
      have t3 := t2.keep hk5
      have hbe : ((readD (P : Int) s r d a).1.toList == (readD (P : Int) s r d a).1.toList) = true := by simp
      go_wp2_with fail
      go_ret
      exact ⟨ret_bool (by simp), _, _, _, t3, HND.out⟩
    · have g5 : (m == 5) = false := by simp; omega
      have g6 : (m == 6) = false := by simp; omega
      have g7 : (m == 7) = false := by simp; omega
      have g8 : (m == 8) = false := by simp; omega
      have g9 : (m == 9) = false := by simp; omega
      have g10 : (m == 10) = false := by simp; omega
      have g11 : (m == 11) = false := by simp; omega
      clear h5 h6 h7 h8 h9 h10 h11
      go_wp2_with fail
      refine (prog_PF t1 (by omega) aP (S1 ++ F1) HCS.out).mono ?_
      rintro e w4 ⟨rfl, v1, t2, m2⟩
      go_wp2_with fail
      refine (prog_PR t2 (by omega) aP (S1 ++ F1) HCS.out).mono ?_
      rintro e w5 ⟨rfl, v2, t3⟩
      go_wp2_with fail
      go_ret
      exact ⟨ret_bool (by simp), _, _, _, t3, nd_program HND.out _ _⟩
end
end Go.Proofs.Ytbclmnlggngepaa
