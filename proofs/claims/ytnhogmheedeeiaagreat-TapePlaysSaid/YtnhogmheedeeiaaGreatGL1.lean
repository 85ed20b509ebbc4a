/- Merged texts: LawTape6. -/
import Derived.Test.YtnhogmheedeeiaaGreatGJ
set_option linter.unusedSimpArgs false
set_option linter.unusedVariables false
/- The walk of TapePlays. -/
namespace Go.Proofs.YtnhogmheedeeiaaGreat
open Go.RowKit
set_option linter.unusedVariables false
set_option maxRecDepth 20000
set_option maxHeartbeats 25600000 in
theorem TapePlays_walk (w : World) (p s r : Int) (wp : (Lit.int .i64 p).wf = true) (ws : (Lit.int .i64 s).wf = true) (wr : (Lit.int .i64 r).wf = true) (A : Option Addr) (c : Nat) (xs : List TStp) (H : TStpsAt w A xs) (hw : TStpOk xs) :
    Calls Tryz.prog 3 #[geo p s r, .slice A xs.length c] w fun e w' => e = .returned (.bool true) ∧ Kp w w' := by
  have bp := bounds_i64 wp
  have bs := bounds_i64 ws
  have br := bounds_i64 wr
  clear wp ws wr
  obtain ⟨P, S, n, hP, hS, hn, hR, hn7, hS6, hP64⟩ := small_geom p s r
  have HGE := Lib.hid (fun w => bgeom_any p s r bp bs br w)
  rw [hP, hS, hn] at HGE
  clear hP hS hn bp bs br
  obtain ⟨r1, r2, r3, r4, r5, r6⟩ := id hR
  have HM := Lib.hid (fun W => made_any P S n hR W)
  unfold MadePost at HM
  have HAL := Lib.hid talive
  have HRM := Lib.hid (fun W => rroom_any P S n hR W)
  have hxl := H.1
  go_enter Tryz.func3, Tryz.ntmps3
  go_wp2_with fail
  refine (HGE.out _).mono ?_
  rintro e w1 ⟨rfl, hk1⟩
  have hB := (Bk.new w 23 [.int .i64 p, .int .i64 s, .int .i64 r]).keep hk1
  have hK := (Kp.one w (gob p s r)).trans hk1
  clear hk1
  obtain ⟨c0, c1, c2⟩ := hB.c3g
  have f0 := hB.free 0
  have f1 := hB.free 1
  have f2 := hB.free 2
  go_wp2_with fail
  obtain ⟨hB2, hK2⟩ := put3 hB hK (Nat.le_refl _) (.int .i64 P) (.int .i64 S) (.int .i64 n)
  generalize ((w1.setCell ⟨w.heap.size, 0, none⟩ (.int .i64 P)).setCell ⟨w.heap.size, 1, none⟩ (.int .i64 S)).setCell ⟨w.heap.size, 2, none⟩ (.int .i64 (n : Int)) = w2 at *
  clear c0 c1 c2 f0 f1 f2 hB hK
  have HC := Lib.hid (fun W (kk : Kp w2 W) => (show _ ∧ _ ∧ _ from (hB2.keep kk).c3g))
  refine (HM.out _).mono ?_
  rintro e w3 ⟨pb, tb, g, ib, ic, h, q, v, rb, a, ab, ac, b, be, bu, rfl, -, t, w9, k1, k2, l1, l2, l3, l4, l5, rt⟩
  have t3 := tp_made hR t k1 l1 l2 l3 l4 rt
  have T3 : Hid (TPe w2 pb tb g ib ic h q rb a ab ac b be bu P S (newD P S (n : Nat) ⟨#[]⟩) (newD P S (n : Nat) ⟨#[]⟩) (List.replicate n (0, 0)) (List.replicate n (0, 0)) (-1) (-1) w3) := Lib.hid ⟨_, _, t3⟩
  have hrl : (List.replicate n ((0 : Int), (0 : Int))).length = n := List.length_replicate
  have HRL := Lib.hid hrl
  clear t k1 k2 l1 l2 l3 l4 l5 rt t3 w9 HM hB2 hrl
  go_wp2_with fail
  refine (HAL.out _).mono ?_
  rintro e w4 ⟨rfl, hk4⟩
  have T4 := Lib.hid (T3.out.keep hk4)
  clear T3
  go_wp2_with fail
  go_loopw [6] (fun iv wr => TQ w2 pb tb g ib ic h q rb a ab ac b be bu P S n iv wr) (fun iv _ => 60 - (intOf iv).toNat)
  case atStart => exact ⟨0, _, _, _, by omega, rfl, T4.out, nd_nil rfl, HRL.out⟩
  case round =>
    obtain ⟨j, d, l, o, hj, rfl, ht, nd, hln⟩ := hrel
    clear T4
    have HT := Lib.hid ht
    have hkr := ht.kp
    have HND := Lib.hid nd
    have HLN := Lib.hid hln
    clear ht nd hln
    by_cases hlt : j < xs.length ∧ j < 60
    · obtain ⟨hjl, hj60⟩ := hlt
      have hj1 : (j : Int) < (xs.length : Int) := by omega
      have hj2 : (j : Int) < 60 := by omega
      have qj : IntKind.i64.wrap ((j : Int) + 1) = (j : Int) + 1 := IntWalk.i64_in _ (by omega)
      obtain ⟨sb, off, rfl, hcs⟩ := H.2 (by omega)
      obtain ⟨o1, o2, o3, o4, o5, o6⟩ := hw _ (List.getElem_mem hjl)
      have HS := Lib.hid (fun W (kk : Kp w2 W) => (show _ from And.intro ((hK2.trans kk).cell (hcs j hjl).1) (And.intro ((hK2.trans kk).cell (hcs j hjl).2.1) (And.intro ((hK2.trans kk).cell (hcs j hjl).2.2.1) (And.intro ((hK2.trans kk).cell (hcs j hjl).2.2.2.1) (And.intro ((hK2.trans kk).cell (hcs j hjl).2.2.2.2.1) (And.intro ((hK2.trans kk).cell (hcs j hjl).2.2.2.2.2.1) ((hK2.trans kk).cell (hcs j hjl).2.2.2.2.2.2))))))))
      clear hcs
      generalize xs[j] = x at *
      obtain ⟨xw, xa, fk, fa, fb, ft, near⟩ := x
      dsimp only at *
      obtain ⟨s0, s1, s2, s3, s4, s5, s6⟩ := HS.out _ hkr
      have z6 : ∀ ob, (wr.alloc ob).cell? ⟨sb, off + j * 7 + 6, none⟩ = some (.bool near) := fun ob => (HS.out _ (hkr.trans (Kp.one wr ob))).2.2.2.2.2.2
      go_upto_if 42 with fail
      go_cut [] (fun wx => TX wr wr.heap.size wx)
      case first =>
        have hX := Bk.new wr 31 [.int .i64 fk, .int .u32 fa, .int .u32 fb, .string ft]
        have hKX := Kp.one wr (.cells #[.int .i64 fk, .int .u32 fa, .int .u32 fb, .string ft] 31)
        rcases near with _ | _
        · go_wp2_with fail
          go_meet
          exact ⟨fk, fa, fb, ft, o4, o5, o6, hX, hKX⟩
        · as_aux_lemma =>
            have HPK := Lib.hid (fun W => pick_any fk 4 (by omega) (by omega) o3.1 o3.2 W)
            have hkd : 0 ≤ fk % 4 ∧ fk % 4 ≤ 3 := by omega
            generalize fk % 4 = z4 at *
            have q6 : IntKind.i64.wrap (1 + z4) = 1 + z4 := IntWalk.i64_in _ (by omega)
            obtain ⟨n0, n1, n2, n3⟩ := (show _ ∧ _ ∧ _ ∧ _ from hX.c4g)
            have fX := hX.free 0
            go_wp2_with fail
            refine (HPK.out _).mono ?_
            rintro e w5 ⟨rfl, rfl⟩
            go_upto_region 11 with fail
            have hX5 : Bk (wr.alloc (.cells #[.int .i64 (1 + z4), .int .u32 fa, .int .u32 fb, .string ft] 31)) wr.heap.size 31 [.int .i64 (1 + z4), .int .u32 fa, .int .u32 fb, .string ft] := Bk.new wr 31 [.int .i64 (1 + z4), .int .u32 fa, .int .u32 fb, .string ft]
            have hK5 := Kp.one wr (.cells #[.int .i64 (1 + z4), .int .u32 fa, .int .u32 fb, .string ft] 31)
            clear hX hKX n0 n1 n2 n3 fX z6
            generalize 1 + z4 = kd at *
            generalize wr.alloc (.cells #[.int .i64 kd, .int .u32 fa, .int .u32 fb, .string ft] 31) = w5 at *
            have HX8 := Lib.hid (fun W' (kk : Kp w5 W') => (show _ ∧ _ ∧ _ ∧ _ from (hX5.keep kk).c4g))
            have HC8 := Lib.hid (fun W' (kk : Kp w5 W') => (show _ ∧ _ ∧ _ from HC.out W' ((hkr.trans hK5).trans kk)))
            obtain ⟨N, hN⟩ : ∃ N : Nat, P - 15 = (N : Int) := ⟨(P - 15).toNat, by omega⟩
            have HRN := HRM
            rw [hN] at HRN
            have HSH := Lib.hid (fun W => short_any ft N o6 (by omega) W)
            have hst : (ft.extract 0 N).size ≤ 9223372036854775807 := by rw [ByteArray.size_extract]; omega
            generalize ft.extract 0 N = st at *
            have hInh := fun (x v : Value) => (⟨fun h => h _ ((Kp.refl _).drew), fun h _ _ => h⟩ : (∀ Wz9, (fun W' => Kp w5 W') Wz9 → x = v) ↔ x = v)
            dsimp only at hInh
            refine wp_region_head 6 (C := fun W' => Kp w5 W') (by kernel_rfl) (by kernel_rfl) ((Kp.refl _).drew) ?_
            simp only [List.take_succ_cons, List.take_zero, List.drop_succ_cons, List.drop_zero]
            repeat (first | go_big_quiet_step ((intro hW; first | (first | (go_at_call 9; refine (HRN.out _).mono ?_; rintro e w' ⟨rfl, rfl⟩; exact ⟨rfl, hW.trans (Kp.one _ _)⟩) | (go_at_call 8; refine (HSH.out _).mono ?_; rintro e w' ⟨rfl, rfl⟩; exact ⟨rfl, hW⟩)) | (with_reducible rfl) | (obtain ⟨c0, c1, c2⟩ := HC8.out _ hW; obtain ⟨n0, n1, n2, n3⟩ := HX8.out _ hW; (try go_simp); first | done | with_reducible rfl | exact ⟨rfl, rfl⟩))) | quiet_step ((intro hW; first | (first | (go_at_call 9; refine (HRN.out _).mono ?_; rintro e w' ⟨rfl, rfl⟩; exact ⟨rfl, hW.trans (Kp.one _ _)⟩) | (go_at_call 8; refine (HSH.out _).mono ?_; rintro e w' ⟨rfl, rfl⟩; exact ⟨rfl, hW⟩)) | (with_reducible rfl) | (obtain ⟨c0, c1, c2⟩ := HC8.out _ hW; obtain ⟨n0, n1, n2, n3⟩ := HX8.out _ hW; (try go_simp); first | done | with_reducible rfl | exact ⟨rfl, rfl⟩))))
            refine wpQuiet_nil ?_
            intro wq hwq
            clear hInh
            have hXq := hX5.keep hwq
            have f3 := hXq.free 3
            obtain ⟨n0, n1, n2, n3⟩ := (show _ ∧ _ ∧ _ ∧ _ from hXq.c4g)
            have hX9 : Bk (wq.setCell ⟨wr.heap.size, 3, none⟩ (.string st)) wr.heap.size 31 [.int .i64 kd, .int .u32 fa, .int .u32 fb, .string st] := hXq.put 3 (.string st)
            have hK9 := (hK5.trans hwq).set (p := ⟨wr.heap.size, 3, none⟩) (Nat.le_refl _) (.string st)
            go_wp2_with fail
            go_meet
            exact ⟨kd, fa, fb, st, o4, o5, hst, hX9, hK9⟩
      case rest =>
        obtain ⟨kd, ga, gb, bd, g1, g2, g3, hXc, hKc⟩ := hcut
        clear z6 s0 s1 s2 s3 s4 s5 s6
        have HPW := Lib.hid (fun W => pick_any xw 10 (by omega) (by omega) o1.1 o1.2 W)
        have hz : 0 ≤ xw % 10 ∧ xw % 10 ≤ 9 := by omega
        generalize xw % 10 = z at *
        obtain ⟨s0, s1, s2, s3, s4, s5, s6⟩ := HS.out _ (hkr.trans hKc)
        go_wp2_with fail
        refine (HPW.out _).mono ?_
        rintro e w6 ⟨rfl, rfl⟩
        go_upto_block 2 with fail
        go_cut [8, 9, 10, 11] (fun ev dv av bv wx => TS w2 pb tb g ib ic h q rb a ab ac b be bu P S n ev dv av bv wx)
        case first =>
          have TC := Lib.hid (HT.out.keep hKc)
          have hkc := hkr.trans hKc
          have hcase : z = 6 ∨ z = 7 ∨ z = 8 ∨ z = 9 ∨ ((z == 6) = false ∧ (z == 7) = false ∧ (z == 8) = false ∧ (z == 9) = false) := by
            by_cases h6 : z = 6
            · exact Or.inl h6
            · by_cases h7 : z = 7
              · exact Or.inr (Or.inl h7)
              · by_cases h8 : z = 8
                · exact Or.inr (Or.inr (Or.inl h8))
                · by_cases h9 : z = 9
                  · exact Or.inr (Or.inr (Or.inr (Or.inl h9)))
                  · exact Or.inr (Or.inr (Or.inr (Or.inr ⟨by simp [h6], by simp [h7], by simp [h8], by simp [h9]⟩)))
          rcases hcase with rfl | rfl | rfl | rfl | ⟨z6, z7, z8, z9⟩
          · -- Flush
            as_aux_lemma =>
              obtain ⟨d3, cc, hF⟩ : ∃ d3 cc, flushD P d = (d3, cc) := ⟨_, _, rfl⟩
              obtain ⟨l3, hl3⟩ : ∃ l3, l3 = l := ⟨_, rfl⟩
              have HB1 : Hid (∀ W, TPe w2 pb tb g ib ic h q rb a ab ac b be bu P S d d l l o o W → Calls Tryz.prog 10 #[.pointer (some ⟨tb, 0, none⟩)] W fun e w' => e = .returned (.int .i64 cc) ∧ TPe w2 pb tb g ib ic h q rb a ab ac b be bu P S d3 d l3 l o o w') := Lib.hid (fun W tt => by subst hl3; exact tt.callP0 (fun X W v t => by have := tflush t; rw [hF] at this; exact this))
              have HB2 : Hid (∀ W, TPe w2 pb tb g ib ic h q rb a ab ac b be bu P S d3 d l3 l o o W → Calls Tryz.prog 11 #[.pointer (some ⟨a, 0, none⟩)] W fun e w' => e = .returned (.int .i64 cc) ∧ TPe w2 pb tb g ib ic h q rb a ab ac b be bu P S d3 d3 l3 l3 o o w') := Lib.hid (fun W tt => by subst hl3; exact tt.callR (fun v2 rr => by have := rt_flush rr; unfold RdPost at this; rw [hF] at this; exact this))
              have ND3 : Hid (NdD d3) := Lib.hid (by have := nd_flush (p := P) HND.out; rw [hF] at this; exact this)
              have HL3 : Hid (l3.length = n) := Lib.hid (by rw [hl3]; exact HLN.out)
              have HDD : Hid (∀ k W, StT (TPe w2 pb tb g ib ic h q rb a ab ac b be bu P S d d l l o o) (TPe w2 pb tb g ib ic h q rb a ab ac b be bu P S d3 d l3 l o o) (TPe w2 pb tb g ib ic h q rb a ab ac b be bu P S d3 d3 l3 l3 o o) k W → _) := Lib.hid (fun k W hs => hs.any (fun W tt => tt.pc) (fun W tt => tt.pc) (fun W tt => tt.pc))
              clear hF hl3
              go_wp2_with fail

              refine wp_region_rel5 (R1 := Kp) (C := StT (TPe w2 pb tb g ib ic h q rb a ab ac b be bu P S d d l l o o) (TPe w2 pb tb g ib ic h q rb a ab ac b be bu P S d3 d l3 l o o) (TPe w2 pb tb g ib ic h q rb a ab ac b be bu P S d3 d3 l3 l3 o o)) 13 4 12 rfl (by kernel_rfl) (StT.at0 (TC.out.keep (Kp.refl _).drew)) (StT.keep (fun _ _ => TPe.keep) (fun _ _ => TPe.keep) (fun _ _ => TPe.keep)) Kp.refl (fun _ _ _ h k => h.trans k) ?_
              simp only [List.take_succ_cons, List.take_zero, List.drop_succ_cons, List.drop_zero]
              repeat (refine wpRel5_step 2 (by kernel_rfl) (by simp) (by simp) (fun K hK => ?_); apply rel5_eq; (case ob => (intro f b W hb0 hW hd; (obtain ⟨p0, p1, p2, p3, p4, p5⟩ := HDD.out _ _ hW); (try simp [deps, factOf, Region.binds, at5] at hd); unfold relOp; go_simp; (first | exact ⟨Kp.refl _, rfl⟩ | exact Kp.refl _ | (refine ⟨Kp.refl _, ?_⟩; fail)))); go_simp; refine hK _ _ ?_; clear hK K)
              refine wpRel5_move1c rfl (by decide) rfl (.int .i64 cc) ?ob (fun K hK => ?_)
              case ob =>
                intro f W' hW hd
                (try simp [deps, factOf, Region.binds, at5] at hd)
                have HW2 := Lib.hid (hW.1 rfl)
                unfold mvOp5
                go_simp
                (refine (HB1.out _ HW2.out).mono ?_; rintro e w4 ⟨rfl, hx⟩; exact ⟨rfl, StT.at1 hx⟩)
              go_simp
              refine hK _ _ ?_
              clear hK K
              repeat (refine wpRel5_step 2 (by kernel_rfl) (by simp) (by simp) (fun K hK => ?_); apply rel5_eq; (case ob => (intro f b W hb0 hW hd; (obtain ⟨p0, p1, p2, p3, p4, p5⟩ := HDD.out _ _ hW); (try simp [deps, factOf, Region.binds, at5] at hd); unfold relOp; go_simp; (first | exact ⟨Kp.refl _, rfl⟩ | exact Kp.refl _ | (refine ⟨Kp.refl _, ?_⟩; fail)))); go_simp; refine hK _ _ ?_; clear hK K)
              refine wpRel5_move2c rfl (by decide) rfl (.int .i64 cc) ?ob (fun K hK => ?_)
              case ob =>
                intro f W' hW hd
                (try simp [deps, factOf, Region.binds, at5] at hd)
                have HW2 := Lib.hid (hW.2.1 rfl)
                unfold mvOp5
                go_simp
                (refine (HB2.out _ HW2.out).mono ?_; rintro e w4 ⟨rfl, hx⟩; exact ⟨rfl, StT.at2 hx⟩)
              go_simp
              refine hK _ _ ?_
              clear hK K
              refine wpRel5_nil ?_
              intro f W' hW hall
              have h1 : f 4 = .int .i64 cc := allF_get hall 4 _ rfl
              have h2 : f 12 = .int .i64 cc := allF_get hall 12 _ rfl
              clear hall
              dsimp only
              rw [h1, h2]
              have TF := Lib.hid (hW.2.2 (Nat.le_refl 2))
              clear hW h1 h2
              go_wp2_with fail
              go_meet
              exact ⟨cc, 0, d3, l3, o, rfl, rfl, rfl, rfl, TF.out, ND3.out, HL3.out⟩
          · -- Flush
            as_aux_lemma =>
              obtain ⟨d3, cc, hF⟩ : ∃ d3 cc, flushD P d = (d3, cc) := ⟨_, _, rfl⟩
              obtain ⟨l3, hl3⟩ : ∃ l3, l3 = l := ⟨_, rfl⟩
              have HB1 : Hid (∀ W, TPe w2 pb tb g ib ic h q rb a ab ac b be bu P S d d l l o o W → Calls Tryz.prog 10 #[.pointer (some ⟨tb, 0, none⟩)] W fun e w' => e = .returned (.int .i64 cc) ∧ TPe w2 pb tb g ib ic h q rb a ab ac b be bu P S d3 d l3 l o o w') := Lib.hid (fun W tt => by subst hl3; exact tt.callP0 (fun X W v t => by have := tflush t; rw [hF] at this; exact this))
              have HB2 : Hid (∀ W, TPe w2 pb tb g ib ic h q rb a ab ac b be bu P S d3 d l3 l o o W → Calls Tryz.prog 11 #[.pointer (some ⟨a, 0, none⟩)] W fun e w' => e = .returned (.int .i64 cc) ∧ TPe w2 pb tb g ib ic h q rb a ab ac b be bu P S d3 d3 l3 l3 o o w') := Lib.hid (fun W tt => by subst hl3; exact tt.callR (fun v2 rr => by have := rt_flush rr; unfold RdPost at this; rw [hF] at this; exact this))
              have ND3 : Hid (NdD d3) := Lib.hid (by have := nd_flush (p := P) HND.out; rw [hF] at this; exact this)
              have HL3 : Hid (l3.length = n) := Lib.hid (by rw [hl3]; exact HLN.out)
              have HDD : Hid (∀ k W, StT (TPe w2 pb tb g ib ic h q rb a ab ac b be bu P S d d l l o o) (TPe w2 pb tb g ib ic h q rb a ab ac b be bu P S d3 d l3 l o o) (TPe w2 pb tb g ib ic h q rb a ab ac b be bu P S d3 d3 l3 l3 o o) k W → _) := Lib.hid (fun k W hs => hs.any (fun W tt => tt.pc) (fun W tt => tt.pc) (fun W tt => tt.pc))
              clear hF hl3
              go_wp2_with fail

              refine wp_region_rel5 (R1 := Kp) (C := StT (TPe w2 pb tb g ib ic h q rb a ab ac b be bu P S d d l l o o) (TPe w2 pb tb g ib ic h q rb a ab ac b be bu P S d3 d l3 l o o) (TPe w2 pb tb g ib ic h q rb a ab ac b be bu P S d3 d3 l3 l3 o o)) 13 4 12 rfl (by kernel_rfl) (StT.at0 (TC.out.keep (Kp.refl _).drew)) (StT.keep (fun _ _ => TPe.keep) (fun _ _ => TPe.keep) (fun _ _ => TPe.keep)) Kp.refl (fun _ _ _ h k => h.trans k) ?_
              simp only [List.take_succ_cons, List.take_zero, List.drop_succ_cons, List.drop_zero]
              repeat (refine wpRel5_step 2 (by kernel_rfl) (by simp) (by simp) (fun K hK => ?_); apply rel5_eq; (case ob => (intro f b W hb0 hW hd; (obtain ⟨p0, p1, p2, p3, p4, p5⟩ := HDD.out _ _ hW); (try simp [deps, factOf, Region.binds, at5] at hd); unfold relOp; go_simp; (first | exact ⟨Kp.refl _, rfl⟩ | exact Kp.refl _ | (refine ⟨Kp.refl _, ?_⟩; fail)))); go_simp; refine hK _ _ ?_; clear hK K)
              refine wpRel5_move1c rfl (by decide) rfl (.int .i64 cc) ?ob (fun K hK => ?_)
              case ob =>
                intro f W' hW hd
                (try simp [deps, factOf, Region.binds, at5] at hd)
                have HW2 := Lib.hid (hW.1 rfl)
                unfold mvOp5
                go_simp
                (refine (HB1.out _ HW2.out).mono ?_; rintro e w4 ⟨rfl, hx⟩; exact ⟨rfl, StT.at1 hx⟩)
              go_simp
              refine hK _ _ ?_
              clear hK K
              repeat (refine wpRel5_step 2 (by kernel_rfl) (by simp) (by simp) (fun K hK => ?_); apply rel5_eq; (case ob => (intro f b W hb0 hW hd; (obtain ⟨p0, p1, p2, p3, p4, p5⟩ := HDD.out _ _ hW); (try simp [deps, factOf, Region.binds, at5] at hd); unfold relOp; go_simp; (first | exact ⟨Kp.refl _, rfl⟩ | exact Kp.refl _ | (refine ⟨Kp.refl _, ?_⟩; fail)))); go_simp; refine hK _ _ ?_; clear hK K)
              refine wpRel5_move2c rfl (by decide) rfl (.int .i64 cc) ?ob (fun K hK => ?_)
              case ob =>
                intro f W' hW hd
                (try simp [deps, factOf, Region.binds, at5] at hd)
                have HW2 := Lib.hid (hW.2.1 rfl)
                unfold mvOp5
                go_simp
                (refine (HB2.out _ HW2.out).mono ?_; rintro e w4 ⟨rfl, hx⟩; exact ⟨rfl, StT.at2 hx⟩)
              go_simp
              refine hK _ _ ?_
              clear hK K
              refine wpRel5_nil ?_
              intro f W' hW hall
              have h1 : f 4 = .int .i64 cc := allF_get hall 4 _ rfl
              have h2 : f 12 = .int .i64 cc := allF_get hall 12 _ rfl
              clear hall
              dsimp only
              rw [h1, h2]
              have TF := Lib.hid (hW.2.2 (Nat.le_refl 2))
              clear hW h1 h2
              go_wp2_with fail
              go_meet
              exact ⟨cc, 0, d3, l3, o, rfl, rfl, rfl, rfl, TF.out, ND3.out, HL3.out⟩
          · -- Erase
            as_aux_lemma =>
              have HCc := HC.out _ hkc
              obtain ⟨c0, c1, c2⟩ := (show _ ∧ _ ∧ _ from HCc)
              rcases near with _ | _
              · obtain ⟨kk, hkk⟩ : ∃ kk, kk = xa := ⟨_, rfl⟩
                subst hkk
                obtain ⟨cc, d3, l3, nd3, hl3, hE⟩ : ∃ c d2 l2, NdD d2 ∧ l2.length = l.length ∧ EraB P S d l o kk c d2 l2 := by
                  obtain ⟨va, vb, tt⟩ := HT.out
                  exact era_both tt.tp.cok tt.tp.fl.ok HND.out kk
                have HB1 : Hid (∀ W, TPe w2 pb tb g ib ic h q rb a ab ac b be bu P S d d l l o o W → Calls Tryz.prog 12 #[.pointer (some ⟨tb, 0, none⟩), .int .i64 kk] W fun e w' => e = .returned (.int .i64 cc) ∧ TPe w2 pb tb g ib ic h q rb a ab ac b be bu P S d3 d l3 l o o w') := Lib.hid (fun W tt => tt.callP0 (fun X W v t => hE.1 X w2 W tb g ib ic h q v t))
                have HB2 : Hid (∀ W, TPe w2 pb tb g ib ic h q rb a ab ac b be bu P S d3 d l3 l o o W → Calls Tryz.prog 13 #[.pointer (some ⟨rb, 0, none⟩), .int .i64 kk] W fun e w' => e = .returned (.int .i64 cc) ∧ TPe w2 pb tb g ib ic h q rb a ab ac b be bu P S d3 d3 l3 l3 o o w') := Lib.hid (fun W tt => tt.callR (fun v2 rr => hE.2 w2 W rb a ab ac b be bu v2 rr))
                have ND3 := Lib.hid nd3
                have HL3 : Hid (l3.length = n) := Lib.hid (by rw [hl3]; exact HLN.out)
                have HDD : Hid (∀ k W, StT (TPe w2 pb tb g ib ic h q rb a ab ac b be bu P S d d l l o o) (TPe w2 pb tb g ib ic h q rb a ab ac b be bu P S d3 d l3 l o o) (TPe w2 pb tb g ib ic h q rb a ab ac b be bu P S d3 d3 l3 l3 o o) k W → _) := Lib.hid (fun k W hs => hs.any (fun W tt => tt.pc) (fun W tt => tt.pc) (fun W tt => tt.pc))
                clear nd3 hl3 hE
                go_wp2_with fail

                refine wp_region_rel5 (R1 := Kp) (C := StT (TPe w2 pb tb g ib ic h q rb a ab ac b be bu P S d d l l o o) (TPe w2 pb tb g ib ic h q rb a ab ac b be bu P S d3 d l3 l o o) (TPe w2 pb tb g ib ic h q rb a ab ac b be bu P S d3 d3 l3 l3 o o)) 12 5 11 rfl (by kernel_rfl) (StT.at0 (TC.out.keep (Kp.refl _).drew)) (StT.keep (fun _ _ => TPe.keep) (fun _ _ => TPe.keep) (fun _ _ => TPe.keep)) Kp.refl (fun _ _ _ h k => h.trans k) ?_
                simp only [List.take_succ_cons, List.take_zero, List.drop_succ_cons, List.drop_zero]
                repeat (refine wpRel5_step 2 (by kernel_rfl) (by simp) (by simp) (fun K hK => ?_); apply rel5_eq; (case ob => (intro f b W hb0 hW hd; (obtain ⟨p0, p1, p2, p3, p4, p5⟩ := HDD.out _ _ hW); (try simp [deps, factOf, Region.binds, at5] at hd); unfold relOp; go_simp; (first | exact ⟨Kp.refl _, rfl⟩ | exact Kp.refl _ | (refine ⟨Kp.refl _, ?_⟩; fail)))); go_simp; refine hK _ _ ?_; clear hK K)
                refine wpRel5_move1c rfl (by decide) rfl (.int .i64 cc) ?ob (fun K hK => ?_)
                case ob =>
                  intro f W' hW hd
                  (try simp [deps, factOf, Region.binds, at5] at hd)
                  have HW2 := Lib.hid (hW.1 rfl)
                  unfold mvOp5
                  go_simp
                  (refine (HB1.out _ HW2.out).mono ?_; rintro e w4 ⟨rfl, hx⟩; exact ⟨rfl, StT.at1 hx⟩)
                go_simp
                refine hK _ _ ?_
                clear hK K
                repeat (refine wpRel5_step 2 (by kernel_rfl) (by simp) (by simp) (fun K hK => ?_); apply rel5_eq; (case ob => (intro f b W hb0 hW hd; (obtain ⟨p0, p1, p2, p3, p4, p5⟩ := HDD.out _ _ hW); (try simp [deps, factOf, Region.binds, at5] at hd); unfold relOp; go_simp; (first | exact ⟨Kp.refl _, rfl⟩ | exact Kp.refl _ | (refine ⟨Kp.refl _, ?_⟩; fail)))); go_simp; refine hK _ _ ?_; clear hK K)
                refine wpRel5_move2c rfl (by decide) rfl (.int .i64 cc) ?ob (fun K hK => ?_)
                case ob =>
                  intro f W' hW hd
                  (try simp [deps, factOf, Region.binds, at5] at hd)
                  have HW2 := Lib.hid (hW.2.1 rfl)
                  unfold mvOp5
                  go_simp
                  (refine (HB2.out _ HW2.out).mono ?_; rintro e w4 ⟨rfl, hx⟩; exact ⟨rfl, StT.at2 hx⟩)
                go_simp
                refine hK _ _ ?_
                clear hK K
                refine wpRel5_nil ?_
                intro f W' hW hall
                have h1 : f 5 = .int .i64 cc := allF_get hall 5 _ rfl
                have h2 : f 11 = .int .i64 cc := allF_get hall 11 _ rfl
                clear hall
                dsimp only
                rw [h1, h2]
                have TF := Lib.hid (hW.2.2 (Nat.le_refl 2))
                clear hW h1 h2
                go_wp2_with fail
                go_meet
                exact ⟨cc, 0, d3, l3, o, rfl, rfl, rfl, rfl, TF.out, ND3.out, HL3.out⟩
              · have HPN := Lib.hid (fun W => pick_any xa (n : Int) (by omega) (by omega) o2.1 o2.2 W)
                generalize xa % (n : Int) = kk at *
                go_wp2_with fail
                refine (HPN.out _).mono ?_
                rintro e wz ⟨rfl, rfl⟩
                obtain ⟨cc, d3, l3, nd3, hl3, hE⟩ : ∃ c d2 l2, NdD d2 ∧ l2.length = l.length ∧ EraB P S d l o kk c d2 l2 := by
                  obtain ⟨va, vb, tt⟩ := HT.out
                  exact era_both tt.tp.cok tt.tp.fl.ok HND.out kk
                have HB1 : Hid (∀ W, TPe w2 pb tb g ib ic h q rb a ab ac b be bu P S d d l l o o W → Calls Tryz.prog 12 #[.pointer (some ⟨tb, 0, none⟩), .int .i64 kk] W fun e w' => e = .returned (.int .i64 cc) ∧ TPe w2 pb tb g ib ic h q rb a ab ac b be bu P S d3 d l3 l o o w') := Lib.hid (fun W tt => tt.callP0 (fun X W v t => hE.1 X w2 W tb g ib ic h q v t))
                have HB2 : Hid (∀ W, TPe w2 pb tb g ib ic h q rb a ab ac b be bu P S d3 d l3 l o o W → Calls Tryz.prog 13 #[.pointer (some ⟨rb, 0, none⟩), .int .i64 kk] W fun e w' => e = .returned (.int .i64 cc) ∧ TPe w2 pb tb g ib ic h q rb a ab ac b be bu P S d3 d3 l3 l3 o o w') := Lib.hid (fun W tt => tt.callR (fun v2 rr => hE.2 w2 W rb a ab ac b be bu v2 rr))
                have ND3 := Lib.hid nd3
                have HL3 : Hid (l3.length = n) := Lib.hid (by rw [hl3]; exact HLN.out)
                have HDD : Hid (∀ k W, StT (TPe w2 pb tb g ib ic h q rb a ab ac b be bu P S d d l l o o) (TPe w2 pb tb g ib ic h q rb a ab ac b be bu P S d3 d l3 l o o) (TPe w2 pb tb g ib ic h q rb a ab ac b be bu P S d3 d3 l3 l3 o o) k W → _) := Lib.hid (fun k W hs => hs.any (fun W tt => tt.pc) (fun W tt => tt.pc) (fun W tt => tt.pc))
                clear nd3 hl3 hE
                go_wp2_with fail

                refine wp_region_rel5 (R1 := Kp) (C := StT (TPe w2 pb tb g ib ic h q rb a ab ac b be bu P S d d l l o o) (TPe w2 pb tb g ib ic h q rb a ab ac b be bu P S d3 d l3 l o o) (TPe w2 pb tb g ib ic h q rb a ab ac b be bu P S d3 d3 l3 l3 o o)) 12 5 11 rfl (by kernel_rfl) (StT.at0 (TC.out.keep (Kp.refl _).drew)) (StT.keep (fun _ _ => TPe.keep) (fun _ _ => TPe.keep) (fun _ _ => TPe.keep)) Kp.refl (fun _ _ _ h k => h.trans k) ?_
                simp only [List.take_succ_cons, List.take_zero, List.drop_succ_cons, List.drop_zero]
                repeat (refine wpRel5_step 2 (by kernel_rfl) (by simp) (by simp) (fun K hK => ?_); apply rel5_eq; (case ob => (intro f b W hb0 hW hd; (obtain ⟨p0, p1, p2, p3, p4, p5⟩ := HDD.out _ _ hW); (try simp [deps, factOf, Region.binds, at5] at hd); unfold relOp; go_simp; (first | exact ⟨Kp.refl _, rfl⟩ | exact Kp.refl _ | (refine ⟨Kp.refl _, ?_⟩; fail)))); go_simp; refine hK _ _ ?_; clear hK K)
                refine wpRel5_move1c rfl (by decide) rfl (.int .i64 cc) ?ob (fun K hK => ?_)
                case ob =>
                  intro f W' hW hd
                  (try simp [deps, factOf, Region.binds, at5] at hd)
                  have HW2 := Lib.hid (hW.1 rfl)
                  unfold mvOp5
                  go_simp
                  (refine (HB1.out _ HW2.out).mono ?_; rintro e w4 ⟨rfl, hx⟩; exact ⟨rfl, StT.at1 hx⟩)
                go_simp
                refine hK _ _ ?_
                clear hK K
                repeat (refine wpRel5_step 2 (by kernel_rfl) (by simp) (by simp) (fun K hK => ?_); apply rel5_eq; (case ob => (intro f b W hb0 hW hd; (obtain ⟨p0, p1, p2, p3, p4, p5⟩ := HDD.out _ _ hW); (try simp [deps, factOf, Region.binds, at5] at hd); unfold relOp; go_simp; (first | exact ⟨Kp.refl _, rfl⟩ | exact Kp.refl _ | (refine ⟨Kp.refl _, ?_⟩; fail)))); go_simp; refine hK _ _ ?_; clear hK K)
                refine wpRel5_move2c rfl (by decide) rfl (.int .i64 cc) ?ob (fun K hK => ?_)
                case ob =>
                  intro f W' hW hd
                  (try simp [deps, factOf, Region.binds, at5] at hd)
                  have HW2 := Lib.hid (hW.2.1 rfl)
                  unfold mvOp5
                  go_simp
                  (refine (HB2.out _ HW2.out).mono ?_; rintro e w4 ⟨rfl, hx⟩; exact ⟨rfl, StT.at2 hx⟩)
                go_simp
                refine hK _ _ ?_
                clear hK K
                refine wpRel5_nil ?_
                intro f W' hW hall
                have h1 : f 5 = .int .i64 cc := allF_get hall 5 _ rfl
                have h2 : f 11 = .int .i64 cc := allF_get hall 11 _ rfl
                clear hall
                dsimp only
                rw [h1, h2]
                have TF := Lib.hid (hW.2.2 (Nat.le_refl 2))
                clear hW h1 h2
                go_wp2_with fail
                go_meet
                exact ⟨cc, 0, d3, l3, o, rfl, rfl, rfl, rfl, TF.out, ND3.out, HL3.out⟩
          · -- Fuse
            as_aux_lemma =>
              have HPN := Lib.hid (fun W => pick_any xa 30 (by omega) (by omega) o2.1 o2.2 W)
              have h30 : 0 ≤ xa % 30 ∧ xa % 30 ≤ 29 := by omega
              generalize xa % 30 = fz at *
              obtain ⟨d3, hF⟩ : ∃ d3, d3 = fuseD d fz := ⟨_, rfl⟩
              have HB1 : Hid (∀ W, TPe w2 pb tb g ib ic h q rb a ab ac b be bu P S d d l l o o W → Calls Tryz.prog 14 #[.pointer (some ⟨g, 0, none⟩), .int .i64 fz] W fun e w' => e = .returned (.tuple #[]) ∧ TPe w2 pb tb g ib ic h q rb a ab ac b be bu P S d3 d l l o o w') := Lib.hid (fun W tt => by subst hF; exact tt.callP0 (fun X W v t => (ffuse t.fl.at_ fz).mono fun e w' ⟨h1, h2, h3⟩ => ⟨h1, v, t.stepF h2 h3 (fuseD_ok t.fl.ok fz (by omega))⟩))
              have HB2 : Hid (∀ W, TPe w2 pb tb g ib ic h q rb a ab ac b be bu P S d3 d l l o o W → Calls Tryz.prog 15 #[.pointer (some ⟨a, 0, none⟩), .int .i64 fz] W fun e w' => e = .returned (.tuple #[]) ∧ TPe w2 pb tb g ib ic h q rb a ab ac b be bu P S d3 d3 l l o o w') := Lib.hid (fun W tt => by subst hF; exact tt.callR (fun v2 rr => (rt_fuse rr fz (by omega)).mono fun e w' ⟨h1, h2, h3⟩ => ⟨h1, v2, h2, h3⟩))
              have ND3 : Hid (NdD d3) := Lib.hid (by rw [hF]; exact nd_of_row rfl HND.out)
              have HD1 : Hid (∀ k W, StD (TPe w2 pb tb g ib ic h q rb a ab ac b be bu P S d d l l o o) (TPe w2 pb tb g ib ic h q rb a ab ac b be bu P S d3 d l l o o) k W → _ ∧ _) := Lib.hid (fun k W hs => hs.any (fun W tt => And.intro tt.pc (HS.out _ tt.kp)) (fun W tt => And.intro tt.pc (HS.out _ tt.kp)))
              have HD2 : Hid (∀ k W, StD (TPe w2 pb tb g ib ic h q rb a ab ac b be bu P S d3 d l l o o) (TPe w2 pb tb g ib ic h q rb a ab ac b be bu P S d3 d3 l l o o) k W → _ ∧ _) := Lib.hid (fun k W hs => hs.any (fun W tt => And.intro tt.pc (HS.out _ tt.kp)) (fun W tt => And.intro tt.pc (HS.out _ tt.kp)))
              clear hF h30 s0 s1 s2 s3 s4 s5 s6
              go_wp2_with fail
              refine wp_region_rel3A (R1 := Kp) (C := StD (TPe w2 pb tb g ib ic h q rb a ab ac b be bu P S d d l l o o) (TPe w2 pb tb g ib ic h q rb a ab ac b be bu P S d3 d l l o o)) 10 (by kernel_rfl) (by kernel_rfl) (StD.at0 (TC.out.keep (Kp.refl _).drew)) (StD.keep (fun _ _ => TPe.keep) (fun _ _ => TPe.keep)) Kp.refl (fun _ _ _ h k => h.trans k) ?_
              repeat (refine wpRel3_step (by simp) (fun K hK => ?_); apply rel3_eq; (case ob => (intro f b W hW hd; (obtain ⟨⟨p0, p1, p2, p3, p4, p5⟩, s0, s1, s2, s3, s4, s5, s6⟩ := HD1.out _ _ hW); (try simp [deps, factOf, Region.binds] at hd); unfold relOp; go_simp; (first | exact ⟨Kp.refl _, rfl⟩ | exact Kp.refl _ | (refine ⟨Kp.refl _, ?_⟩; (go_at_call 7; refine (HPN.out _).mono ?_; rintro e w' ⟨rfl, rfl⟩; exact ⟨rfl, Kp.refl _⟩))))); go_simp; refine hK _ _ ?_; clear hK K)
              refine wpRel3_move rfl rfl (.tuple #[]) ?ob (fun K hK => ?_)
              case ob =>
                intro f W hW hd
                have HW2 := Lib.hid (hW.1 rfl)
                (try simp [deps, factOf, Region.binds] at hd)
                unfold mvOp
                go_simp
                (refine (HB1.out _ HW2.out).mono ?_; rintro e w4 ⟨rfl, hx⟩; exact ⟨rfl, StD.at1 hx⟩)
              go_simp
              refine hK _ _ ?_
              clear hK K
              refine wpRel3_nil ?_
              intro f W' hW hall
              clear hall
              dsimp only
              have T6 := Lib.hid (hW.2 rfl)
              clear hW
              go_wp2_with fail
              refine wp_region_rel3A (R1 := Kp) (C := StD (TPe w2 pb tb g ib ic h q rb a ab ac b be bu P S d3 d l l o o) (TPe w2 pb tb g ib ic h q rb a ab ac b be bu P S d3 d3 l l o o)) 13 (by kernel_rfl) (by kernel_rfl) (StD.at0 (T6.out.keep (Kp.refl _).drew)) (StD.keep (fun _ _ => TPe.keep) (fun _ _ => TPe.keep)) Kp.refl (fun _ _ _ h k => h.trans k) ?_
              repeat (refine wpRel3_step (by simp) (fun K hK => ?_); apply rel3_eq; (case ob => (intro f b W hW hd; (obtain ⟨⟨p0, p1, p2, p3, p4, p5⟩, s0, s1, s2, s3, s4, s5, s6⟩ := HD2.out _ _ hW); (try simp [deps, factOf, Region.binds] at hd); unfold relOp; go_simp; (first | exact ⟨Kp.refl _, rfl⟩ | exact Kp.refl _ | (refine ⟨Kp.refl _, ?_⟩; (go_at_call 7; refine (HPN.out _).mono ?_; rintro e w' ⟨rfl, rfl⟩; exact ⟨rfl, Kp.refl _⟩))))); go_simp; refine hK _ _ ?_; clear hK K)
              refine wpRel3_move rfl rfl (.tuple #[]) ?ob (fun K hK => ?_)
              case ob =>
                intro f W hW hd
                have HW2 := Lib.hid (hW.1 rfl)
                (try simp [deps, factOf, Region.binds] at hd)
                unfold mvOp
                go_simp
                (refine (HB2.out _ HW2.out).mono ?_; rintro e w4 ⟨rfl, hx⟩; exact ⟨rfl, StD.at1 hx⟩)
              go_simp
              refine hK _ _ ?_
              clear hK K
              refine wpRel3_nil ?_
              intro f W'' hW hall
              clear hall
              dsimp only
              have T7 := Lib.hid (hW.2 rfl)
              clear hW
              go_wp2_with fail
              go_meet
              exact ⟨0, 0, d3, l, o, rfl, rfl, rfl, rfl, T7.out, ND3.out, HLN.out⟩
          · -- Append
            as_aux_lemma =>
              obtain ⟨pg, cc, d3, l3, o3, nd3, hl3, hE⟩ : ∃ page c d2 l2 o2, NdD d2 ∧ l2.length = l.length ∧ AppB P S d l o kd ga gb bd page c d2 l2 o2 := by
                obtain ⟨va, vb, tt⟩ := HT.out
                exact app_both tt.tp.cok tt.tp.fl.ok HND.out g3 g1 g2
              obtain ⟨ob, hob⟩ : ∃ ob : Obj, ob = .cells #[.int .i64 kd, .int .u32 ga, .int .u32 gb, .string bd] 31 (0, 0) := ⟨_, rfl⟩
              have hXo : wc.heap[wr.heap.size]? = some ob := by rw [hob]; exact hXc
              have HB1 : Hid (∀ W, Kp wc W → Calls Tryz.prog 16 #[.pointer (some ⟨tb, 0, none⟩), frv kd ga gb bd] W fun e w' => e = .returned (.tuple #[.int .i64 pg, .int .i64 cc]) ∧ TPb w2 pb tb g ib ic h q rb a ab ac b be bu P S d3 d l3 l o3 o wr.heap.size ob w') := Lib.hid (fun W kk => HT.out.callPb (hKc.trans kk) (Nat.le_refl _) ((Below.block kk _ (Array.getElem?_eq_some_iff.1 hXo).1).trans hXo) (fun X W v t => hE.1 X w2 W tb g ib ic h q v t))
              have HB2 : Hid (∀ W, TPb w2 pb tb g ib ic h q rb a ab ac b be bu P S d3 d l3 l o3 o wr.heap.size ob W → Calls Tryz.prog 17 #[.pointer (some ⟨rb, 0, none⟩), frv kd ga gb bd] W fun e w' => e = .returned (.tuple #[.int .i64 pg, .int .i64 cc]) ∧ (TPe w2 pb tb g ib ic h q rb a ab ac b be bu P S d3 d3 l3 l3 o3 o3 w' ∧ w'.heap[wr.heap.size]? = some ob)) := Lib.hid (fun W tt => tt.callR (fun v2 rr => hE.2 w2 W rb a ab ac b be bu v2 rr))
              have ND3 := Lib.hid nd3
              have HL3 : Hid (l3.length = n) := Lib.hid (by rw [hl3]; exact HLN.out)
              have HOB : Hid (∀ W : World, W.heap[wr.heap.size]? = some ob → W.cell? ⟨wr.heap.size, 0, none⟩ = some (.int .i64 kd) ∧ W.cell? ⟨wr.heap.size, 1, none⟩ = some (.int .u32 ga) ∧ W.cell? ⟨wr.heap.size, 2, none⟩ = some (.int .u32 gb) ∧ W.cell? ⟨wr.heap.size, 3, none⟩ = some (.string bd)) := Lib.hid (fun W hh => by
                rw [hob] at hh
                have hb : Bk W wr.heap.size 31 [.int .i64 kd, .int .u32 ga, .int .u32 gb, .string bd] := hh
                exact hb.c4g)
              have HKO : Hid (∀ W W' : World, W.heap[wr.heap.size]? = some ob → Kp W W' → W'.heap[wr.heap.size]? = some ob) := Lib.hid (fun W W' hh kk => (Below.block kk _ (Array.getElem?_eq_some_iff.1 hh).1).trans hh)
              have HKW : Hid (∀ W, Kp wc W → W.heap[wr.heap.size]? = some ob) := Lib.hid (fun W kk => HKO.out _ _ hXo kk)
              have HD1 : Hid (∀ k W, StD (fun W => Kp wc W) (TPb w2 pb tb g ib ic h q rb a ab ac b be bu P S d3 d l3 l o3 o wr.heap.size ob) k W → _ ∧ _) := Lib.hid (fun k W hs => hs.any (fun W kk => And.intro (TC.out.keep kk).pc (HOB.out _ (HKW.out _ kk))) (fun W tt => And.intro tt.e.1.pc (HOB.out _ tt.e.2)))
              have HD2 : Hid (∀ k W, StD (TPb w2 pb tb g ib ic h q rb a ab ac b be bu P S d3 d l3 l o3 o wr.heap.size ob) (fun W => TPe w2 pb tb g ib ic h q rb a ab ac b be bu P S d3 d3 l3 l3 o3 o3 W ∧ W.heap[wr.heap.size]? = some ob) k W → _ ∧ _) := Lib.hid (fun k W hs => hs.any (fun W tt => And.intro tt.e.1.pc (HOB.out _ tt.e.2)) (fun W ⟨tt, hh⟩ => And.intro tt.pc (HOB.out _ hh)))
              clear nd3 hl3 hE hob hXo s0 s1 s2 s3 s4 s5 s6
              go_wp2_with fail
              refine wp_region_rel3A (R1 := Kp) (C := StD (fun W => Kp wc W) (TPb w2 pb tb g ib ic h q rb a ab ac b be bu P S d3 d l3 l o3 o wr.heap.size ob)) 5 (by kernel_rfl) (by kernel_rfl) (StD.at0 (Kp.refl _).drew) (StD.keep (fun _ _ h k => h.trans k) (fun _ _ => TPb.keep)) Kp.refl (fun _ _ _ h k => h.trans k) ?_
              repeat (refine wpRel3_step (by simp) (fun K hK => ?_); apply rel3_eq; (case ob => (intro f b W hW hd; (obtain ⟨⟨p0, p1, p2, p3, p4, p5⟩, x0, x1, x2, x3⟩ := HD1.out _ _ hW); (try simp [deps, factOf, Region.binds] at hd); unfold relOp; go_simp; (first | exact ⟨Kp.refl _, rfl⟩ | exact Kp.refl _ | (refine ⟨Kp.refl _, ?_⟩; fail)))); go_simp; refine hK _ _ ?_; clear hK K)
              refine wpRel3_move rfl rfl (.tuple #[.int .i64 pg, .int .i64 cc]) ?ob (fun K hK => ?_)
              case ob =>
                intro f W hW hd
                have HW2 := Lib.hid (hW.1 rfl)
                (try simp [deps, factOf, Region.binds] at hd)
                unfold mvOp
                go_simp
                (refine (HB1.out _ HW2.out).mono ?_; rintro e w4 ⟨rfl, hx⟩; exact ⟨rfl, StD.at1 hx⟩)
              go_simp
              refine hK _ _ ?_
              clear hK K
              repeat (refine wpRel3_step (by simp) (fun K hK => ?_); apply rel3_eq; (case ob => (intro f b W hW hd; (skip); (try simp [deps, factOf, Region.binds] at hd); unfold relOp; go_simp; (first | exact ⟨Kp.refl _, rfl⟩ | exact Kp.refl _ | (refine ⟨Kp.refl _, ?_⟩; fail)))); go_simp; refine hK _ _ ?_; clear hK K)
              refine wpRel3_nil ?_
              intro f W' hW hall
              have h9 : f 9 = .int .i64 pg := allF_get hall 9 _ rfl
              have h10 : f 10 = .int .i64 cc := allF_get hall 10 _ rfl
              clear hall
              dsimp only
              rw [h9, h10]
              have T6 := Lib.hid (hW.2 rfl)
              clear hW h9 h10
              have x6 := HOB.out _ T6.out.e.2
              go_wp2_with fail
              refine wp_region_rel3A (R1 := Kp) (C := StD (TPb w2 pb tb g ib ic h q rb a ab ac b be bu P S d3 d l3 l o3 o wr.heap.size ob) (fun W => TPe w2 pb tb g ib ic h q rb a ab ac b be bu P S d3 d3 l3 l3 o3 o3 W ∧ W.heap[wr.heap.size]? = some ob)) 5 (by kernel_rfl) (by kernel_rfl) (StD.at0 (T6.out.keep (Kp.refl _).drew)) (StD.keep (fun _ _ => TPb.keep) (fun W W' h k => ⟨h.1.keep k, HKO.out _ _ h.2 k⟩)) Kp.refl (fun _ _ _ h k => h.trans k) ?_
              repeat (refine wpRel3_step (by simp) (fun K hK => ?_); apply rel3_eq; (case ob => (intro f b W hW hd; (obtain ⟨⟨p0, p1, p2, p3, p4, p5⟩, x0, x1, x2, x3⟩ := HD2.out _ _ hW); (try simp [deps, factOf, Region.binds] at hd); unfold relOp; go_simp; (first | exact ⟨Kp.refl _, rfl⟩ | exact Kp.refl _ | (refine ⟨Kp.refl _, ?_⟩; fail)))); go_simp; refine hK _ _ ?_; clear hK K)
              refine wpRel3_move rfl rfl (.tuple #[.int .i64 pg, .int .i64 cc]) ?ob (fun K hK => ?_)
              case ob =>
                intro f W hW hd
                have HW2 := Lib.hid (hW.1 rfl)
                (try simp [deps, factOf, Region.binds] at hd)
                unfold mvOp
                go_simp
                (refine (HB2.out _ HW2.out).mono ?_; rintro e w4 ⟨rfl, hx, hy⟩; exact ⟨rfl, StD.at1 ⟨hx, hy⟩⟩)
              go_simp
              refine hK _ _ ?_
              clear hK K
              repeat (refine wpRel3_step (by simp) (fun K hK => ?_); apply rel3_eq; (case ob => (intro f b W hW hd; (skip); (try simp [deps, factOf, Region.binds] at hd); unfold relOp; go_simp; (first | exact ⟨Kp.refl _, rfl⟩ | exact Kp.refl _ | (refine ⟨Kp.refl _, ?_⟩; fail)))); go_simp; refine hK _ _ ?_; clear hK K)
              refine wpRel3_nil ?_
              intro f W'' hW hall
              have h9 : f 9 = .int .i64 pg := allF_get hall 9 _ rfl
              have h10 : f 10 = .int .i64 cc := allF_get hall 10 _ rfl
              clear hall
              dsimp only
              rw [h9, h10]
              have T7 := Lib.hid (hW.2 rfl)
              clear hW h9 h10
              go_wp2_with fail
              go_meet
              exact ⟨cc, pg, d3, l3, o3, rfl, rfl, rfl, rfl, T7.out.1, ND3.out, HL3.out⟩
        case rest =>
          as_aux_lemma =>
            obtain ⟨cc, pg, d3, l3, o3, rfl, rfl, rfl, rfl, ht3, nd3, hl3⟩ := hcut
            have HT3 := Lib.hid ht3
            have ND3 := Lib.hid nd3
            have HL3 := Lib.hid hl3
            obtain ⟨va, vb, tt⟩ := ht3
            obtain ⟨d', f', hr'⟩ := tt.rt.fl
            obtain ⟨A2, c2', e2⟩ := own_slice f'.own
            have HFC := Lib.hid (fun W (kk : Kp wc W) => And.intro (tt.keep kk).pc (And.intro (f'.keep kk).c8.2.2.2.2.1 (f'.keep kk).c8.2.2.2.2.2.2.2))
            have HI1 := Lib.hid (fun W (kk : Kp wc W) => fimage (tt.keep kk).tp.fl.at_)
            have HI2 := Lib.hid (fun W (kk : Kp wc W) => rimage (f'.keep kk))
            have HPN := Lib.hid (fun W (kk : Kp wc W) => fpending (tt.keep kk).tp.fl.at_)
            have HDN := Lib.hid (fun W (kk : Kp wc W) => fdown (tt.keep kk).tp.fl.at_)
            have HLF := Lib.hid (fun W (kk : Kp wc W) => cleft_any W h q P S l3 o3 (tt.keep kk).tp.ch tt.tp.cok)
            have HLR := Lib.hid (fun W (kk : Kp wc W) => rleft_any W b be bu P S l3 o3 (tt.keep kk).rt.ch tt.rt.cok)
            have HRF := Lib.hid (fun W (kk : Kp wc W) => cfree_any W h q P S l3 o3 (tt.keep kk).tp.ch (by have := tt.tp.cok.len; omega) tt.tp.cok.ep0)
            have HRR := Lib.hid (fun W (kk : Kp wc W) => rfree_any W b be bu P S l3 o3 (tt.keep kk).rt.ch (by have := tt.tp.cok.len; omega))
            rw [e2, hr'.row, hr'.down] at HFC
            rw [hr'.img] at HI2
            have hkt := tt.tp.fl.kp
            clear tt f' hr' e2 nd3 hl3
            generalize strN d3.img = im at *
            generalize d3.row.length = rl at *
            generalize d3.down = dn at *
            generalize leftF S l3 o3 = lf at *
            generalize frees l3 l3.length = fr at *
            have hbe : (im.toList == im.toList) = true := by simp
            go_wp2_with fail
            have hInh := fun (x v : Value) => (⟨fun h => h _ ((Kp.refl _).drew), fun h _ _ => h⟩ : (∀ Wz9, (fun W => Kp wc W) Wz9 → x = v) ↔ x = v)
            dsimp only at hInh
            refine wp_region_quietC (C := fun W => Kp wc W) (by kernel_rfl) (by kernel_rfl) ((Kp.refl _).drew) ?_
            repeat (first | go_big_quiet_step ((intro hW; first | (first | (go_at_call 18; refine (HI1.out _ hW).mono ?_; rintro e w' ⟨rfl, hk9⟩; exact ⟨rfl, hW.trans hk9⟩) | (go_at_call 19; refine (HI2.out _ hW).mono ?_; rintro e w' ⟨rfl, hk9⟩; exact ⟨rfl, hW.trans hk9⟩) | (go_at_call 20; refine (HPN.out _ hW).mono ?_; rintro e w' ⟨rfl, hk9⟩; exact ⟨rfl, hW.trans hk9⟩) | (go_at_call 21; refine (HDN.out _ hW).mono ?_; rintro e w' ⟨rfl, hk9⟩; exact ⟨rfl, hW.trans hk9⟩)) | (with_reducible rfl) | (obtain ⟨⟨p0, p1, p2, p3, p4, p5⟩, y4, y7⟩ := HFC.out _ hW; (try go_simp); first | done | with_reducible rfl | exact ⟨rfl, rfl⟩))) | quiet_step ((intro hW; first | (first | (go_at_call 18; refine (HI1.out _ hW).mono ?_; rintro e w' ⟨rfl, hk9⟩; exact ⟨rfl, hW.trans hk9⟩) | (go_at_call 19; refine (HI2.out _ hW).mono ?_; rintro e w' ⟨rfl, hk9⟩; exact ⟨rfl, hW.trans hk9⟩) | (go_at_call 20; refine (HPN.out _ hW).mono ?_; rintro e w' ⟨rfl, hk9⟩; exact ⟨rfl, hW.trans hk9⟩) | (go_at_call 21; refine (HDN.out _ hW).mono ?_; rintro e w' ⟨rfl, hk9⟩; exact ⟨rfl, hW.trans hk9⟩)) | (with_reducible rfl) | (obtain ⟨⟨p0, p1, p2, p3, p4, p5⟩, y4, y7⟩ := HFC.out _ hW; (try go_simp); first | done | with_reducible rfl | exact ⟨rfl, rfl⟩))))
            refine wpQuiet_nil ?_
            intro wq hwq
            clear hInh
            have hkq := hwq
            by_cases hc6 : cc = 6
            · subst hc6
              have hkF := hK2.trans (hkt.trans hkq)
              go_wp2_with fail
              go_ret
              exact ⟨rfl, hkF⟩
            · have hcb : (cc == 6) = false := by simp [hc6]
              clear hc6
              obtain ⟨wY, hwY⟩ : ∃ wY, wY = wq := ⟨_, rfl⟩
              subst hwY
              go_wp2_with fail
              have hInh := fun (x v : Value) => (⟨fun h => h _ (hkq.drew), fun h _ _ => h⟩ : (∀ Wz9, (fun W => Kp wc W) Wz9 → x = v) ↔ x = v)
              dsimp only at hInh
              refine wp_region_quietC (C := fun W => Kp wc W) (by kernel_rfl) (by kernel_rfl) (hkq.drew) ?_
              repeat (first | go_big_quiet_step ((intro hW; first | (first | (go_at_call 22; refine (HLF.out _ hW).mono ?_; rintro e w' ⟨rfl, hk9⟩; exact ⟨rfl, hW.trans hk9⟩) | (go_at_call 23; refine (HLR.out _ hW).mono ?_; rintro e w' ⟨rfl, hk9⟩; exact ⟨rfl, hW.trans hk9⟩) | (go_at_call 24; refine (HRF.out _ hW).mono ?_; rintro e w' ⟨rfl, hk9⟩; exact ⟨rfl, hW.trans hk9⟩) | (go_at_call 25; refine (HRR.out _ hW).mono ?_; rintro e w' ⟨rfl, hk9⟩; exact ⟨rfl, hW.trans hk9⟩)) | (with_reducible rfl) | (obtain ⟨⟨p0, p1, p2, p3, p4, p5⟩, y4, y7⟩ := HFC.out _ hW; (try go_simp); first | done | with_reducible rfl | exact ⟨rfl, rfl⟩))) | quiet_step ((intro hW; first | (first | (go_at_call 22; refine (HLF.out _ hW).mono ?_; rintro e w' ⟨rfl, hk9⟩; exact ⟨rfl, hW.trans hk9⟩) | (go_at_call 23; refine (HLR.out _ hW).mono ?_; rintro e w' ⟨rfl, hk9⟩; exact ⟨rfl, hW.trans hk9⟩) | (go_at_call 24; refine (HRF.out _ hW).mono ?_; rintro e w' ⟨rfl, hk9⟩; exact ⟨rfl, hW.trans hk9⟩) | (go_at_call 25; refine (HRR.out _ hW).mono ?_; rintro e w' ⟨rfl, hk9⟩; exact ⟨rfl, hW.trans hk9⟩)) | (with_reducible rfl) | (obtain ⟨⟨p0, p1, p2, p3, p4, p5⟩, y4, y7⟩ := HFC.out _ hW; (try go_simp); first | done | with_reducible rfl | exact ⟨rfl, rfl⟩))))
              refine wpQuiet_nil ?_
              intro wq hwq
              clear hInh
              go_wp2_with fail
              go_roundw
              case rel => exact ⟨j + 1, d3, l3, o3, by omega, by go_num, HT3.out.keep hwq, ND3.out, HL3.out⟩
              case measure => simp [intOf]; omega
    · have hkF := hK2.trans hkr
      by_cases hjl : j < xs.length
      · have hj2 : ¬ (j : Int) < 60 := by omega
        go_wp2_with fail
        go_ret
        exact ⟨rfl, hkF⟩
      · go_wp2_with fail
        go_ret
        exact ⟨rfl, hkF⟩
end Go.Proofs.YtnhogmheedeeiaaGreat
