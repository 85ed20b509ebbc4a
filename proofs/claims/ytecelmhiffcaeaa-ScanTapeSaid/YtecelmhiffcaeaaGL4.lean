/- Merged texts: LawScan4. -/
import Derived.Test.YtecelmhiffcaeaaGQ
import Derived.Test.YtecelmhiffcaeaaGS
import Derived.Test.YtecelmhiffcaeaaGT
set_option linter.unusedSimpArgs false
set_option linter.unusedVariables false
/- The walk of ScanTape. -/
namespace Go.Proofs.Ytecelmhiffcaeaa
open Go.RowKit
set_option linter.unusedVariables false
set_option maxRecDepth 20000
theorem frT_v (P : Int) (ss : List ByteArray) (i : Nat) : (frT P ss i).kd = 2 ∧ (frT P ss i).a = (i : Int) + 1 ∧ (frT P ss i).b = 0 ∧ (frT P ss i).t = ⟨#[112]⟩ ++ (ss.getD i ⟨#[]⟩).extract 0 (P - 16).toNat := ⟨rfl, rfl, rfl, rfl⟩
set_option maxHeartbeats 12800000 in
theorem ScanTape_walk (w : World) (p s r : Int) (wp : (Lit.int .i64 p).wf = true) (ws : (Lit.int .i64 s).wf = true) (wr : (Lit.int .i64 r).wf = true) (A : Option Addr) (c : Nat) (ss : List ByteArray) (H : TextsAt w A ss) (wt : ∀ s ∈ ss, s.size ≤ 140737488351232) (wl : ss.length * 16 ≤ 140737488351232) (flush : Bool) :
    Calls Try.prog 6 #[geo p s r, .slice A ss.length c, .bool flush] w fun e w' => e = .returned (.bool true) ∧ Kp w w' := by
  have bp := bounds_i64 wp
  have bs := bounds_i64 ws
  have br := bounds_i64 wr
  clear wp ws wr wt
  obtain ⟨P, S, n, hP, hS, hn, hR, hn7, hS6, hP64⟩ := small_geom p s r
  have HGE := Lib.hid (fun w => bgeom_any p s r bp bs br w)
  rw [hP, hS, hn] at HGE
  clear hP hS hn bp bs br
  obtain ⟨r1, r2, r3, r4, r5, r6⟩ := id hR
  obtain ⟨m, hm⟩ : ∃ m : Nat, S = (m : Int) + 1 := ⟨(S - 1).toNat, by omega⟩
  have hm2 : 2 ≤ m := by omega
  have hm5 : m ≤ 5 := by omega
  have hS1 : S - 1 = (m : Int) := by omega
  have HMS := Lib.hid hm
  have hnm : n * m ≤ 60 := Nat.le_trans (Nat.mul_le_mul (by omega : n ≤ 12) hm5) (by omega)
  have hmost : ((n * m : Nat) : Int) = (n : Int) * (m : Int) := Int.natCast_mul n m
  have HSL := Lib.hid (fun W => sslots P S n hR W)
  rw [hS1] at HSL
  have HRM := Lib.hid (fun W => rroomK P S n hR W)
  have hle : ((⟨#[]⟩ : ByteArray).size : Int) ≤ P * S * n := by
    obtain ⟨m1, m2, m3, m4⟩ := mul3 hR
    show ((0 : Nat) : Int) ≤ _
    omega
  have HNW := Lib.hid (fun W => new_S hR ⟨#[]⟩ hle W)
  have HNC := Lib.hid (fun W => cnew_yes P S n hR W)
  have hrl : (List.replicate n ((0 : Int), (0 : Int))).length = n := List.length_replicate
  have HRL := Lib.hid hrl
  obtain ⟨M, hM⟩ : ∃ M : Nat, M = n * m := ⟨_, rfl⟩
  have q1 : IntKind.i64.wrap ((n : Int) * (m : Int)) = (M : Int) := by rw [← hmost, ← hM]; exact IntWalk.i64_in _ (by omega)
  have HM := Lib.hid hM
  obtain ⟨N, hN⟩ : ∃ N, N = min ss.length (n * m) := ⟨_, rfl⟩
  have hNl : N ≤ ss.length := by omega
  have hNm : N ≤ n * m := by omega
  have HN := Lib.hid hN
  have hNM : N ≤ M := by omega
  clear hN hle hrl hm hS1 hmost hM
  go_enter Try.func6, Try.ntmps6
  go_wp2_with fail
  refine (HGE.out _).mono ?_
  rintro e w1 ⟨rfl, hk1⟩
  have hB := (Bk.new w 23 [.int .i64 p, .int .i64 s, .int .i64 r]).keep hk1
  have hK := (Kp.one w (.cells [.int .i64 p, .int .i64 s, .int .i64 r].toArray 23)).trans hk1
  clear hk1
  obtain ⟨c0, c1, c2⟩ := hB.c3g
  have f0 := hB.free 0
  have f1 := hB.free 1
  have f2 := hB.free 2
  go_wp2_with fail
  obtain ⟨hB2, hK2⟩ := put3 hB hK (Nat.le_refl _) (.int .i64 P) (.int .i64 S) (.int .i64 n)
  clear c0 c1 c2 f0 f1 f2 hB hK
  generalize ((w1.setCell ⟨w.heap.size, 0, none⟩ (.int .i64 P)).setCell ⟨w.heap.size, 1, none⟩ (.int .i64 S)).setCell ⟨w.heap.size, 2, none⟩ (.int .i64 n) = w2 at *
  have HC := Lib.hid (fun W' (k : Kp w2 W') => (show _ ∧ _ ∧ _ from (hB2.keep k).c3g))
  refine (HNW.out _).mono ?_
  rintro e w3 ⟨g, ib, ic, v, rfl, hf⟩
  obtain ⟨c0, c1, c2⟩ := HC.out _ hf.kp
  go_wp2_with fail
  refine (HNC.out _).mono ?_
  rintro e w4 ⟨h, q, rfl, hg2, hq2, hc2, hk4⟩
  have hf2 := hf.keep hk4
  clear c0 c1 c2
  go_wp2_with fail
  refine (tapenew_yes (l := List.replicate n (0, 0)) (by rw [HRL.out]; exact hf2.at_) hc2).mono ?_
  rintro e w5 ⟨tb, rfl, htb, hbt, hk5⟩
  have t5 := run_start (m := m) (runB P m (frT P ss)) (tp_start hR hf hg2 hq2 hc2 hk4 htb hbt hk5)
  have T5 := Lib.hid t5
  clear hf hf2 hg2 hq2 hc2 hk4 htb hbt hk5 t5 hB2
  go_wp2_with fail
  refine (salive _).mono ?_
  rintro e w6 ⟨rfl, hk6⟩
  have HG := Lib.hid (goes_run (n := n) hR (runB P m (frT P ss)))
  have t6 := T5.out.keep hk6
  have T6 := Lib.hid t6
  clear t6 T5
  have HFO := Lib.hid (frT_ok hR ss N (by omega))
  go_wp2_with fail
  go_loopw [10, 11] (fun wv iv wr => ScI w2 tb g ib ic h q P S n m N (fun k => runDev P S (n : Nat) (runB P m (frT P ss)) k none) (frT P ss) 0 wv iv wr) (fun _ iv _ => N - (intOf iv).toNat)
  case atStart => exact ⟨0, 0, m, v, [], by omega, by omega, rfl, T6.out, World.ownsRow_nil _ _ _ _, fun k hk => by cases hk⟩
  case round =>
    obtain ⟨j, c', u', v', X, hj, -, rfl, hrun, hown, hseen⟩ := hrel
    clear T6
    have HRU := Lib.hid hrun
    have HSE := Lib.hid hseen
    have hkr := hrun.2.fl.kp
    clear hrun hseen
    obtain ⟨A1, cA1, rfl⟩ := own_slice hown
    have HCR := Lib.hid (fun W' (k : Kp wr W') => HC.out W' (hkr.trans k))
    by_cases hlt : j < N
    · have hjl : j < ss.length := by omega
      have hjm : (j : Int) < (M : Int) := by omega
      have hjli : (j : Int) < (ss.length : Int) := by omega
      have d2 : decide ((j : Int) < (M : Int)) = true := by simpa using hjm
      have d1 : decide ((j : Int) < (ss.length : Int)) = true := by simpa using hjli
      go_wp2_with fail
      have hInh := fun (x v : Value) => (⟨fun h => h _ ((Kp.refl _).drew), fun h _ _ => h⟩ : (∀ Wz9, (fun W' => Kp wr W') Wz9 → x = v) ↔ x = v)
      dsimp only at hInh
      refine wp_region_quietC (C := fun W' => Kp wr W') (by kernel_rfl) (by kernel_rfl) ((Kp.refl _).drew) ?_
      repeat (first | go_big_quiet_step ((intro hW; first | (go_at_call 23; refine (HSL.out _).mono ?_; rintro e w' ⟨rfl, hk9⟩; exact ⟨rfl, hW.trans hk9⟩) | (with_reducible rfl) | (obtain ⟨c0, c1, c2⟩ := HCR.out _ hW; (try go_simp); first | done | with_reducible rfl | exact ⟨rfl, rfl⟩))) | quiet_step ((intro hW; first | (go_at_call 23; refine (HSL.out _).mono ?_; rintro e w' ⟨rfl, hk9⟩; exact ⟨rfl, hW.trans hk9⟩) | (with_reducible rfl) | (obtain ⟨c0, c1, c2⟩ := HCR.out _ hW; (try go_simp); first | done | with_reducible rfl | exact ⟨rfl, rfl⟩))))
      refine wpQuiet_nil ?_
      intro wq hwq
      clear hInh
      have hkq := hkr.trans hwq
      obtain ⟨ad, rfl, hcs⟩ := H.2.2 (by omega)
      have hx0 := hcs j hjl
      have HX0 := Lib.hid (fun W' (kk : Kp wq W') => ((hK2.trans hkq).trans kk).cell hx0)
      have hsz := H.2.1 _ (List.getElem_mem hjl)
      have hgd : ss.getD j ⟨#[]⟩ = ss[j] := by rw [List.getD_eq_getElem?_getD, List.getElem?_eq_getElem hjl]; rfl
      have HCQ := Lib.hid (fun W' (kk : Kp wq W') => HC.out W' (hkq.trans kk))
      obtain ⟨K, hK16⟩ : ∃ K : Nat, K = (P - 16).toNat := ⟨_, rfl⟩
      have q16 : IntKind.i64.wrap (P - 15 - 1) = (K : Int) := by rw [IntWalk.i64_in _ (by omega)]; omega
      have HSH := Lib.hid (fun W => short_any ss[j] K hsz (by omega) W)
      have hfr := frT_v P ss j
      rw [hgd, ← hK16] at hfr
      have HFR := Lib.hid hfr
      have hst : (ss[j].extract 0 K).size ≤ 128 := by rw [ByteArray.size_extract]; omega
      clear hfr hx0 hcs hsz hgd hK16
      generalize ss[j] = s0 at *
      generalize s0.extract 0 K = st at *
      have hcc : 1 + st.size ≤ 9223372036854775807 := by omega
      have hcn : (9223372036854775807 < 1 + st.size) = False := by simp; omega
      have qj : IntKind.i64.wrap ((j : Int) + 1) = (j : Int) + 1 := IntWalk.i64_in _ (by omega)
      have qj3 : IntKind.u32.wrap ((j : Int) + 1) = (j : Int) + 1 := IntWalk.u32_in _ (by omega)
      go_wp2_with fail
      refine wp_region_relH (R := Kp) (C := fun W' => Kp wq W') 14 (by kernel_rfl) (by kernel_rfl) (Kp.refl wq).drew (fun _ _ h k => h.trans k) Kp.refl (fun _ _ _ h k => h.trans k) ?_
      simp only [List.take_succ_cons, List.take_zero, List.drop_succ_cons, List.drop_zero]
      repeat (refine wpRel_step (fun K hK => ?_); apply rel_eq; (case ob => (intro f W hW hd; (obtain ⟨c0, c1, c2⟩ := HCQ.out _ hW; have x0 := HX0.out _ hW); (try simp [deps, factOf, Region.binds] at hd); unfold relOp; go_simp; (first | exact ⟨Kp.refl _, rfl⟩ | exact Kp.refl _ | (refine ⟨Kp.refl _, ?_⟩; (first | (go_at_call 14; refine (HRM.out _).mono ?_; rintro e w' ⟨rfl, hk9⟩; exact ⟨rfl, hk9⟩) | (go_at_call 11; refine (HSH.out _).mono ?_; rintro e w' ⟨rfl, rfl⟩; exact ⟨rfl, Kp.refl _⟩)))))); go_simp; refine hK _ _ ?_; clear hK K)
      refine wpRel_step (fun K hK => ?_)
      apply rel_fact (BoxF wq.heap.size 33 [.int .i64 0, .int .u32 0, .int .u32 0, .string ⟨#[]⟩]) (BoxF.st)
      case ob =>
        intro f W hW hd
        skip
        (try simp [deps, factOf, Region.binds] at hd)
        unfold relOp
        go_simp
        exact ⟨Kp.one _ _, BoxF.mk hW.size⟩
      go_simp
      refine hK _ _ ?_
      clear hK K
      refine wpRel_nil ?_
      intro f W hW hall
      have h12 : f 12 = .agg #[.int .i64 2, .int .u32 ((j : Int) + 1), .int .u32 0, .string (⟨#[112]⟩ ++ st)] := allF_get hall 12 _ rfl
      obtain ⟨bx, h13, hbx, hX⟩ := allF_get hall 13 _ rfl
      clear hall
      dsimp only
      rw [h12, h13]
      obtain ⟨f0, f1, f2, f3⟩ := (⟨hX.free 0, hX.free 1, hX.free 2, hX.free 3⟩ : _ ∧ _ ∧ _ ∧ _)
      obtain ⟨n0, n1, n2, n3⟩ := (show _ ∧ _ ∧ _ ∧ _ from hX.c4g)
      go_upto_region 11 with fail
      obtain ⟨hXA, hKA⟩ := bputs (w := wq) hX hW hbx (.int .i64 2) (.int .u32 ((j : Int) + 1)) (.int .u32 0) (.string (⟨#[112]⟩ ++ st))
      clear hX hW f0 f1 f2 f3 n0 n1 n2 n3 h12 h13
      generalize (((W.setCell ⟨bx, 0, none⟩ (.int .i64 2)).setCell ⟨bx, 1, none⟩ (.int .u32 ((j : Int) + 1))).setCell ⟨bx, 2, none⟩ (.int .u32 0)).setCell ⟨bx, 3, none⟩ (.string (⟨#[112]⟩ ++ st)) = wA at *
      generalize (⟨#[112]⟩ : ByteArray) ++ st = pt at *
      have hkA := hwq.trans hKA
      have hbr : wr.heap.size ≤ bx := Nat.le_trans hwq.size hbx
      have tA : RunG ((bx, .cells #[.int .i64 2, .int .u32 ((j : Int) + 1), .int .u32 0, .string pt] 33 (0, 0)) :: X) w2 wA tb g ib ic h q P S n m (fun k => runDev P S (n : Nat) (runB P m (frT P ss)) k none) j c' u' v' := ⟨HRU.out.1, TpS.addX HRU.out.2 hkA bx _ hbr hXA⟩
      have hap := gun_append hR HMS.out hm2 tA (by omega) (HFO.out j hlt).1 0 (by omega) HG.out
      obtain ⟨z1, z2, z3, z4⟩ := HFR.out
      rw [z1, z2, z3, z4] at hap
      unfold GunPost at hap
      have HAP := Lib.hid hap
      have TA := Lib.hid tA
      have HOA := Lib.hid (own_keep hown hkA)
      obtain ⟨n0, n1, n2, n3⟩ := (show _ ∧ _ ∧ _ ∧ _ from hXA.c4g)
      clear hap tA z1 z2 z3 z4 hown
      go_wp2_with fail
      refine (HAP.out).mono ?_
      rintro e w7 ⟨rfl, c8, u8, v8, -, t8⟩
      have T8 := Lib.hid t8
      have hX7 : Bk w7 bx 33 [.int .i64 2, .int .u32 ((j : Int) + 1), .int .u32 0, .string pt] := (t8.2.watch _ (List.mem_cons_self ..)).1
      have ho7 := own_seen TA.out.2 t8.2 (HSE.out.more _) HOA.out
      have hk7 := t8.2.fl.kp
      have hY := Bk.new w7 33 [.int .i64 2, .int .u32 ((j : Int) + 1), .int .u32 0, .string pt]
      have hky := Kp.one w7 (.cells #[.int .i64 2, .int .u32 ((j : Int) + 1), .int .u32 0, .string pt] 33)
      have hkz := hk7.trans hky
      have HOY := Lib.hid (own_keep ho7 hky)
      have HTY := Lib.hid (t8.2.keep hky)
      clear t8 ho7 n0 n1 n2 n3 HAP TA HOA
      obtain ⟨n0, n1, n2, n3⟩ := (show _ ∧ _ ∧ _ ∧ _ from hX7.c4g)
      go_wp2_with (at_builtin; refine wpList_app (w0 := w2) rfl _ _ _ rfl (.agg #[.int .i64 0, .int .u32 0, .int .u32 0, .string ⟨#[]⟩]) 32 Try.underlying29 info_frm rfl (by decide) (by decide) rfl HOY.out (some ⟨w7.heap.size, 0, none⟩) 1 1 [.int .i64 2, .int .u32 ((j : Int) + 1), .int .u32 0, .string pt] rfl rfl (src_bk hY) (by simp [Value.oneCell']) (by omega) hkz ?_; intro v1 w8 hown1 hkp1 hg1 hat1; obtain ⟨X9, t9, s9⟩ := TpS.app HTY.out (HSE.out.more _) HOY.out (Nat.le_refl _) hg1 hown1 hat1; obtain ⟨A3, c3, rfl⟩ := own_slice hown1; have HO1 := Lib.hid hown1; have T9 := Lib.hid t9; have S9 := Lib.hid s9; clear hown1 hg1 hat1 t9 s9)
      go_roundw
      case rel => exact ⟨j + 1, c8, u8, v8, X9, by omega, by omega, by go_num, ⟨T8.out.1, T9.out⟩, by rw [frsF_snoc, HFR.out.1, HFR.out.2.1, HFR.out.2.2.1, HFR.out.2.2.2]; exact HO1.out, S9.out⟩
      case measure => simp [intOf]; omega
    · obtain rfl : j = N := by omega
      have HRG := Lib.hid (fun i hi => tape_reg hR (by omega) HRU.out.1 HFO.out i hi)
      have HPL := Lib.hid (fun i => pos_lt HRU.out.1 (by omega) i)
      have HE0 := Lib.hid (fun W (k : Kp wr W) => sc_end0 hR HMS.out (HRU.out.keep k) (own_keep hown k))
      have HFL : Hid (∀ W, Kp wr W → Calls Try.prog 25 #[.pointer (some ⟨tb, 0, none⟩)] W fun e w' => (∃ cd, e = .returned (.int .i64 cd)) ∧ ∃ v2, ScEnd w2 w' g ib ic P S n m (tapeB P m (frT P ss) (lim m c' u')) (.slice A1 j cA1) j (frT P ss) (flushD P (runDev P S (n : Nat) (runB P m (frT P ss)) (lim m c' u') none)).1 v2) := Lib.hid (fun W k => (tflush (HRU.out.keep k).2).mono fun _ _ ⟨he, v2, t2⟩ => ⟨⟨_, he⟩, v2, sc_end1 hR HMS.out (by omega) HRU.out.1 hNm HFO.out t2 (own_seen (HRU.out.keep k).2 t2 HSE.out (own_keep hown k))⟩)
      obtain ⟨wp, hwp⟩ : ∃ wp, wp = wr := ⟨_, rfl⟩
      subst hwp
      clear hown
      have hcs : (j < ss.length ∧ decide ((j : Int) < (ss.length : Int)) = true ∧ decide ((j : Int) < (M : Int)) = false ∧ ¬ j < M) ∨ (¬ j < ss.length ∧ decide ((j : Int) < (ss.length : Int)) = false ∧ True) := by
        have := HN.out
        have := HM.out
        by_cases h1 : j < ss.length
        · exact Or.inl ⟨h1, by simpa using h1, by simp; omega, by omega⟩
        · exact Or.inr ⟨h1, by simp; omega, trivial⟩
      rcases hcs with ⟨hx1, d1, d2, hx2⟩ | ⟨hx1, d1, d2⟩ <;> rcases flush with _ | _
      all_goals
        go_wp2_with fail
        have hInh := fun (x v : Value) => (⟨fun h => h _ ((Kp.refl _).drew), fun h _ _ => h⟩ : (∀ Wz9, (fun W' => Kp wp W') Wz9 → x = v) ↔ x = v)
        dsimp only at hInh
        refine wp_region_quietC (C := fun W' => Kp wp W') (by kernel_rfl) (by kernel_rfl) ((Kp.refl _).drew) ?_
        repeat (first | go_big_quiet_step ((intro hW; first | (go_at_call 23; refine (HSL.out _).mono ?_; rintro e w' ⟨rfl, hk9⟩; exact ⟨rfl, hW.trans hk9⟩) | (with_reducible rfl) | (obtain ⟨c0, c1, c2⟩ := HCR.out _ hW; (try go_simp); first | done | with_reducible rfl | exact ⟨rfl, rfl⟩))) | quiet_step ((intro hW; first | (go_at_call 23; refine (HSL.out _).mono ?_; rintro e w' ⟨rfl, hk9⟩; exact ⟨rfl, hW.trans hk9⟩) | (with_reducible rfl) | (obtain ⟨c0, c1, c2⟩ := HCR.out _ hW; (try go_simp); first | done | with_reducible rfl | exact ⟨rfl, rfl⟩))))
        refine wpQuiet_nil ?_
        intro wq hwq
        clear hInh
        go_wp2_with fail
        first
          | (refine (HFL.out _ hwq).mono ?_; rintro e wf ⟨⟨cd, rfl⟩, v9, se⟩; go_wp2_with fail)
          | (have se := HE0.out _ hwq; obtain ⟨v9, hv9⟩ : ∃ v9, v9 = v' := ⟨_, rfl⟩; obtain ⟨wf, hwf⟩ : ∃ wf, wf = wq := ⟨_, rfl⟩; subst hv9 hwf)
        obtain ⟨d9, SE⟩ : ∃ d9, Hid (ScEnd w2 wf g ib ic P S n m (tapeB P m (frT P ss) (lim m c' u')) (.slice A1 j cA1) j (frT P ss) d9 v9) := ⟨_, Lib.hid se⟩
        clear se HE0 HFL HSE HRU
        refine (sc_all SE.out HMS.out).mono ?_
        rintro e wa ⟨v3, l3, rfl, hl3, hF3, hk3⟩
        have SEA := Lib.hid (SE.out.keep hk3)
        have hn3 : l3.length = n := by rw [← List.length_map (f := Prod.fst), hl3]; simp [scL]
        obtain ⟨hO3, hR3⟩ := hF3
        rw [hn3] at hO3
        obtain ⟨q3, c3', e3, C3⟩ := fd_cells hO3 hn3 (by omega)
        have HC3 := Lib.hid C3
        have HR3 := Lib.hid hR3
        have HL3 := Lib.hid hl3
        have HN3 := Lib.hid hn3
        rw [e3]
        have hka := SEA.out.fl.kp
        have HCA := Lib.hid (fun W' (k : Kp wa W') => HC.out W' (hka.trans k))
        clear hO3 hR3 hl3 hn3 e3 C3 hk3
        obtain ⟨c0, c1, c2⟩ := HCA.out _ (Kp.refl _)
        go_wp2_with fail
        clear c0 c1 c2
        go_loopw [17, 18] (fun av iv wr => ScJ wa n m j (frT P ss) av iv wr) (fun _ iv _ => n - (intOf iv).toNat)
        case atStart => exact ⟨0, by omega, rfl, by rw [Nat.zero_mul, Nat.min_zero]; exact World.ownsRow_nil _ _ _ _, Kp.refl _⟩
        case round =>
          obtain ⟨k, hk, rfl, hown, hKr⟩ := hrel
          obtain ⟨A5, c5, rfl⟩ := own_slice hown
          have HOW := Lib.hid hown
          clear hown
          by_cases hlt2 : k < n
          · have hkl : k < l3.length := by rw [HN3.out]; exact hlt2
            have hfe : l3[k].1 = ⟨k, if k < c' then (k : Int) + 1 else 0, frsF (frT P ss) (k * m) (min m (j - k * m)), true⟩ := by
              have a1 : (l3.map Prod.fst)[k]? = some l3[k].1 := by rw [List.getElem?_map, List.getElem?_eq_getElem hkl]; rfl
              rw [HL3.out, scL_get k hlt2, HRG.out k hlt2] at a1
              exact (Option.some.inj a1).symm
            have o3 := HR3.out _ (List.getElem_mem hkl)
            have HCK := Lib.hid (fun W' (kk : Kp wa W') => HC3.out W' kk k hkl)
            rw [hfe] at o3 HCK
            dsimp only at o3 HCK
            rw [frsF_len] at o3
            obtain ⟨A6, c6, e6, hsrc⟩ := own_src o3
            rw [e6] at HCK
            have HSR := Lib.hid hsrc
            have hpl := HPL.out k
            have HST := Lib.hid (frsF_step (frT P ss) m j k)
            obtain ⟨cnt, hcnt⟩ : ∃ cnt, cnt = min m (j - k * m) := ⟨_, rfl⟩
            rw [← hcnt] at HST HSR HCK
            have hcm : cnt ≤ 60 := by omega
            have hkm : k * m ≤ 60 := Nat.le_trans (Nat.mul_le_mul (by omega : k ≤ 12) hm5) (by omega)
            have hkmI : ((k * m : Nat) : Int) = (k : Int) * (m : Int) := Int.natCast_mul k m
            generalize hkme : k * m = km at *
            have qkm : IntKind.i64.wrap ((k : Int) * (m : Int)) = (km : Int) := by rw [← hkmI]; exact IntWalk.i64_in _ (by omega)
            have qk : IntKind.i64.wrap ((k : Int) + 1) = (k : Int) + 1 := IntWalk.i64_in _ (by omega)
            have qk3 : IntKind.u32.wrap ((k : Int) + 1) = (k : Int) + 1 := IntWalk.u32_in _ (by omega)
            have hlk : (k : Int) < (n : Int) := by omega
            have HK2 := Lib.hid (show min j km ≤ 60 by omega)
            have HCM := Lib.hid hcm
            generalize hnn : min j km = nn at *
            obtain ⟨ep, hep⟩ : ∃ ep : Int, ep = (if k < c' then (k : Int) + 1 else 0) := ⟨_, rfl⟩
            have hcase : (((km : Int) < (j : Int)) ∧ ep = (k : Int) + 1) ∨ ((¬ (km : Int) < (j : Int)) ∧ ep = 0) := by
              by_cases hc : k < c'
              · exact Or.inl ⟨by have := hpl.1 hc; omega, by rw [hep, if_pos hc]⟩
              · exact Or.inr ⟨fun hh => hc (hpl.2 (by omega)), by rw [hep, if_neg hc]⟩
            rw [← hep] at HCK
            clear hfe o3 hsrc hpl hcnt hcm hkm hkmI hkme hep e6
            clear hnn
            generalize frsF (frT P ss) 0 nn = F0 at *
            obtain ⟨c0, c1, c2⟩ := HCA.out _ hKr
            obtain ⟨x0, x1, x2, x3⟩ := HCK.out _ hKr
            rcases hcase with ⟨hb, rfl⟩ | ⟨hb, rfl⟩
            all_goals
              go_wp2_with fail
              refine (HSL.out _).mono ?_
              rintro e wz ⟨rfl, hkz⟩
              have hkW := hKr.trans hkz
              clear x0 x1 x2 x3
              obtain ⟨x0, x1, x2, x3⟩ := HCK.out _ hkW
              have HOZ := Lib.hid (own_keep HOW.out hkz)
              have HSZ := Lib.hid (HSR.out.keep hkW)
              have hfl : (fvs (frsF (frT P ss) km cnt)).length = cnt * 4 := by rw [fvs_len, frsF_len]
              have HF1 := Lib.hid (fvs_one (frsF (frT P ss) km cnt))
              have HFLL := Lib.hid hfl
              have HBY : Hid ((nn + cnt) * 32 ≤ 140737488355328) := Lib.hid (by have := HK2.out; have := HCM.out; omega)
              clear hfl
              generalize fvs (frsF (frT P ss) km cnt) = G0 at *
              go_wp2_with (at_builtin; refine wpList_app (w0 := wa) rfl _ _ _ rfl (.agg #[.int .i64 0, .int .u32 0, .int .u32 0, .string ⟨#[]⟩]) 32 Try.underlying29 info_frm rfl (by decide) (by decide) rfl HOZ.out A6 cnt c6 G0 rfl HFLL.out HSZ.out HF1.out HBY.out hkW ?_; intro v1 w8 hown1 hkp1 hg1 hat1; obtain ⟨A7, c7, rfl⟩ := own_slice hown1; have HO1 := Lib.hid hown1; clear hown1 hg1 hat1)
              go_roundw
              case rel => exact ⟨k + 1, by omega, by go_num, by rw [← HST.out.2, ← HST.out.1]; exact HO1.out, hkp1⟩
              case measure => simp [intOf]; omega
          · obtain rfl : k = n := by omega
            have hjm2 : min j (k * m) = j := by omega
            rw [hjm2] at HOW
            rw [hjm2]
            have HSF := Lib.hid (sameframes wr _ _ j _ _ (frsF (frT P ss) 0 j) (frsF_len _ _ _) HOW.out (own_keep SEA.out.row hKr))
            have hkF := hK2.trans (hka.trans hKr)
            go_wp2_with fail
            refine (HSF.out).mono ?_
            rintro e wb ⟨rfl, hkb⟩
            go_wp2_with fail
            go_ret
            exact ⟨rfl, hkF.trans hkb⟩
end Go.Proofs.Ytecelmhiffcaeaa
