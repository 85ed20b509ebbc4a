/- Merged texts: LawScan5. -/
import Derived.Test.YtecelmhiffcaeaaGW
import Derived.Test.YtecelmhiffcaeaaGS
import Derived.Test.YtecelmhiffcaeaaGT
set_option linter.unusedSimpArgs false
set_option linter.unusedVariables false
/- The walk of ScanTorn. -/
namespace Go.Proofs.Ytecelmhiffcaeaa
open Go.RowKit
set_option linter.unusedVariables false
set_option maxRecDepth 20000
/-- The frames that ScanTorn makes. -/
def frP (i : Nat) : Fm := ⟨2, (i : Int) + 1, 0, ⟨#[112, 97, 114, 116]⟩⟩
theorem frP_v (i : Nat) : (frP i).kd = 2 ∧ (frP i).a = (i : Int) + 1 ∧ (frP i).b = 0 ∧ (frP i).t = ⟨#[112, 97, 114, 116]⟩ := ⟨rfl, rfl, rfl, rfl⟩
theorem frP_ok {P s r : Int} (hR : RightG P s r) (N : Nat) (hN : N ≤ 1000) : Parts P frP N ∧ ∀ i, i < N → FmOk P (frP i) ∧ ((frP i).t.size : Int) + 16 ≤ P := by
  have hP : 32 ≤ P := hR.1
  have h4 : (⟨#[112, 97, 114, 116]⟩ : ByteArray).size = 4 := rfl
  have hx : ∀ i, i < N → FmOk P (frP i) := fun i hi => by
    refine ⟨by show (1 : Int) ≤ 2; omega, by show (2 : Int) ≤ 4; omega, ⟨by show (0 : Int) ≤ (i : Int) + 1; omega, by show (i : Int) + 1 ≤ _; omega⟩, ⟨by show (0 : Int) ≤ 0; omega, by show (0 : Int) ≤ _; omega⟩, ?_⟩
    show (((⟨#[112, 97, 114, 116]⟩ : ByteArray).size : Nat) : Int) + 15 ≤ P
    omega
  refine ⟨fun i hi => ⟨hx i hi, part_good hR (hx i hi) rfl ⟨by show (1 : Int) ≤ (i : Int) + 1; omega, by show (i : Int) + 1 ≤ _; omega⟩ ?_⟩, fun i hi => ⟨hx i hi, ?_⟩⟩
  · show (⟨#[112, 97, 114, 116]⟩ : ByteArray).toList.isEmpty = false
    decide +kernel
  · show (((⟨#[112, 97, 114, 116]⟩ : ByteArray).size : Nat) : Int) + 16 ≤ P
    omega
/-- How far a flush has gone. -/
def Flu (m n0 j k0 : Nat) : Prop := (j < n0 → k0 = 0) ∧ (n0 ≤ j → ∃ c0 u0, Pos m n0 c0 u0 ∧ k0 = lim m c0 u0)
theorem flu_ok {p s : Int} {n m n0 j k0 : Nat} (hR : RightG p s n) (hs : s = (m : Int) + 1) (hm : 1 ≤ m) (hn : n0 ≤ n * m) (hp : ∀ i, i < n0 → FmOk p (frP i)) (h : Flu m n0 j k0) : ∀ y, y < k0 → (y : Int) < s * (n : Nat) ∧ ((runB p m frP y).size : Int) = p := by
  intro y hy
  by_cases c : j < n0
  · have := h.1 c
    omega
  · obtain ⟨c0, u0, h1, h2⟩ := h.2 (by omega)
    exact runB_size hR hs hm h1 hn hp y (by omega)
/-- What holds at the head of the loop that appends frames. -/
def ScT (w2 : World) (tb g ib ic h q : Nat) (p s : Int) (n m n0 m0 : Nat) (wv iv : Value) (wr : World) : Prop :=
  ∃ (j c u : Nat) (v : Value) (X : List (Nat × Obj)) (k0 : Nat), j ≤ n0 + m0 ∧ k0 ≤ lim m c u ∧ iv = .int .i64 j ∧ RunG X w2 wr tb g ib ic h q p s n m (devF p s n (runB p m frP) k0) j c u v ∧ wr.ownsRow w2.heap.size 33 4 wv j (fvs (frsF frP 0 j)) ∧ Seen X wv ∧ Flu m n0 j k0
/-- What holds at the heads of the loops that count frames. -/
def ScK (wa : World) (n m N : Nat) (kv iv : Value) (wr : World) : Prop := ∃ i kc : Nat, i ≤ n ∧ kc ≤ min N (i * m) ∧ iv = .int .i64 i ∧ kv = .int .i64 kc ∧ Kp wa wr
def ScM (wa : World) (len kc : Nat) (kv jv : Value) (wr : World) : Prop := ∃ x : Nat, x ≤ len ∧ jv = .int .i64 x ∧ kv = .int .i64 ((kc : Int) + (x : Int)) ∧ Kp wa wr
set_option maxHeartbeats 12800000 in
theorem ScanTorn_walk (w : World) (p s r : Int) (wp : (Lit.int .i64 p).wf = true) (ws : (Lit.int .i64 s).wf = true) (wr : (Lit.int .i64 r).wf = true) (a : Int) (wa : (Lit.int .i64 a).wf = true) (b : Int) (wb : (Lit.int .i64 b).wf = true) (A2 : Option Addr) (c2 : Nat) (ts : List Int) (H2 : NumsAt .i64 w A2 ts) (l2 : ts.length * 8 ≤ 140737488351232) (w2' : ∀ x ∈ ts, (Lit.int .i64 x).wf = true) :
    Calls Try.prog 7 #[geo p s r, .int .i64 a, .int .i64 b, .slice A2 ts.length c2] w fun e w' => e = .returned (.bool true) ∧ Kp w w' := by
  have bp := bounds_i64 wp
  have bs := bounds_i64 ws
  have br := bounds_i64 wr
  have ba := bounds_i64 wa
  have bb := bounds_i64 wb
  clear wp ws wr wa wb
  obtain ⟨P, S, n, hP, hS, hn, hR, hn7, hS6, hP64⟩ := small_geom p s r
  have HGE := Lib.hid (fun w => bgeom_any p s r bp bs br w)
  rw [hP, hS, hn] at HGE
  clear hP hS hn bp bs br
  obtain ⟨r1, r2, r3, r4, r5, r6⟩ := id hR
  obtain ⟨m, hm⟩ : ∃ m : Nat, S = (m : Int) + 1 := ⟨(S - 1).toNat, by omega⟩
  have hm2 : 2 ≤ m := by omega
  have hm5 : m ≤ 5 := by omega
  have hS1 : S - 1 = (m : Int) := by omega
  have HMS := Lib.hid hm
  have HSL := Lib.hid (fun W => sslots P S n hR W)
  rw [hS1] at HSL
  have hle : ((⟨#[]⟩ : ByteArray).size : Int) ≤ P * S * n := by
    obtain ⟨m1, m2, m3, m4⟩ := mul3 hR
    show ((0 : Nat) : Int) ≤ _
    omega
  have HNW := Lib.hid (fun W => new_S hR ⟨#[]⟩ hle W)
  have HNC := Lib.hid (fun W => cnew_yes P S n hR W)
  have hrl : (List.replicate n ((0 : Int), (0 : Int))).length = n := List.length_replicate
  have HRL := Lib.hid hrl
  have HPA := Lib.hid (fun W => pick_any a (m : Int) (by omega) (by omega) ba.1 ba.2 W)
  have HPB := Lib.hid (fun W => pick_any b (m : Int) (by omega) (by omega) bb.1 bb.2 W)
  obtain ⟨n0, hn0⟩ : ∃ n0 : Nat, a % (m : Int) = (n0 : Int) := ⟨(a % (m : Int)).toNat, by have := Int.emod_nonneg a (show (m : Int) ≠ 0 by omega); omega⟩
  obtain ⟨m0, hm0⟩ : ∃ m0 : Nat, b % (m : Int) = (m0 : Int) := ⟨(b % (m : Int)).toNat, by have := Int.emod_nonneg b (show (m : Int) ≠ 0 by omega); omega⟩
  have hn0m : n0 < m := by have := Int.emod_lt_of_pos a (show (0 : Int) < (m : Int) by omega); omega
  have hm0m : m0 < m := by have := Int.emod_lt_of_pos b (show (0 : Int) < (m : Int) by omega); omega
  rw [hn0] at HPA
  rw [hm0] at HPB
  have hNm : n0 + m0 ≤ n * m := by
    have : 4 * m ≤ n * m := Nat.mul_le_mul_right m (by omega)
    omega
  have HNM := Lib.hid hNm
  clear hle hrl hm hS1 hn0 hm0 ba bb hNm
  go_enter Try.func7, Try.ntmps7
  go_wp2_with fail
  refine (HGE.out _).mono ?_
  rintro e w1 ⟨rfl, hk1⟩
  have hB := (Bk.new w 23 [.int .i64 p, .int .i64 s, .int .i64 r]).keep hk1
  have hK := (Kp.one w (.cells [.int .i64 p, .int .i64 s, .int .i64 r].toArray 23)).trans hk1
  clear hk1
  obtain ⟨c0, c1, c2⟩ := hB.c3g
  have f0 := hB.free 0
  have f1 := hB.free 1
  have f2 := hB.free 2
  go_wp2_with fail
  obtain ⟨hB2, hK2⟩ := put3 hB hK (Nat.le_refl _) (.int .i64 P) (.int .i64 S) (.int .i64 n)
  clear c0 c1 c2 f0 f1 f2 hB hK
  generalize ((w1.setCell ⟨w.heap.size, 0, none⟩ (.int .i64 P)).setCell ⟨w.heap.size, 1, none⟩ (.int .i64 S)).setCell ⟨w.heap.size, 2, none⟩ (.int .i64 n) = w2 at *
  have HC := Lib.hid (fun W' (k : Kp w2 W') => (show _ ∧ _ ∧ _ from (hB2.keep k).c3g))
  refine (HNW.out _).mono ?_
  rintro e w3 ⟨g, ib, ic, v, rfl, hf⟩
  obtain ⟨c0, c1, c2⟩ := HC.out _ hf.kp
  go_wp2_with fail
  refine (HNC.out _).mono ?_
  rintro e w4 ⟨h, q, rfl, hg2, hq2, hc2, hk4⟩
  have hf2 := hf.keep hk4
  clear c0 c1 c2
  go_wp2_with fail
  refine (tapenew_yes (l := List.replicate n (0, 0)) (by rw [HRL.out]; exact hf2.at_) hc2).mono ?_
  rintro e w5 ⟨tb, rfl, htb, hbt, hk5⟩
  have t5 := run_start (m := m) (runB P m frP) (tp_start hR hf hg2 hq2 hc2 hk4 htb hbt hk5)
  rw [← (funext (devF_0 (p := P) (s := S) (n := n) (runB P m frP)) : devF P S n (runB P m frP) 0 = fun k => runDev P S (n : Nat) (runB P m frP) k none)] at t5
  have T5 := Lib.hid t5
  clear hf hf2 hg2 hq2 hc2 hk4 htb hbt hk5 t5 hB2
  go_wp2_with fail
  refine (salive _).mono ?_
  rintro e w6 ⟨rfl, hk6⟩
  have t6 := T5.out.keep hk6
  have hkt := t6.2.fl.kp
  have T6 := Lib.hid t6
  clear t6 T5
  obtain ⟨HFO, HFT⟩ : Hid (Parts P frP (n0 + m0)) ∧ Hid (∀ i, i < n0 + m0 → FmOk P (frP i) ∧ ((frP i).t.size : Int) + 16 ≤ P) := ⟨Lib.hid (frP_ok hR (n0 + m0) (by omega)).1, Lib.hid (frP_ok hR (n0 + m0) (by omega)).2⟩
  go_wp2_with fail
  have hInh := fun (x v : Value) => (⟨fun h => h _ ((Kp.refl _).drew), fun h _ _ => h⟩ : (∀ Wz9, (fun W' => Kp w6 W') Wz9 → x = v) ↔ x = v)
  dsimp only at hInh
  refine wp_region_quietC (C := fun W' => Kp w6 W') (by kernel_rfl) (by kernel_rfl) ((Kp.refl _).drew) ?_
  repeat (first | go_big_quiet_step ((intro hW; first | (first | (go_at_call 23; refine (HSL.out _).mono ?_; rintro e w' ⟨rfl, hk9⟩; exact ⟨rfl, hW.trans hk9⟩) | (go_at_call 13; with_reducible refine (HPA.out _).mono ?_; rintro e w' ⟨rfl, rfl⟩; exact ⟨rfl, hW⟩) | (go_at_call 13; with_reducible refine (HPB.out _).mono ?_; rintro e w' ⟨rfl, rfl⟩; exact ⟨rfl, hW⟩)) | (with_reducible rfl) | (obtain ⟨c0, c1, c2⟩ := HC.out _ (hkt.trans hW); (try go_simp); first | done | with_reducible rfl | exact ⟨rfl, rfl⟩))) | quiet_step ((intro hW; first | (first | (go_at_call 23; refine (HSL.out _).mono ?_; rintro e w' ⟨rfl, hk9⟩; exact ⟨rfl, hW.trans hk9⟩) | (go_at_call 13; with_reducible refine (HPA.out _).mono ?_; rintro e w' ⟨rfl, rfl⟩; exact ⟨rfl, hW⟩) | (go_at_call 13; with_reducible refine (HPB.out _).mono ?_; rintro e w' ⟨rfl, rfl⟩; exact ⟨rfl, hW⟩)) | (with_reducible rfl) | (obtain ⟨c0, c1, c2⟩ := HC.out _ (hkt.trans hW); (try go_simp); first | done | with_reducible rfl | exact ⟨rfl, rfl⟩))))
  refine wpQuiet_nil ?_
  intro wq hwq
  clear hInh
  go_wp2_with fail
  have T7 := Lib.hid (T6.out.keep hwq)
  clear T6
  have qn1 : IntKind.i64.wrap ((n0 : Int) + (m0 : Int)) = ((n0 + m0 : Nat) : Int) := by rw [IntWalk.i64_in _ (by omega)]; omega
  have qn2 : IntKind.i64.wrap ((n0 : Int) - 1) = (n0 : Int) - 1 := IntWalk.i64_in _ (by omega)
  obtain ⟨N, hN⟩ : ∃ N, N = n0 + m0 := ⟨_, rfl⟩
  have hN20 : N ≤ 20 := by omega
  have hnN : n0 ≤ N := by omega
  rw [← hN] at qn1 HFO HFT HNM
  have HNE := Lib.hid hN
  clear hN
  go_loopw [12, 13] (fun wv iv wr => ScT w2 tb g ib ic h q P S n m n0 m0 wv iv wr) (fun _ iv _ => N - (intOf iv).toNat)
  case atStart => exact ⟨0, 0, m, v, [], 0, by omega, by omega, rfl, T7.out, World.ownsRow_nil _ _ _ _, (fun k hk => by cases hk), ⟨fun _ => rfl, fun hh => ⟨0, m, Or.inl ⟨rfl, by omega, rfl⟩, rfl⟩⟩⟩
  case round =>
    obtain ⟨j, c', u', v', X, k0, hj, hk0, rfl, hrun, hown, hseen, hflu⟩ := hrel
    clear T7
    rw [← HNE.out] at hj
    have HRU := Lib.hid hrun
    have HSE := Lib.hid hseen
    have HFU := Lib.hid hflu
    have hkr := hrun.2.fl.kp
    have HGO := Lib.hid (goes_dev hR (runB P m frP) k0 (flu_ok hR HMS.out (by omega) (by have := HNM.out; omega) (fun i hi => (HFO.out i (by omega)).1) hflu))
    clear hrun hseen hflu
    obtain ⟨A1, cA1, rfl⟩ := own_slice hown
    have HCR := Lib.hid (fun W' (k : Kp wr W') => HC.out W' (hkr.trans k))
    by_cases hlt : j < N
    · have hjli : (j : Int) < (N : Int) := by omega
      have qj : IntKind.i64.wrap ((j : Int) + 1) = (j : Int) + 1 := IntWalk.i64_in _ (by omega)
      have qj3 : IntKind.u32.wrap ((j : Int) + 1) = (j : Int) + 1 := IntWalk.u32_in _ (by omega)
      go_upto_region 12 with fail
      have hXA := Bk.new wr 33 [.int .i64 2, .int .u32 ((j : Int) + 1), .int .u32 0, .string ⟨#[112, 97, 114, 116]⟩]
      have hkA := Kp.one wr (.cells #[.int .i64 2, .int .u32 ((j : Int) + 1), .int .u32 0, .string ⟨#[112, 97, 114, 116]⟩] 33)
      have hXA : Bk (wr.alloc (.cells #[.int .i64 2, .int .u32 ((j : Int) + 1), .int .u32 0, .string ⟨#[112, 97, 114, 116]⟩] 33)) wr.heap.size 33 [.int .i64 2, .int .u32 ((j : Int) + 1), .int .u32 0, .string ⟨#[112, 97, 114, 116]⟩] := hXA
      generalize wr.alloc (.cells #[.int .i64 2, .int .u32 ((j : Int) + 1), .int .u32 0, .string ⟨#[112, 97, 114, 116]⟩] 33) = wA at *
      generalize hpt : (⟨#[112, 97, 114, 116]⟩ : ByteArray) = pt at *
      have tA : RunG ((wr.heap.size, .cells #[.int .i64 2, .int .u32 ((j : Int) + 1), .int .u32 0, .string pt] 33 (0, 0)) :: X) w2 wA tb g ib ic h q P S n m (devF P S n (runB P m frP) k0) j c' u' v' := ⟨HRU.out.1, TpS.addX HRU.out.2 hkA wr.heap.size _ (Nat.le_refl _) hXA⟩
      have hap := gun_append hR HMS.out hm2 tA (by have := HNM.out; omega) (HFO.out j hlt).1 k0 hk0 HGO.out
      have hfr := frP_v j
      rw [hpt] at hfr
      have HFR := Lib.hid hfr
      obtain ⟨z1, z2, z3, z4⟩ := hfr
      rw [z1, z2, z3, z4] at hap
      unfold GunPost at hap
      have HAP := Lib.hid hap
      have TA := Lib.hid tA
      have HOA := Lib.hid (own_keep hown hkA)
      obtain ⟨n1, n2, n3, n4⟩ := (show _ ∧ _ ∧ _ ∧ _ from hXA.c4g)
      clear hap tA z1 z2 z3 z4 hown hpt
      go_wp2_with fail
      refine (HAP.out).mono ?_
      rintro e w7 ⟨rfl, c8, u8, v8, hlo, t8⟩
      have T8 := Lib.hid t8
      have hX7 : Bk w7 wr.heap.size 33 [.int .i64 2, .int .u32 ((j : Int) + 1), .int .u32 0, .string pt] := (t8.2.watch _ (List.mem_cons_self ..)).1
      have ho7 := own_seen TA.out.2 t8.2 (HSE.out.more _) HOA.out
      have hk7 := t8.2.fl.kp
      have hY := Bk.new w7 33 [.int .i64 2, .int .u32 ((j : Int) + 1), .int .u32 0, .string pt]
      have hky := Kp.one w7 (.cells #[.int .i64 2, .int .u32 ((j : Int) + 1), .int .u32 0, .string pt] 33)
      have hkz := hk7.trans hky
      have HOY := Lib.hid (own_keep ho7 hky)
      have HTY := Lib.hid (t8.2.keep hky)
      have HLO := Lib.hid hlo
      clear t8 ho7 n1 n2 n3 n4 HAP TA HOA hlo
      obtain ⟨n1, n2, n3, n4⟩ := (show _ ∧ _ ∧ _ ∧ _ from hX7.c4g)
      have hcase : (((j : Int) == (n0 : Int) - 1) = true ∧ j + 1 = n0) ∨ (((j : Int) == (n0 : Int) - 1) = false ∧ j + 1 ≠ n0) := by
        by_cases hh : j + 1 = n0
        · exact Or.inl ⟨by simp; omega, hh⟩
        · exact Or.inr ⟨by simp; omega, hh⟩
      rcases hcase with ⟨hb, hjn⟩ | ⟨hb, hjn⟩
      all_goals
        have HJN := Lib.hid hjn
        clear hjn
        go_wp2_with (at_builtin; refine wpList_app (w0 := w2) rfl _ _ _ rfl (.agg #[.int .i64 0, .int .u32 0, .int .u32 0, .string ⟨#[]⟩]) 32 Try.underlying29 info_frm rfl (by decide) (by decide) rfl HOY.out (some ⟨w7.heap.size, 0, none⟩) 1 1 [.int .i64 2, .int .u32 ((j : Int) + 1), .int .u32 0, .string pt] rfl rfl (src_bk hY) (by simp [Value.oneCell']) (by omega) hkz ?_; intro v1 w8 hown1 hkp1 hg1 hat1; obtain ⟨X9, t9, s9⟩ := TpS.app HTY.out (HSE.out.more _) HOY.out (Nat.le_refl _) hg1 hown1 hat1; obtain ⟨A3, c3, rfl⟩ := own_slice hown1; have HO1 := Lib.hid hown1; have T9 := Lib.hid t9; have S9 := Lib.hid s9; clear hown1 hg1 hat1 t9 s9)
      · obtain rfl : k0 = 0 := HFU.out.1 (by have := HJN.out; omega)
        refine (tflush T9.out).mono ?_
        rintro e w9 ⟨rfl, v9, t9⟩
        have ho9 := own_seen T9.out t9 S9.out HO1.out
        rw [devF_flush] at t9
        have TX := Lib.hid t9
        have HO9 := Lib.hid ho9
        clear t9 ho9
        go_wp2_with fail
        go_roundw
        case rel => exact ⟨j + 1, c8, u8, v9, X9, lim m c8 u8, by have := HNE.out; omega, Nat.le_refl _, by go_num, ⟨T8.out.1, TX.out⟩, by rw [frsF_snoc, HFR.out.1, HFR.out.2.1, HFR.out.2.2.1, HFR.out.2.2.2]; exact HO9.out, S9.out, ⟨fun hh => by have := HJN.out; omega, fun hh => ⟨c8, u8, by rw [← HJN.out]; exact T8.out.1, rfl⟩⟩⟩
        case measure => simp [intOf]; omega
      · go_roundw
        case rel => exact ⟨j + 1, c8, u8, v8, X9, k0, by have := HNE.out; omega, HLO.out, by go_num, ⟨T8.out.1, T9.out⟩, by rw [frsF_snoc, HFR.out.1, HFR.out.2.1, HFR.out.2.2.1, HFR.out.2.2.2]; exact HO1.out, S9.out, ⟨fun hh => HFU.out.1 (by omega), fun hh => HFU.out.2 (by have := HJN.out; omega)⟩⟩
        case measure => simp [intOf]; omega
    · obtain rfl : j = N := by omega
      obtain ⟨D9, hD9⟩ : ∃ D9, D9 = crashD P (devF P S n (runB P m frP) k0 (lim m c' u')) ts := ⟨_, rfl⟩
      have hdn : D9.down = false := by rw [hD9]; rfl
      have HDN := Lib.hid hdn
      have hpt := pgT_of hR HMS.out (by omega) HRU.out.1 HNM.out HFT.out k0 hk0 ts
      rw [← hD9] at hpt
      have HTR := Lib.hid (fun i hi => torn_reg hR (by omega) HRU.out.1 HFO.out hpt i hi)
      have htf : n0 ≤ (regF ((0 : Nat) : Int) (rowP m (fun j => heldD D9 P (j : Int)) 0)).fs.length := by
        obtain ⟨c0, u0, h1, h2⟩ := HFU.out.2 hnN
        rw [h2] at hpt
        exact torn_first hR (by omega) (by omega) h1 hnN (by omega) HFO.out hpt
      have HTF := Lib.hid htf
      have hMk : NumsAt .i64 wr A2 ts := H2.keep (hK2.trans hkr)
      have hAk : 0 < ts.length → ∀ q, A2 = some q → q.block < w2.heap.size := fun h1 q h2 => by
        obtain ⟨b2, off2, e2, hc2⟩ := H2.2 h1
        have hb1 := World.block_lt_of_cell? _ _ (hc2 0 h1)
        have hb2 := hK2.size
        rw [e2] at h2
        injection h2 with h2
        rw [← h2]
        dsimp only at hb1 ⊢
        omega
      have hCS := tcrash HRU.out.2 A2 c2 ts hMk hAk (fun x hx => bounds_i64 (w2' x hx))
      rw [← hD9] at hCS
      have HCS := Lib.hid hCS
      have HOW := Lib.hid hown
      obtain ⟨wp, hwp⟩ : ∃ wp, wp = wr := ⟨_, rfl⟩
      subst hwp
      clear hCS hMk hAk htf hpt hdn hD9 hown HGO HFU hk0
      go_wp2_with fail
      refine (HCS.out).mono ?_
      rintro e wf ⟨rfl, v9, t9⟩
      have SE := Lib.hid (sc_end2 t9 HDN.out (own_seen HRU.out.2 t9 HSE.out HOW.out))
      clear t9 HCS HRU HSE HOW HCR
      go_wp2_with fail
      refine (sc_all SE.out HMS.out).mono ?_
      generalize (fun j : Nat => heldD D9 P (j : Int)) = f at *
      rintro e wa ⟨v3, l3, rfl, hl3, hF3, hk3⟩
      have SEA := Lib.hid (SE.out.keep hk3)
      have hn3 : l3.length = n := by rw [← List.length_map (f := Prod.fst), hl3]; simp [scL]
      obtain ⟨hO3, hR3⟩ := hF3
      rw [hn3] at hO3
      obtain ⟨q3, c3', e3, C3⟩ := fd_cells hO3 hn3 (by omega)
      have HC3 := Lib.hid C3
      have HR3 := Lib.hid hR3
      have HL3 := Lib.hid hl3
      have HN3 := Lib.hid hn3
      rw [e3]
      have hka := SEA.out.fl.kp
      have HCA := Lib.hid (fun W' (k : Kp wa W') => HC.out W' (hka.trans k))
      clear hO3 hR3 hl3 hn3 e3 C3 hk3
      obtain ⟨c0, c1, c2⟩ := HCA.out _ (Kp.refl _)
      go_wp2_with fail
      clear c0 c1 c2
      have hNn : IntKind.i64.wrap ((j : Int) - 1) = (j : Int) - 1 := IntWalk.i64_in _ (by omega)
      go_loopw [17, 18] (fun kv iv wr => ScK wa n m j kv iv wr) (fun _ iv _ => n - (intOf iv).toNat)
      case atStart => exact ⟨0, 0, by omega, by omega, rfl, rfl, Kp.refl _⟩
      case round =>
        obtain ⟨i, kc, hi, hkc, rfl, rfl, hKr⟩ := hrel
        by_cases hlt2 : i < n
        · have hil : i < l3.length := by rw [HN3.out]; exact hlt2
          have hfe : l3[i].1 = regF (i : Int) (rowP m f i) := by
            have a1 : (l3.map Prod.fst)[i]? = some l3[i].1 := by rw [List.getElem?_map, List.getElem?_eq_getElem hil]; rfl
            rw [HL3.out, scL_get i hlt2] at a1
            exact (Option.some.inj a1).symm
          have o3 := HR3.out _ (List.getElem_mem hil)
          have HCK := Lib.hid (fun W' (kk : Kp wa W') => HC3.out W' kk i hil)
          rw [hfe] at o3 HCK
          obtain ⟨tl, tr⟩ := HTR.out i hlt2
          have tf : i = 0 → n0 ≤ (regF (i : Int) (rowP m f i)).fs.length := fun e => by subst e; exact HTF.out
          clear hfe
          generalize regF (i : Int) (rowP m f i) = F at *
          obtain ⟨rg, ep, fs, cl⟩ := F
          dsimp only at o3 HCK tl tr tf
          obtain ⟨A6, c6, e6⟩ := own_slice o3
          rw [e6] at HCK o3
          have HO3 := Lib.hid o3
          have HTL := Lib.hid (And.intro tl tr)
          have hcase : (((i : Int) == 0) = true ∧ ¬ ((fs.length : Int) < (n0 : Int))) ∨ (((i : Int) == 0) = false ∧ True) := by
            by_cases hh : i = 0
            · exact Or.inl ⟨by simp [hh], by have := tf hh; omega⟩
            · exact Or.inr ⟨by simp; omega, trivial⟩
          obtain ⟨x0, x1, x2, x3⟩ := HCK.out _ hKr
          have qi : IntKind.i64.wrap ((i : Int) + 1) = (i : Int) + 1 := IntWalk.i64_in _ (by omega)
          have qi3 : IntKind.u32.wrap ((i : Int) + 1) = (i : Int) + 1 := IntWalk.u32_in _ (by omega)
          have hin : (i : Int) < (n : Int) := by omega
          have hi60 : i * m ≤ 60 := Nat.le_trans (Nat.mul_le_mul (by omega : i ≤ 12) hm5) (by omega)
          have hmiI : ((i * m : Nat) : Int) = (m : Int) * (i : Int) := by rw [Int.mul_comm]; exact Int.natCast_mul i m
          have hnx : (i + 1) * m = i * m + m := Nat.succ_mul i m
          obtain ⟨mi, hmi⟩ : ∃ mi, mi = i * m := ⟨_, rfl⟩
          rw [← hmi] at hi60 hmiI hnx hkc HTL
          have qmi : IntKind.i64.wrap ((m : Int) * (i : Int)) = (mi : Int) := by rw [← hmiI]; exact IntWalk.i64_in _ (by omega)
          have HNX := Lib.hid hnx
          clear tl tr tf o3 e6 hmi hmiI hnx
          obtain ⟨wo, hwo⟩ : ∃ wo, wo = wr := ⟨_, rfl⟩
          subst hwo
          rcases hcase with ⟨hb, hb2⟩ | ⟨hb, hb2⟩
          all_goals
            go_wp2_with fail
            clear x0 x1 x2 x3
            go_loopw [17, 19] (fun kv jv wr => ScM wa fs.length kc kv jv wr) (fun _ jv _ => fs.length - (intOf jv).toNat)
            case atStart => exact ⟨0, by omega, rfl, by simp, hKr⟩
            case round =>
              obtain ⟨x, hx, rfl, rfl, hKx⟩ := hrel
              obtain ⟨x0, x1, x2, x3⟩ := HCK.out _ hKx
              by_cases hlt3 : x < fs.length
              · obtain ⟨ht1, ht2⟩ := HTL.out
                obtain ⟨rfl, u2, u3⟩ := ht2 x hlt3
                obtain ⟨q6, k6, f6, C6⟩ := fr_cells HO3.out rfl (by omega)
                injection f6 with f6
                subst f6
                obtain ⟨q7, k7, f7, C7⟩ := fr_cells SEA.out.row (frsF_len _ _ _) (by omega)
                injection f7 with f7
                subst f7
                obtain ⟨y, hy⟩ : ∃ y, y = mi + x := ⟨_, rfl⟩
                have hD6 := fun W' (kk : Kp wa W') => C6 W' kk x hlt3
                have hD7 := fun W' (kk : Kp wa W') => C7 W' kk y (by rw [frsF_len]; omega)
                rw [u2, ← hy] at hD6
                simp only [frsF_get, Nat.zero_add] at hD7
                unfold toFr frP at hD6 hD7
                dsimp only at hD6 hD7
                have HD6 := Lib.hid hD6
                have HD7 := Lib.hid hD7
                have qmx : IntKind.i64.wrap ((mi : Int) + (x : Int)) = (y : Int) := by rw [IntWalk.i64_in _ (by omega)]; omega
                have qx : IntKind.i64.wrap ((x : Int) + 1) = (x : Int) + 1 := IntWalk.i64_in _ (by omega)
                have qkx : IntKind.i64.wrap ((kc : Int) + (x : Int) + 1) = (kc : Int) + (x : Int) + 1 := IntWalk.i64_in _ (by omega)
                have hyj : (y : Int) ≤ (j : Int) - 1 := by omega
                have hyj2 : y < j := by omega
                have hmin : min (y : Int) ((j : Int) - 1) = (y : Int) := by omega
                have hx3 : (x : Int) < (fs.length : Int) := by omega
                have hbe : ((⟨#[112, 97, 114, 116]⟩ : ByteArray).toList == (⟨#[112, 97, 114, 116]⟩ : ByteArray).toList) = true := by simp
                clear hD6 hD7 C6 C7 u2 u3 ht1 ht2 hy x0 x1 x2 x3
                obtain ⟨x0, x1, x2, x3⟩ := HCK.out _ hKx
                go_upto_region 29 with fail
                have hInh := fun (x v : Value) => (⟨fun h => h _ ((Kp.refl _).drew), fun h _ _ => h⟩ : (∀ Wz9, (fun W' => Kp wr W') Wz9 → x = v) ↔ x = v)
                dsimp only at hInh
                refine wp_region_quietC (C := fun W' => Kp wr W') (by kernel_rfl) (by kernel_rfl) ((Kp.refl _).drew) ?_
                repeat (first | go_big_quiet_step ((intro hW; first | (go_at_call 23; refine (HSL.out _).mono ?_; rintro e w' ⟨rfl, hk9⟩; exact ⟨rfl, hW.trans hk9⟩) | (with_reducible rfl) | (obtain ⟨c0, c1, c2⟩ := HCA.out _ (hKx.trans hW); obtain ⟨x0, x1, x2, x3⟩ := HCK.out _ (hKx.trans hW); obtain ⟨y0, y1, y2, y3⟩ := HD6.out _ (hKx.trans hW); obtain ⟨z0, z1, z2, z3⟩ := HD7.out _ (hKx.trans hW); (try go_simp); first | done | with_reducible rfl | exact ⟨rfl, rfl⟩))) | quiet_step ((intro hW; first | (go_at_call 23; refine (HSL.out _).mono ?_; rintro e w' ⟨rfl, hk9⟩; exact ⟨rfl, hW.trans hk9⟩) | (with_reducible rfl) | (obtain ⟨c0, c1, c2⟩ := HCA.out _ (hKx.trans hW); obtain ⟨x0, x1, x2, x3⟩ := HCK.out _ (hKx.trans hW); obtain ⟨y0, y1, y2, y3⟩ := HD6.out _ (hKx.trans hW); obtain ⟨z0, z1, z2, z3⟩ := HD7.out _ (hKx.trans hW); (try go_simp); first | done | with_reducible rfl | exact ⟨rfl, rfl⟩))))
                refine wpQuiet_nil ?_
                intro wq hwq
                clear hInh
                go_wp2_with fail
                go_roundw
                case rel => exact ⟨x + 1, by omega, by go_num, by congr 1, hKx.trans hwq⟩
                case measure => simp [intOf]; omega
              · obtain rfl : x = fs.length := by omega
                have hbd : kc + fs.length ≤ min j ((i + 1) * m) := by
                  obtain ⟨ht1, ht2⟩ := HTL.out
                  have := HNX.out
                  by_cases hz : fs.length = 0
                  · omega
                  · obtain ⟨-, -, u3⟩ := ht2 (fs.length - 1) (by omega)
                    omega
                have HBD := Lib.hid hbd
                clear hbd
                go_wp2_with fail
                go_roundw
                case rel => exact ⟨i + 1, kc + fs.length, by omega, HBD.out, by go_num, by congr 1, hKx⟩
                case measure => simp [intOf]; omega
        · have hkcN : (kc : Int) ≤ (j : Int) := by omega
          have hkF := hK2.trans (hka.trans hKr)
          go_wp2_with fail
          go_ret
          exact ⟨rfl, hkF⟩
end Go.Proofs.Ytecelmhiffcaeaa
