/- Merged texts: LawScan3. -/
import Derived.Test.YtecelmhiffcaeaaGT
import Derived.Test.YtecelmhiffcaeaaGP
set_option linter.unusedSimpArgs false
set_option linter.unusedVariables false
/- The walk of ScanPages. -/
namespace Go.Proofs.Ytecelmhiffcaeaa
open Go.RowKit
set_option linter.unusedVariables false
set_option maxRecDepth 20000
theorem fbS_le {p s r : Int} (hR : RightG p s r) (k a b : Int) (t : ByteArray) (ha : 0 ≤ a ∧ a ≤ 4294967295) (hb : 0 ≤ b ∧ b ≤ 4294967295) : ((fbS p s r k a b t).1.size : Int) ≤ p := by
  obtain ⟨r1, r2, r3, r4, r5, r6⟩ := id hR
  unfold fbS
  split
  · show ((0 : Nat) : Int) ≤ p; omega
  · split
    · show ((0 : Nat) : Int) ≤ p; omega
    · split
      · show ((0 : Nat) : Int) ≤ p; omega
      · rename_i h1 h2 h3
        have := pageS_size (n := p) (k := k) (a := a) (b := b) (t := t) ⟨r1, r2, by omega, by omega, ha.1, ha.2, hb.1, hb.2, by omega⟩
        dsimp only
        omega
theorem bput4 {w w1 : World} {g : Nat} {t : TypeId} {a b c d : Value} (h : Bk w1 g t [a, b, c, d]) (hK : Kp w w1) (hg : w.heap.size ≤ g) (x y z u : Value) :
    Bk ((((w1.setCell ⟨g, 0, none⟩ x).setCell ⟨g, 1, none⟩ y).setCell ⟨g, 2, none⟩ z).setCell ⟨g, 3, none⟩ u) g t [x, y, z, u] ∧ Kp w ((((w1.setCell ⟨g, 0, none⟩ x).setCell ⟨g, 1, none⟩ y).setCell ⟨g, 2, none⟩ z).setCell ⟨g, 3, none⟩ u) :=
  ⟨(((h.put 0 x).put 1 y).put 2 z).put 3 u, (((hK.set hg _).set hg _).set hg _).set hg _⟩
/-- The loop of pages: what is made is not too long. -/
def PgI (w2 : World) (P S n : Int) (L : Nat) (sv iv : Value) (wr : World) : Prop :=
  ∃ (k : Nat) (Sx : ByteArray), k ≤ L ∧ (k : Int) ≤ S * n ∧ iv = .int .i64 k ∧ sv = .string Sx ∧ (Sx.size : Int) ≤ (k : Int) * P ∧ Kp w2 wr
/-- The loop that turns bytes. -/
def BentI (w2 : World) (sz tl g : Nat) (iv : Value) (wr : World) : Prop :=
  ∃ (q : Nat) (Z : ByteArray), q ≤ 3 ∧ q ≤ tl ∧ iv = .int .i64 q ∧ Z.size = sz ∧ By wr g (sb Z) ∧ Kp w2 wr
set_option maxHeartbeats 12800000 in
theorem ScanPages_walk (w : World) (p s r : Int) (wp : (Lit.int .i64 p).wf = true) (ws : (Lit.int .i64 s).wf = true) (wr : (Lit.int .i64 r).wf = true) (A : Option Addr) (c : Nat) (xs : List Fr) (H : FrmAt w A xs) (hw : FrmOk xs) (A2 : Option Addr) (c2 : Nat) (ts : List Int) (H2 : NumsAt .i64 w A2 ts) (l2 : ts.length * 8 ≤ 140737488351232) (w2' : ∀ x ∈ ts, (Lit.int .i64 x).wf = true) (yb : Int) (wy : (Lit.int .u8 yb).wf = true) :
    Calls Try.prog 4 #[geo p s r, .slice A xs.length c, .slice A2 ts.length c2, .int .u8 yb] w fun e w' => e = .returned (.bool true) ∧ Kp w w' := by
  have bp := bounds_i64 wp
  have bs := bounds_i64 ws
  have br := bounds_i64 wr
  have by8 := bounds_u8 wy
  clear wp ws wr wy
  obtain ⟨P, S, n, hP, hS, hn, hR, hn7, hS6, hP64⟩ := small_geom p s r
  have HGE := Lib.hid (fun w => bgeom_any p s r bp bs br w)
  rw [hP, hS, hn] at HGE
  clear hP hS hn bp bs br
  obtain ⟨r1, r2, r3, r4, r5, r6⟩ := id hR
  obtain ⟨m1, m2, m3, m4⟩ := mul3 hR
  obtain ⟨s1, s2, s3⟩ := mul_sr hR
  have hlx := H.1
  have q0 : IntKind.i64.wrap (S * n) = S * n := IntWalk.i64_in _ (by omega)
  have HRM := Lib.hid (fun W => rroom_any P S n hR W)
  have HFB := Lib.hid (fun k a b t ht ha hb W => rfbytes_any P S n k a b t ht ha hb W)
  have HLE := Lib.hid (fun k a b t ha hb => fbS_le hR k a b t ha hb)
  go_enter Try.func4, Try.ntmps4
  go_wp2_with fail
  refine (HGE.out _).mono ?_
  rintro e w1 ⟨rfl, hk1⟩
  have hB := (Bk.new w 23 [.int .i64 p, .int .i64 s, .int .i64 r]).keep hk1
  have hK := (Kp.one w (.cells [.int .i64 p, .int .i64 s, .int .i64 r].toArray 23)).trans hk1
  clear hk1
  obtain ⟨c0, c1, c2⟩ := hB.c3g
  have f0 := hB.free 0
  have f1 := hB.free 1
  have f2 := hB.free 2
  go_wp2_with fail
  obtain ⟨hB2, hK2⟩ := put3 hB hK (Nat.le_refl _) (.int .i64 P) (.int .i64 S) (.int .i64 n)
  clear c0 c1 c2 f0 f1 f2 hB hK
  generalize ((w1.setCell ⟨w.heap.size, 0, none⟩ (.int .i64 P)).setCell ⟨w.heap.size, 1, none⟩ (.int .i64 S)).setCell ⟨w.heap.size, 2, none⟩ (.int .i64 n) = w2 at *
  have HC := Lib.hid (fun W' (k : Kp w2 W') => (hB2.keep k).c3g)
  go_loopw [9, 10] (fun sv iv wr => PgI w2 P S n xs.length sv iv wr) (fun _ iv _ => xs.length - (intOf iv).toNat)
  case atStart => exact ⟨0, ⟨#[]⟩, by omega, by omega, rfl, rfl, by show ((0 : Nat) : Int) ≤ _; omega, Kp.refl _⟩
  case round =>
    obtain ⟨k, Sx, hk, hkn, rfl, rfl, hSx, hKr⟩ := hrel
    have hKr0 := hK2.trans hKr
    obtain ⟨c0, c1, c2⟩ := (show _ ∧ _ ∧ _ from HC.out _ hKr)
    by_cases hlt : k < xs.length ∧ (k : Int) < S * n
    · obtain ⟨hlt1, hlt2⟩ := hlt
      have d1 : (k : Int) < (xs.length : Int) := by omega
      have q5 : IntKind.i64.wrap ((k : Int) + 1) = (k : Int) + 1 := IntWalk.i64_in _ (by omega)
      obtain ⟨b, off, rfl, hc⟩ := H.2 (by omega)
      obtain ⟨x0, x1, x2, x3⟩ := hc k hlt1
      have y0 := hKr0.cell x0
      have y1 := hKr0.cell x1
      have y2 := hKr0.cell x2
      have y3 := hKr0.cell x3
      obtain ⟨o1, o2, o3, o4⟩ := hw _ (List.getElem_mem hlt1)
      clear x0 x1 x2 x3 hc
      generalize xs[k] = x at *
      obtain ⟨xk, xa, xb, xt⟩ := x
      dsimp only at *
      have HPK := Lib.hid (fun W => pick_any xk 4 (by omega) (by omega) o1.1 o1.2 W)
      have hkd : 0 ≤ xk % 4 ∧ xk % 4 ≤ 3 := by omega
      generalize xk % 4 = z4 at *
      have q6 : IntKind.i64.wrap (1 + z4) = 1 + z4 := IntWalk.i64_in _ (by omega)
      have hX := Bk.new wr 33 [.int .i64 xk, .int .u32 xa, .int .u32 xb, .string xt]
      obtain ⟨n0, n1, n2, n3⟩ := (show _ ∧ _ ∧ _ ∧ _ from hX.c4g)
      go_wp2_with fail
      refine (HPK.out _).mono ?_
      rintro e w5 ⟨rfl, rfl⟩
      have fX := hX.free 0
      go_upto_region 8 with fail
      have hX5 := Bk.new wr 33 [.int .i64 (1 + z4), .int .u32 xa, .int .u32 xb, .string xt]
      have hK5 := Kp.one wr (.cells #[.int .i64 (1 + z4), .int .u32 xa, .int .u32 xb, .string xt] 33)
      have hX5 : Bk (wr.alloc (.cells #[.int .i64 (1 + z4), .int .u32 xa, .int .u32 xb, .string xt] 33)) wr.heap.size 33 [.int .i64 (1 + z4), .int .u32 xa, .int .u32 xb, .string xt] := hX5
      have hkd2 : 1 ≤ 1 + z4 ∧ 1 + z4 ≤ 4 := by omega
      generalize 1 + z4 = kd at *
      generalize wr.alloc (.cells #[.int .i64 kd, .int .u32 xa, .int .u32 xb, .string xt] 33) = w5 at *
      have HX8 := Lib.hid (fun W' (kk : Kp w5 W') => (show _ ∧ _ ∧ _ ∧ _ from (hX5.keep kk).c4g))
      have HC8 := Lib.hid (fun W' (kk : Kp w5 W') => (show _ ∧ _ ∧ _ from HC.out W' ((hKr.trans hK5).trans kk)))
      obtain ⟨N, hN⟩ : ∃ N : Nat, P - 15 = (N : Int) := ⟨(P - 15).toNat, by omega⟩
      have HRN := HRM
      rw [hN] at HRN
      have HSH := Lib.hid (fun W => short_any xt N o4 (by omega) W)
      have hst : (xt.extract 0 N).size ≤ 9223372036854775807 := by rw [ByteArray.size_extract]; omega
      generalize xt.extract 0 N = st at *
      clear hX n0 n1 n2 n3 fX y0 y1 y2 y3 c0 c1 c2
      have hInh := fun (x v : Value) => (⟨fun h => h _ ((Kp.refl _).drew), fun h _ _ => h⟩ : (∀ Wz9, (fun W' => Kp w5 W') Wz9 → x = v) ↔ x = v)
      dsimp only at hInh
      refine wp_region_head 6 (C := fun W' => Kp w5 W') (by kernel_rfl) (by kernel_rfl) ((Kp.refl _).drew) ?_
      simp only [List.take_succ_cons, List.take_zero, List.drop_succ_cons, List.drop_zero]
      repeat (first | go_big_quiet_step ((intro hW; first | (first | (go_at_call 14; refine (HRN.out _).mono ?_; rintro e w' ⟨rfl, rfl⟩; exact ⟨rfl, hW.trans (Kp.one _ _)⟩) | (go_at_call 11; refine (HSH.out _).mono ?_; rintro e w' ⟨rfl, rfl⟩; exact ⟨rfl, hW⟩)) | (with_reducible rfl) | (obtain ⟨c0, c1, c2⟩ := HC8.out _ hW; obtain ⟨n0, n1, n2, n3⟩ := HX8.out _ hW; (try go_simp); first | done | with_reducible rfl | exact ⟨rfl, rfl⟩))) | quiet_step ((intro hW; first | (first | (go_at_call 14; refine (HRN.out _).mono ?_; rintro e w' ⟨rfl, rfl⟩; exact ⟨rfl, hW.trans (Kp.one _ _)⟩) | (go_at_call 11; refine (HSH.out _).mono ?_; rintro e w' ⟨rfl, rfl⟩; exact ⟨rfl, hW⟩)) | (with_reducible rfl) | (obtain ⟨c0, c1, c2⟩ := HC8.out _ hW; obtain ⟨n0, n1, n2, n3⟩ := HX8.out _ hW; (try go_simp); first | done | with_reducible rfl | exact ⟨rfl, rfl⟩))))
      refine wpQuiet_nil ?_
      intro wq hwq
      clear hInh
      have hXq := hX5.keep hwq
      have f3 := hXq.free 3
      obtain ⟨n0, n1, n2, n3⟩ := (show _ ∧ _ ∧ _ ∧ _ from hXq.c4g)
      obtain ⟨z, hz⟩ : ∃ z, z = (k : Int).tmod S := ⟨_, rfl⟩
      obtain ⟨y, hy⟩ : ∃ y, y = (k : Int).tdiv S := ⟨_, rfl⟩
      have hzm := Int.tmod_eq_emod_of_nonneg (a := (k : Int)) (b := S) (by omega)
      have hym := Int.tdiv_eq_ediv_of_nonneg (a := (k : Int)) (b := S) (by omega)
      have hz1 : (k : Int).tmod S = z := hz.symm
      have hz2 : (k : Int) % S = z := by rw [← hzm]; exact hz.symm
      have hy1 : (k : Int).tdiv S = y := hy.symm
      have hy2 : (k : Int) / S = y := by rw [← hym]; exact hy.symm
      have hzb : 0 ≤ z ∧ z < S := by
        rw [← hz2]
        exact ⟨Int.emod_nonneg _ (by omega), Int.emod_lt_of_pos _ (by omega)⟩
      have hyb : 0 ≤ y ∧ y ≤ 120 := by
        rw [← hy2]
        exact ⟨Int.ediv_nonneg (by omega) (by omega), Int.le_trans (Int.ediv_le_self _ (by omega)) (by omega)⟩
      clear hz hy hzm hym
      have dS : (S == 0) = false := by simp; omega
      have qz : IntKind.i64.wrap z = z := IntWalk.i64_in _ (by omega)
      have qy : IntKind.i64.wrap y = y := IntWalk.i64_in _ (by omega)
      have qy3 : IntKind.u32.wrap y = y := IntWalk.u32_in _ (by omega)
      have hkP : (k : Int) * P ≤ 120 * 128 := Int.mul_le_mul (by omega) (by omega) (by omega) (by omega)
      go_upto_region 9 with fail
      have hX9 := hXq.put 3 (.string st)
      have hK9 := (hK5.trans hwq).set (p := ⟨wr.heap.size, 3, none⟩) (Nat.le_refl _) (.string st)
      have hX9 : Bk _ wr.heap.size 33 [.int .i64 kd, .int .u32 xa, .int .u32 xb, .string st] := hX9
      generalize wq.setCell ⟨wr.heap.size, 3, none⟩ (.string st) = w9 at *
      clear n0 n1 n2 n3 f3 hXq hwq HX8 HC8 HSH HRN hX5 hK5
      have HX9 := Lib.hid (fun W' (kk : Kp w9 W') => (show _ ∧ _ ∧ _ ∧ _ from (hX9.keep kk).c4g))
      have HC9 := Lib.hid (fun W' (kk : Kp w9 W') => (show _ ∧ _ ∧ _ from HC.out W' ((hKr.trans hK9).trans kk)))
      obtain ⟨n0, n1, n2, n3⟩ := (show _ ∧ _ ∧ _ ∧ _ from hX9.c4g)
      obtain ⟨c0, c1, c2⟩ := (show _ ∧ _ ∧ _ from HC.out _ (hKr.trans hK9))
      have hcase : (z == 0) = false ∨ ((z == 0) = true ∧ (kd != 4) = false) ∨ ((z == 0) = true ∧ (kd != 4) = true) := by
        rcases hx1 : (z == 0) with _ | _
        · exact Or.inl rfl
        · rcases hx2 : (kd != 4) with _ | _
          · exact Or.inr (Or.inl ⟨rfl, rfl⟩)
          · exact Or.inr (Or.inr ⟨rfl, rfl⟩)
      rcases hcase with hb1 | ⟨hb1, hb2⟩ | ⟨hb1, hb2⟩
      · clear n0 n1 n2 n3 c0 c1 c2
        obtain ⟨n0, n1, n2, n3⟩ := (show _ ∧ _ ∧ _ ∧ _ from hX9.c4g)
        obtain ⟨c0, c1, c2⟩ := (show _ ∧ _ ∧ _ from HC.out _ ((hKr.trans hK9)))
        go_wp2_with fail
        refine (HFB.out kd xa xb st hst o2 o3 _).mono ?_
        have hle := HLE.out kd xa xb st o2 o3
        generalize fbS P S (n : Int) kd xa xb st = fb at *
        obtain ⟨fbs, fbc⟩ := fb
        dsimp only at hle ⊢
        rintro e w10 ⟨rfl, hk10⟩
        have hcc : Sx.size + fbs.size ≤ 9223372036854775807 := by omega
        have hres : ((Sx ++ fbs).size : Int) ≤ ((k + 1 : Nat) : Int) * P := by
          rw [ByteArray.size_append, show ((k + 1 : Nat) : Int) = (k : Int) + 1 by omega, Int.add_mul]
          omega
        have HRES := Lib.hid hres
        clear hres hSx
        go_wp2_with fail
        go_roundw
        case rel => exact ⟨k + 1, Sx ++ fbs, by omega, by omega, by go_num, rfl, HRES.out, (hKr.trans hK9).trans hk10⟩
        case measure => simp [intOf]; omega
      · clear n0 n1 n2 n3 c0 c1 c2
        obtain ⟨n0, n1, n2, n3⟩ := (show _ ∧ _ ∧ _ ∧ _ from hX9.c4g)
        obtain ⟨c0, c1, c2⟩ := (show _ ∧ _ ∧ _ from HC.out _ ((hKr.trans hK9)))
        go_wp2_with fail
        refine (HFB.out kd xa xb st hst o2 o3 _).mono ?_
        have hle := HLE.out kd xa xb st o2 o3
        generalize fbS P S (n : Int) kd xa xb st = fb at *
        obtain ⟨fbs, fbc⟩ := fb
        dsimp only at hle ⊢
        rintro e w10 ⟨rfl, hk10⟩
        have hcc : Sx.size + fbs.size ≤ 9223372036854775807 := by omega
        have hres : ((Sx ++ fbs).size : Int) ≤ ((k + 1 : Nat) : Int) * P := by
          rw [ByteArray.size_append, show ((k + 1 : Nat) : Int) = (k : Int) + 1 by omega, Int.add_mul]
          omega
        have HRES := Lib.hid hres
        clear hres hSx
        go_wp2_with fail
        go_roundw
        case rel => exact ⟨k + 1, Sx ++ fbs, by omega, by omega, by go_num, rfl, HRES.out, (hKr.trans hK9).trans hk10⟩
        case measure => simp [intOf]; omega
      · have hrm := Int.tmod_eq_emod_of_nonneg (a := xa) (b := 20) (by omega)
        have hrb : 0 ≤ xa % 20 ∧ xa % 20 ≤ 19 := by omega
        obtain ⟨ra, hra⟩ : ∃ ra, ra = xa % 20 := ⟨_, rfl⟩
        have hr1 : xa.tmod 20 = ra := hrm.trans hra.symm
        have hr2 : xa % 20 = ra := hra.symm
        rw [hr2] at hrb
        clear hra hrm
        have qr : IntKind.u32.wrap ra = ra := IntWalk.u32_in _ (by omega)
        have qr1 : IntKind.u32.wrap (1 + ra) = 1 + ra := IntWalk.u32_in _ (by omega)
        have he : (⟨#[]⟩ : ByteArray).size ≤ 9223372036854775807 := by decide
        go_upto_region 10 with fail
        have hInh := fun (x v : Value) => (⟨fun h => h _ ((Kp.refl _).drew), fun h _ _ => h⟩ : (∀ Wz9, (fun W' => Kp w9 W') Wz9 → x = v) ↔ x = v)
        dsimp only at hInh
        refine wp_region_head 10 (C := fun W' => Kp w9 W') (by kernel_rfl) (by kernel_rfl) ((Kp.refl _).drew) ?_
        simp only [List.take_succ_cons, List.take_zero, List.drop_succ_cons, List.drop_zero]
        repeat (first | go_big_quiet_step ((intro hW; first | fail | (with_reducible rfl) | (obtain ⟨c0, c1, c2⟩ := HC9.out _ hW; obtain ⟨n0, n1, n2, n3⟩ := HX9.out _ hW; (try go_simp); first | done | with_reducible rfl | exact ⟨rfl, rfl⟩))) | quiet_step ((intro hW; first | fail | (with_reducible rfl) | (obtain ⟨c0, c1, c2⟩ := HC9.out _ hW; obtain ⟨n0, n1, n2, n3⟩ := HX9.out _ hW; (try go_simp); first | done | with_reducible rfl | exact ⟨rfl, rfl⟩))))
        refine wpQuiet_nil ?_
        intro wq hwq
        clear hInh
        have hXr := hX9.keep hwq
        obtain ⟨f0, f1, f2, f3⟩ := (⟨hXr.free 0, hXr.free 1, hXr.free 2, hXr.free 3⟩ : _ ∧ _ ∧ _ ∧ _)
        obtain ⟨n0, n1, n2, n3⟩ := (show _ ∧ _ ∧ _ ∧ _ from hXr.c4g)
        go_upto_region 11 with fail
        obtain ⟨hX11, hK11⟩ := bput4 (w := wr) hXr (hK9.trans hwq) (Nat.le_refl _) (.int .i64 1) (.int .u32 (1 + ra)) (.int .u32 y) (.string ⟨#[]⟩)
        generalize (((wq.setCell ⟨wr.heap.size, 0, none⟩ (.int .i64 1)).setCell ⟨wr.heap.size, 1, none⟩ (.int .u32 (1 + ra))).setCell ⟨wr.heap.size, 2, none⟩ (.int .u32 y)).setCell ⟨wr.heap.size, 3, none⟩ (.string ⟨#[]⟩) = w11 at *
        clear n0 n1 n2 n3 f0 f1 f2 f3 c0 c1 c2 HX9 HC9
        have hX9 := hX11
        have hK9 := hK11
        obtain ⟨n0, n1, n2, n3⟩ := (show _ ∧ _ ∧ _ ∧ _ from hX9.c4g)
        obtain ⟨c0, c1, c2⟩ := (show _ ∧ _ ∧ _ from HC.out _ ((hKr.trans hK9)))
        go_wp2_with fail
        refine (HFB.out 1 (1 + ra) y ⟨#[]⟩ he ⟨by omega, by omega⟩ ⟨by omega, by omega⟩ _).mono ?_
        have hle := HLE.out 1 (1 + ra) y ⟨#[]⟩ ⟨by omega, by omega⟩ ⟨by omega, by omega⟩
        generalize fbS P S (n : Int) 1 (1 + ra) y ⟨#[]⟩ = fb at *
        obtain ⟨fbs, fbc⟩ := fb
        dsimp only at hle ⊢
        rintro e w10 ⟨rfl, hk10⟩
        have hcc : Sx.size + fbs.size ≤ 9223372036854775807 := by omega
        have hres : ((Sx ++ fbs).size : Int) ≤ ((k + 1 : Nat) : Int) * P := by
          rw [ByteArray.size_append, show ((k + 1 : Nat) : Int) = (k : Int) + 1 by omega, Int.add_mul]
          omega
        have HRES := Lib.hid hres
        clear hres hSx
        go_wp2_with fail
        go_roundw
        case rel => exact ⟨k + 1, Sx ++ fbs, by omega, by omega, by go_num, rfl, HRES.out, (hKr.trans hK9).trans hk10⟩
        case measure => simp [intOf]; omega
    · have hSz : (Sx.size : Int) ≤ P * S * n := by
        have h2 : (k : Int) * P ≤ S * n * P := Int.mul_le_mul_of_nonneg_right hkn (by omega)
        have h3 : S * n * P = P * S * n := by rw [Int.mul_comm (S * n) P, Int.mul_assoc]
        omega
      obtain ⟨W1, cc, hcv, hbb, hkb, hsz⟩ := bytes_of wr Sx 9 Try.underlying9
      have hsz4 := hKr.size
      obtain ⟨wp, hwp⟩ : ∃ wp, wp = wr := ⟨_, rfl⟩
      subst hwp
      clear c0 c1 c2
      obtain ⟨c0, c1, c2⟩ := (show _ ∧ _ ∧ _ from HC.out _ hKr)
      go_wp2_with fail
      all_goals
        go_loopw [15] (fun iv wr => BentI w2 Sx.size ts.length wp.heap.size iv wr) (fun iv _ => 3 - (intOf iv).toNat)
        case atStart => exact ⟨0, Sx, by omega, by omega, rfl, rfl, hbb, hKr.trans hkb⟩
        case round =>
          obtain ⟨q, Z, hq, hql, rfl, hZ, hbr, hKq⟩ := hrel
          clear hcv hbb hkb hsz c0 c1 c2 W1
          by_cases hall : q < ts.length ∧ q < 3 ∧ 0 < Sx.size
          · obtain ⟨hqt, hq3, hs0⟩ := hall
            have e2 : (q : Int) < 3 := by omega
            have e3 : (0 : Int) < (Sx.size : Int) := by omega
            obtain ⟨b2, off2, rfl, hc2⟩ := H2.2 (by omega)
            have x0 := (hK2.trans hKq).cell (hc2 q hqt)
            have hxb := bounds_i64 (w2' _ (List.getElem_mem hqt))
            generalize ts[q] = xt at *
            have HPN := Lib.hid (fun W => pick_any xt (Sx.size : Int) (by omega) (by omega) hxb.1 hxb.2 W)
            have hI0 : 0 ≤ xt % (Sx.size : Int) ∧ xt % (Sx.size : Int) < (Sx.size : Int) := ⟨Int.emod_nonneg _ (by omega), Int.emod_lt_of_pos _ (by omega)⟩
            generalize xt % (Sx.size : Int) = I at *
            have hil : I.toNat < (sb Z).length := by rw [sb_len]; omega
            have hxbb := byteAt_lt Z I.toNat
            have hym : yb.toNat < 256 := by omega
            have HX := u8_xor_nat _ _ hxbb hym
            have hv : byteAt Z I.toNat ^^^ yb.toNat < 256 := Nat.xor_lt_two_pow (n := 8) hxbb hym
            have hcel : wr.cell? ⟨wp.heap.size, I.toNat, none⟩ = some (.int .u8 (byteAt Z I.toNat : Nat)) := by
              rw [hbr.cell _ hil]
              have hil2 : I.toNat < (nb Z).length := by rw [nb_len]; omega
              unfold byteAt
              simp only [sb_nb, List.getElem_map]
              rw [List.getD_eq_getElem?_getD, List.getElem?_eq_getElem hil2]
              rfl
            have hfree := hbr.free I.toNat hil
            have hput := hbr.put I.toNat hil ((byteAt Z I.toNat ^^^ yb.toNat : Nat) : Int)
            rw [sb_setZ Z I.toNat _ hv] at hput
            have HPT := Lib.hid hput
            have HZ2 : Hid ((setZ Z I.toNat (byteAt Z I.toNat ^^^ yb.toNat)).size = Sx.size) := Lib.hid (by rw [setZ_size]; exact hZ)
            have hKf := Lib.hid (hKq.set (p := ⟨wp.heap.size, I.toNat, none⟩) hsz4 (.int .u8 ((byteAt Z I.toNat ^^^ yb.toNat : Nat) : Int)))
            have q9 : IntKind.i64.wrap ((q : Int) + 1) = (q : Int) + 1 := IntWalk.i64_in _ (by omega)
            rw [show ((yb.toNat : Nat) : Int) = yb by omega] at HX
            clear hput hv hxbb hil
            generalize setZ Z I.toNat (byteAt Z I.toNat ^^^ yb.toNat) = Z2 at *
            generalize ((byteAt Z I.toNat ^^^ yb.toNat : Nat) : Int) = xv at *
            generalize byteAt Z I.toNat = xb at *
            go_wp2_with fail
            refine (HPN.out _).mono ?_
            rintro e wz ⟨rfl, rfl⟩
            go_wp2_with fail
            go_roundw
            case rel => exact ⟨q + 1, Z2, by omega, by omega, by go_num, HZ2.out, HPT.out, hKf.out⟩
            case measure => simp [intOf]; omega
          · have hZle : (Z.size : Int) ≤ P * S * n := by omega
            have HTL := Lib.hid (fun W => tells_any P S n hR Z hZle W)
            have HCV := Lib.hid (fun W (kk : Kp wr W) => by
              have h9 := (hbr.keep kk).conv (n := Sx.size) (c := cc) (by rw [sb_len, hZ])
              rw [sb_backZ] at h9
              exact h9)
            have hends : ¬ q < ts.length ∨ (q < ts.length ∧ ¬ (q : Int) < 3) ∨ (q < ts.length ∧ (q : Int) < 3 ∧ ¬ (0 : Int) < (Sx.size : Int)) := by omega
            clear hall hbr
            rcases hends with e1 | ⟨e1, e2⟩ | ⟨e1, e2, e3⟩
            all_goals
              go_wp2_with fail
              refine (salive _).mono ?_
              rintro e wa ⟨rfl, hka⟩
              obtain ⟨c0, c1, c2⟩ := (show _ ∧ _ ∧ _ from HC.out _ (hKq.trans hka))
              have hcv := HCV.out _ hka
              go_wp2_with fail
              refine (HTL.out _).mono ?_
              rintro e wb ⟨rfl, hkb⟩
              go_wp2_with fail
              go_ret
              exact ⟨rfl, hK2.trans ((hKq.trans hka).trans hkb)⟩
end Go.Proofs.Ytecelmhiffcaeaa
