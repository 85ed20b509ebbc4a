/- Merged texts: LawScan. -/
import Derived.Test.YtecelmhiffcaeaaGS
/- The walk of ScanDown. -/
namespace Go.Proofs.Ytecelmhiffcaeaa
open Go.RowKit
set_option linter.unusedVariables false
set_option maxRecDepth 20000
theorem sregion_code {W : World} {g ib ic : Nat} {p s r : Int} {d : Dev} {v : Value} (h : FlAt W g ib ic p s r d v) (ok : DevOk p s r d) (hd : d.down = false) (i : Int) :
    Calls Try.prog 17 #[.pointer (some ⟨g, 0, none⟩), .int .i64 i] W fun e w' => ∃ rg ep A n c cl, e = .returned (.tuple #[.agg #[.int .i64 rg, .int .u32 ep, .slice A n c, .bool cl], .int .i64 (if 0 ≤ i ∧ i < r then 0 else 1)]) ∧ Kp W w' := by
  by_cases hi : 0 ≤ i ∧ i < r
  · refine (sregion_up h ok hd i i rfl hi.1 hi.2).mono ?_
    rintro e w1 ⟨fv, rfl, ho, hk⟩
    obtain ⟨A, c, rfl⟩ := own_slice ho
    exact ⟨_, _, A, _, c, _, by rw [if_pos hi], hk⟩
  · refine (sregion_arg h i (by omega)).mono ?_
    rintro e w1 ⟨rfl, hk⟩
    exact ⟨_, _, none, 0, 0, _, by rw [if_neg hi], hk⟩
theorem sd_down {p s r : Int} (d : Dev) (hd : d.down = false) : (flushD p (fuseD d 0)).1.down = true := by
  unfold flushD fuseD countD
  simp [hd]
set_option maxHeartbeats 6400000 in
theorem ScanDown_walk (w : World) (p s r : Int) (wp : (Lit.int .i64 p).wf = true) (ws : (Lit.int .i64 s).wf = true) (wr : (Lit.int .i64 r).wf = true) (region : Int) (wn : (Lit.int .i64 region).wf = true) :
    Calls Try.prog 5 #[geo p s r, .int .i64 region] w fun e w' => e = .returned (.bool true) ∧ Kp w w' := by
  have bp := bounds_i64 wp
  have bs := bounds_i64 ws
  have br := bounds_i64 wr
  clear wp ws wr
  obtain ⟨P, S, n, hP, hS, hn, hR, hn7, hS6, hP64⟩ := small_geom p s r
  have HGE := Lib.hid (fun w => bgeom_any p s r bp bs br w)
  rw [hP, hS, hn] at HGE
  clear hP hS hn
  obtain ⟨r1, r2, r3, r4, r5, r6⟩ := id hR
  have hle : ((⟨#[]⟩ : ByteArray).size : Int) ≤ P * S * n := by
    obtain ⟨m1, m2, m3, m4⟩ := mul3 hR
    show ((0 : Nat) : Int) ≤ _
    omega
  have HNW := Lib.hid (fun W => new_S hR ⟨#[]⟩ hle W)
  have hdn : (newD P S n ⟨#[]⟩).down = false := rfl
  have HDN := Lib.hid (sd_down (p := P) (s := S) (r := n) _ hdn)
  have HDU := Lib.hid hdn
  generalize newD P S n ⟨#[]⟩ = dn at *
  have HRC := Lib.hid (fun (w0 W : World) g ib ic v (h : FlS w0 W g ib ic P S n dn v) => sregion_code h.at_ h.ok HDU.out region)
  have HFU := Lib.hid (fun (w0 W : World) g ib ic v (h : FlS w0 W g ib ic P S n dn v) => fuse_S h 0 (by omega))
  have HFL := Lib.hid (fun (w0 W : World) g ib ic v (h : FlS w0 W g ib ic P S n (fuseD dn 0) v) => flush_S h)
  generalize hc1 : (flushD P (fuseD dn 0)).2 = c1 at *
  generalize (flushD P (fuseD dn 0)).1 = d2 at *
  generalize fuseD dn 0 = d1 at *
  have HAD := Lib.hid (fun (w0 W : World) g ib ic v (h : FlS w0 W g ib ic P S n d2 v) => sall_down h.at_ h.ok HDN.out)
  have HRD := Lib.hid (fun (w0 W : World) g ib ic v (h : FlS w0 W g ib ic P S n d2 v) => sregion_down h.at_ h.ok HDN.out 0 (by omega) (by omega))
  obtain ⟨cr, hcr⟩ : ∃ cr : Int, cr = (if 0 ≤ region ∧ region < n then 0 else 1) := ⟨_, rfl⟩
  rw [← hcr] at HRC
  have HCR := Lib.hid hcr
  clear hdn hc1 hcr hle
  go_enter Try.func5, Try.ntmps5
  go_wp2_with fail
  refine (HGE.out _).mono ?_
  rintro e w1 ⟨rfl, hk1⟩
  have hB := (Bk.new w 23 [.int .i64 p, .int .i64 s, .int .i64 r]).keep hk1
  have hK := (Kp.one w (.cells [.int .i64 p, .int .i64 s, .int .i64 r].toArray 23)).trans hk1
  clear hk1
  obtain ⟨c0, c1, c2⟩ := hB.c3g
  have f0 := hB.free 0
  have f1 := hB.free 1
  have f2 := hB.free 2
  go_wp2_with fail
  obtain ⟨hB2, hK2⟩ := put3 hB hK (Nat.le_refl _) (.int .i64 P) (.int .i64 S) (.int .i64 n)
  clear c0 c1 c2 f0 f1 f2 hB hK
  generalize ((w1.setCell ⟨w.heap.size, 0, none⟩ (.int .i64 P)).setCell ⟨w.heap.size, 1, none⟩ (.int .i64 S)).setCell ⟨w.heap.size, 2, none⟩ (.int .i64 n) = w2 at *
  refine (HNW.out _).mono ?_
  rintro e w3 ⟨g, ib, ic, v, rfl, hf⟩
  go_wp2_with fail
  refine (salive _).mono ?_
  rintro e w4 ⟨rfl, hk4⟩
  have h4 := hf.keep hk4
  go_wp2_with fail
  refine (HRC.out _ _ _ _ _ _ h4).mono ?_
  rintro e w5 ⟨rg, ep, A, m, c, cl, rfl, hk5⟩
  have h5 := (h4.keep hk5).keep (Kp.one w5 (.cells #[.int .i64 rg, .int .u32 ep, .slice A m c, .bool cl] 44))
  go_wp2_with fail
  refine (sregion_nil 0 _).mono ?_
  rintro e w6 ⟨rfl, hk6⟩
  have h6 := (h5.keep hk6).keep (Kp.one w6 (.cells #[.int .i64 0, .int .u32 0, .slice none 0 0, .bool false] 44))
  go_wp2_with fail
  refine (sall_nil _).mono ?_
  rintro e w7 ⟨rfl, hk7⟩
  have h7 := h6.keep hk7
  go_wp2_with fail
  refine (HFU.out _ _ _ _ _ _ h7).mono ?_
  rintro e w8 ⟨rfl, h8⟩
  go_wp2_with fail
  refine (HFL.out _ _ _ _ _ _ h8).mono ?_
  rintro e w9 ⟨v9, rfl, h9⟩
  go_wp2_with fail
  refine (HAD.out _ _ _ _ _ _ h9).mono ?_
  rintro e wa ⟨rfl, hka⟩
  have ha := h9.keep hka
  go_wp2_with fail
  refine (HRD.out _ _ _ _ _ _ ha).mono ?_
  rintro e wb ⟨rfl, hkb⟩
  have hX := Bk.new wb 44 [.int .i64 0, .int .u32 0, .slice none 0 0, .bool false]
  have hb := (ha.keep hkb).keep (Kp.one wb (.cells #[.int .i64 0, .int .u32 0, .slice none 0 0, .bool false] 44))
  have hBb := hB2.keep hb.kp
  obtain ⟨c0, c1, c2⟩ := hBb.c3g
  obtain ⟨x0, x1, x2, x3⟩ := hX.c4g
  have hkF := hK2.trans hb.kp
  have hcs : (cr = 0 ∧ 0 ≤ region ∧ region < n) ∨ (cr = 1 ∧ region < 0) ∨ (cr = 1 ∧ 0 ≤ region ∧ n ≤ region) := by
    rw [HCR.out]
    split <;> omega
  clear hBb hX
  rcases hcs with ⟨rfl, q1, q2⟩ | ⟨rfl, q1⟩ | ⟨rfl, q1, q2⟩
  · have e1 : decide (0 ≤ region) = true := by simpa using q1
    have e2 : decide (region < n) = true := by simpa using q2
    go_wp2_with fail
    go_ret
    exact ⟨rfl, hkF⟩
  · have e1 : decide (0 ≤ region) = false := by simp; omega
    go_wp2_with fail
    go_ret
    exact ⟨rfl, hkF⟩
  · have e1 : decide (0 ≤ region) = true := by simpa using q1
    have e2 : decide (region < n) = false := by simp; omega
    go_wp2_with fail
    go_ret
    exact ⟨rfl, hkF⟩
end Go.Proofs.Ytecelmhiffcaeaa
