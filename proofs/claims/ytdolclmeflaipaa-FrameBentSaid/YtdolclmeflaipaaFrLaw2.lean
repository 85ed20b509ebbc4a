/- The walks of FrameLays, FrameReads. -/
import Derived.Test.YtdolclmeflaipaaFrLaw
namespace Go.Proofs.Ytdolclmeflaipaa
open Go.RowKit
set_option linter.unusedVariables false

theorem Bk.c3g {w : World} {g : Nat} {t : TypeId} {a b c : Value} (h : Bk w g t [a, b, c]) : w.cell? ⟨g, 0, none⟩ = some a ∧ w.cell? ⟨g, 1, none⟩ = some b ∧ w.cell? ⟨g, 2, none⟩ = some c := ⟨h.cell 0, h.cell 1, h.cell 2⟩
theorem Bk.c4g {w : World} {g : Nat} {t : TypeId} {a b c d : Value} (h : Bk w g t [a, b, c, d]) : w.cell? ⟨g, 0, none⟩ = some a ∧ w.cell? ⟨g, 1, none⟩ = some b ∧ w.cell? ⟨g, 2, none⟩ = some c ∧ w.cell? ⟨g, 3, none⟩ = some d := ⟨h.cell 0, h.cell 1, h.cell 2, h.cell 3⟩
theorem put3 {w w1 : World} {g : Nat} {t : TypeId} {a b c : Value} (h : Bk w1 g t [a, b, c]) (hK : Kp w w1) (hg : w.heap.size ≤ g) (x y z : Value) :
    Bk (((w1.setCell ⟨g, 0, none⟩ x).setCell ⟨g, 1, none⟩ y).setCell ⟨g, 2, none⟩ z) g t [x, y, z] ∧ Kp w (((w1.setCell ⟨g, 0, none⟩ x).setCell ⟨g, 1, none⟩ y).setCell ⟨g, 2, none⟩ z) :=
  ⟨((h.put 0 x).put 1 y).put 2 z, ((hK.set (p := ⟨g, 0, none⟩) hg x).set (p := ⟨g, 1, none⟩) hg y).set (p := ⟨g, 2, none⟩) hg z⟩
theorem far3 {w1 : World} {g g' : Nat} {t : TypeId} {cs : List Value} (h : Bk w1 g' t cs) (hn : g' ≠ g) (x y z : Value) :
    Bk (((w1.setCell ⟨g, 0, none⟩ x).setCell ⟨g, 1, none⟩ y).setCell ⟨g, 2, none⟩ z) g' t cs := ((h.far (p := ⟨g, 0, none⟩) hn x).far (p := ⟨g, 1, none⟩) hn y).far (p := ⟨g, 2, none⟩) hn z

theorem readR (s : ByteArray) (hs : s.size ≤ 9223372036854775807) (f : Fr) (c : Int) (h : readF s = (f, c)) (w : World) :
    Calls Try.prog 16 #[.string s] w fun e w' => e = .returned (.tuple #[frv f.k f.a f.b f.t, .int .i64 c]) ∧ Kp w w' := by
  have := read_any s hs w
  rw [h] at this
  exact this
theorem rreadR (s : ByteArray) (hs : s.size ≤ 9223372036854775807) (f : Fr) (c : Int) (h : readF s = (f, c)) (w : World) :
    Calls Try.prog 17 #[.string s] w fun e w' => e = .returned (.tuple #[frv f.k f.a f.b f.t, .int .i64 c]) ∧ Kp w w' := by
  have := rread_any s hs w
  rw [h] at this
  exact this
theorem bytesR (p s r k a b : Int) (t : ByteArray) (ht : t.size ≤ 9223372036854775807) (ha : 0 ≤ a ∧ a ≤ 4294967295) (hb : 0 ≤ b ∧ b ≤ 4294967295) (x : ByteArray) (c : Int) (h : fbS p s r k a b t = (x, c)) (w : World) :
    Calls Try.prog 12 #[geo p s r, frv k a b t] w fun e w' => e = .returned (.tuple #[.string x, .int .i64 c]) ∧ Kp w w' := by
  have := fbytes_any p s r k a b t ht ha hb w
  rw [h] at this
  exact this
theorem rbytesR (p s r k a b : Int) (t : ByteArray) (ht : t.size ≤ 9223372036854775807) (ha : 0 ≤ a ∧ a ≤ 4294967295) (hb : 0 ≤ b ∧ b ≤ 4294967295) (x : ByteArray) (c : Int) (h : fbS p s r k a b t = (x, c)) (w : World) :
    Calls Try.prog 13 #[geo p s r, frv k a b t] w fun e w' => e = .returned (.tuple #[.string x, .int .i64 c]) ∧ Kp w w' := by
  have := rfbytes_any p s r k a b t ht ha hb w
  rw [h] at this
  exact this
/-- A frame that may be has its page. -/
theorem fbS_ok (p s r k a b : Int) (t : ByteArray) (hR : RightG p s r) (h : PgOk p k a b t) : fbS p s r k a b t = (pageS p k a b t, 0) := by
  obtain ⟨n1, n2, k1, k2, a1, a2, b1, b2, hr⟩ := id h
  unfold fbS
  rw [if_neg (fun h => h hR), if_neg (by omega), if_neg (by omega)]
theorem right324 : RightG 32 4 4 := by unfold RightG; omega
theorem ab_ok : PgOk 32 2 7 0 ⟨#[97, 98]⟩ := ⟨by omega, by omega, by omega, by omega, by omega, by omega, by omega, by omega, by decide⟩
theorem blank32 : readF (fillS 255 32) = (noFr, 9) := by
  unfold readF
  rw [if_neg (by rw [fillS_size]; omega), if_pos (fill_blank 32)]

set_option maxRecDepth 20000 in
set_option maxHeartbeats 1600000 in
theorem alive_any (w : World) : Calls Try.prog 14 #[] w fun e w' => e = .returned (.bool true) ∧ Kp w w' := by
  obtain ⟨x, hx⟩ : ∃ x, pageS 32 2 7 0 ⟨#[97, 98]⟩ = x := ⟨_, rfl⟩
  have H1 := Lib.hid (fun W => bytesR 32 4 4 2 7 0 ⟨#[97, 98]⟩ (by decide) (by omega) (by omega) x 0 (by rw [fbS_ok _ _ _ _ _ _ _ right324 ab_ok, hx]) W)
  have hsz := pageS_size ab_ok
  have hrb := (read_back ab_ok).1
  rw [hx] at hsz hrb
  have H2 := Lib.hid (fun W => readR x (by omega) _ _ hrb W)
  have hf := fillS_size 255 32
  have H3 := Lib.hid (fun W => readR (fillS 255 32) (by omega) _ _ blank32 W)
  have H4 := Lib.hid (fun W => fill_any 255 32 (by omega) (by omega) W)
  rw [show (32 : Int).toNat = 32 from rfl] at H4
  have hs32 : (x.size : Int) = 32 := hsz
  have HS := Lib.hid hs32
  obtain ⟨y, hy⟩ : ∃ y, fillS 255 32 = y := ⟨_, rfl⟩
  rw [hy] at H3 H4
  clear hx hy hrb hf hsz
  go_enter Try.func14, Try.ntmps14
  go_wp2_with fail
  refine (H1.out _).mono ?_
  rintro e w1 ⟨rfl, hk1⟩
  go_wp2_with fail
  refine (H2.out _).mono ?_
  rintro e w2 ⟨rfl, hk2⟩
  have hF := Bk.new w2 26 [.int .i64 2, .int .u32 7, .int .u32 0, .string ⟨#[97, 98]⟩]
  have hKF := Kp.one w2 (fob 2 7 0 ⟨#[97, 98]⟩)
  go_wp2_with fail
  generalize hn2 : w2.heap.size = n2 at *
  generalize w2.alloc (fob 2 7 0 ⟨#[97, 98]⟩) = w3 at *
  have hK3 := (hk1.trans hk2).trans hKF
  clear hk1 hk2 hKF hn2
  refine (H4.out _).mono ?_
  rintro e w4 ⟨rfl, hk4⟩
  go_wp2_with fail
  refine (H3.out _).mono ?_
  rintro e w5 ⟨rfl, hk5⟩
  have hK5 := (hK3.trans hk4).trans hk5
  have c0 := fun O => ((hF.keep (hk4.trans hk5)).keep (Kp.one w5 O)).cell 0
  have c1 := fun O => ((hF.keep (hk4.trans hk5)).keep (Kp.one w5 O)).cell 1
  have c2 := fun O => ((hF.keep (hk4.trans hk5)).keep (Kp.one w5 O)).cell 2
  have c3 := fun O => ((hF.keep (hk4.trans hk5)).keep (Kp.one w5 O)).cell 3
  clear hF hk4 hk5 hK3
  go_wp2_with fail
  go_ret
  exact ⟨rfl, hK5.alloc _⟩

set_option maxRecDepth 20000 in
set_option maxHeartbeats 1600000 in
theorem lays_tail (p s r k a b : Int) (t : ByteArray) (ht : t.size ≤ 9223372036854775807) (ha : 0 ≤ a ∧ a ≤ 4294967295) (hb : 0 ≤ b ∧ b ≤ 4294967295) : ∃ x c, (∀ W, Calls Try.prog 12 #[geo p s r, frv k a b t] W fun e w' => e = .returned (.tuple #[.string x, .int .i64 c]) ∧ Kp W w') ∧ (∀ W, Calls Try.prog 13 #[geo p s r, frv k a b t] W fun e w' => e = .returned (.tuple #[.string x, .int .i64 c]) ∧ Kp W w') :=
  ⟨_, _, fun W => bytesR p s r k a b t ht ha hb _ _ rfl W, fun W => rbytesR p s r k a b t ht ha hb _ _ rfl W⟩
set_option maxRecDepth 20000 in
set_option maxHeartbeats 3200000 in
theorem FrameLays_walk (w : World) (p s r : Int) (wp : (Lit.int .i64 p).wf = true) (ws : (Lit.int .i64 s).wf = true) (wr : (Lit.int .i64 r).wf = true) (k a b : Int) (t : ByteArray) (wk : (Lit.int .i64 k).wf = true) (wa : (Lit.int .u32 a).wf = true) (wb : (Lit.int .u32 b).wf = true) (ht : t.size ≤ 140737488351232) (small : Bool) :
    Calls Try.prog 3 #[geo p s r, frv k a b t, .bool small] w fun e w' => e = .returned (.bool true) ∧ Kp w w' := by
  have bp := bounds_i64 wp
  have bs := bounds_i64 ws
  have br := bounds_i64 wr
  have bk := bounds_i64 wk
  have ba := bounds_u32 wa
  have bb := bounds_u32 wb
  clear wp ws wr wk wa wb
  have hG0 := (Bk.new w 23 [.int .i64 p, .int .i64 s, .int .i64 r]).alloc (fob k a b t)
  have hF0 : Bk ((w.alloc (gob p s r)).alloc (fob k a b t)) (w.heap.size + 1) 26 [.int .i64 k, .int .u32 a, .int .u32 b, .string t] := by
    have := Bk.new (w.alloc (gob p s r)) 26 [.int .i64 k, .int .u32 a, .int .u32 b, .string t]
    simpa using this
  have hK0 := (Kp.one w (gob p s r)).alloc (fob k a b t)
  rcases small with _ | _
  · obtain ⟨x, c, hA, hB⟩ := lays_tail p s r k a b t (by omega) ba bb
    have HA := Lib.hid hA
    have HB := Lib.hid hB
    clear hA hB
    obtain ⟨g0, g1, g2⟩ := hG0.c3g
    obtain ⟨f0, f1, f2, f3⟩ := hF0.c4g
    go_enter Try.func3, Try.ntmps3
    go_wp2_with fail
    refine (HA.out _).mono ?_
    rintro e w1 ⟨rfl, hk1⟩
    have hG1 := hG0.keep hk1
    have hF1 := hF0.keep hk1
    clear g0 g1 g2 f0 f1 f2 f3
    obtain ⟨g0, g1, g2⟩ := hG1.c3g
    obtain ⟨f0, f1, f2, f3⟩ := hF1.c4g
    go_wp2_with fail
    refine (HB.out _).mono ?_
    rintro e w2 ⟨rfl, hk2⟩
    go_wp2_with fail
    refine (alive_any _).mono ?_
    rintro e w3 ⟨rfl, hk3⟩
    go_wp2_with fail
    go_ret
    exact ⟨ret_bool (by simp), ((hK0.trans hk1).trans hk2).trans hk3⟩
  · have HGE := Lib.hid (fun w => bgeom_any p s r bp bs br w)
    have HPK := Lib.hid (fun w => pick_any k 6 (by omega) (by omega) bk.1 bk.2 w)
    generalize 32 + p % 33 = P at *
    generalize 3 + s % 4 = S at *
    generalize 4 + r % 4 = N at *
    generalize k % 6 = k' at *
    obtain ⟨x, c, hA, hB⟩ := lays_tail P S N k' a b t (by omega) ba bb
    have HA := Lib.hid hA
    have HB := Lib.hid hB
    clear hA hB
    obtain ⟨g0, g1, g2⟩ := hG0.c3g
    go_enter Try.func3, Try.ntmps3
    go_wp2_with fail
    refine (HGE.out _).mono ?_
    rintro e w1 ⟨rfl, hk1⟩
    have hG1 := hG0.keep hk1
    have hF1 := hF0.keep hk1
    have hK1 := hK0.trans hk1
    clear g0 g1 g2 hG0 hF0 hK0 hk1
    obtain ⟨g0, g1, g2⟩ := hG1.c3g
    have u0 := hG1.free 0
    have u1 := hG1.free 1
    have u2 := hG1.free 2
    have y0 := (far3 hF1 (show w.heap.size + 1 ≠ w.heap.size by omega) (.int .i64 P) (.int .i64 S) (.int .i64 N)).cell 0
    go_wp2_with fail
    obtain ⟨hG2, hK2⟩ := put3 hG1 hK1 (Nat.le_refl _) (.int .i64 P) (.int .i64 S) (.int .i64 N)
    have hF2 := far3 hF1 (show w.heap.size + 1 ≠ w.heap.size by omega) (.int .i64 P) (.int .i64 S) (.int .i64 N)
    generalize ((w1.setCell ⟨w.heap.size, 0, none⟩ (.int .i64 P)).setCell ⟨w.heap.size, 1, none⟩ (.int .i64 S)).setCell ⟨w.heap.size, 2, none⟩ (.int .i64 N) = w2 at *
    clear hG1 hK1 hF1 g0 g1 g2 u0 u1 u2 y0
    refine (HPK.out _).mono ?_
    rintro e w3 ⟨rfl, rfl⟩
    have u0 := hF2.free 0
    obtain ⟨f0, f1, f2, f3⟩ := hF2.c4g
    obtain ⟨g0, g1, g2⟩ := hG2.c3g
    go_wp2_with fail
    have hF3 := hF2.put 0 (.int .i64 k')
    have hG3 := hG2.far (p := ⟨w.heap.size + 1, 0, none⟩) (by simp) (.int .i64 k')
    have hK3 := hK2.set (p := ⟨w.heap.size + 1, 0, none⟩) (by simp) (.int .i64 k')
    refine (HA.out _).mono ?_
    rintro e w4 ⟨rfl, hk4⟩
    have hG4 := hG3.keep hk4
    have hF4 := hF3.keep hk4
    have hK4 := hK3.trans hk4
    clear g0 g1 g2 f0 f1 f2 f3 hG3 hF3 hK3 hk4 hG2 hF2 hK2 u0
    obtain ⟨g0, g1, g2⟩ := hG4.c3g
    obtain ⟨f0, f1, f2, f3⟩ : w4.cell? ⟨w.heap.size + 1, 0, none⟩ = some (.int .i64 k') ∧ w4.cell? ⟨w.heap.size + 1, 1, none⟩ = some (.int .u32 a) ∧ w4.cell? ⟨w.heap.size + 1, 2, none⟩ = some (.int .u32 b) ∧ w4.cell? ⟨w.heap.size + 1, 3, none⟩ = some (.string t) := ⟨hF4.cell 0, hF4.cell 1, hF4.cell 2, hF4.cell 3⟩
    go_wp2_with fail
    refine (HB.out _).mono ?_
    rintro e w5 ⟨rfl, hk5⟩
    go_wp2_with fail
    refine (alive_any _).mono ?_
    rintro e w6 ⟨rfl, hk6⟩
    go_wp2_with fail
    go_ret
    exact ⟨ret_bool (by simp), (hK4.trans hk5).trans hk6⟩
set_option maxRecDepth 20000 in
set_option maxHeartbeats 3200000 in
theorem FrameReads_walk (w : World) (b : ByteArray) (hb : b.size ≤ 140737488351232) (k : Int) (wk : (Lit.int .i64 k).wf = true) (blank : Bool) :
    Calls Try.prog 4 #[.string b, .int .i64 k, .bool blank] w fun e w' => e = .returned (.bool true) ∧ Kp w w' := by
  have bk := bounds_i64 wk
  clear wk
  rcases blank with _ | _
  · obtain ⟨⟨fk, fa, fb, ft⟩, c, hr⟩ : ∃ f c, readF b = (f, c) := ⟨_, _, rfl⟩
    have hsz : b.size ≤ 9223372036854775807 := by omega
    have HA := Lib.hid (fun W => readR b hsz _ _ hr W)
    have HB := Lib.hid (fun W => rreadR b hsz _ _ hr W)
    simp only at HA HB
    clear hr
    go_enter Try.func4, Try.ntmps4
    go_wp2_with fail
    refine (HA.out _).mono ?_
    rintro e w1 ⟨rfl, hk1⟩
    have hF := Bk.new w1 26 [.int .i64 fk, .int .u32 fa, .int .u32 fb, .string ft]
    have hKF := Kp.one w1 (fob fk fa fb ft)
    go_wp2_with fail
    generalize hn1 : w1.heap.size = n1 at *
    generalize w1.alloc (fob fk fa fb ft) = w2 at *
    have hK2 := hk1.trans hKF
    clear hk1 hKF hn1
    refine (HB.out _).mono ?_
    rintro e w3 ⟨rfl, hk3⟩
    have hF3 := hF.keep hk3
    have hG := Bk.new w3 26 [.int .i64 fk, .int .u32 fa, .int .u32 fb, .string ft]
    have hKG := Kp.one w3 (fob fk fa fb ft)
    have hF4 := hF3.keep hKG
    go_wp2_with fail
    generalize hn3 : w3.heap.size = n3 at *
    generalize w3.alloc (fob fk fa fb ft) = w4 at *
    have hK4 := (hK2.trans hk3).trans hKG
    clear hF hK2 hk3 hF3 hKG hn3
    refine (alive_any _).mono ?_
    rintro e w5 ⟨rfl, hk5⟩
    obtain ⟨f0, f1, f2, f3⟩ := (hF4.keep hk5).c4g
    obtain ⟨g0, g1, g2, g3⟩ := (hG.keep hk5).c4g
    go_wp2_with fail
    refine (blank_any _ hsz _).mono ?_
    rintro e w6 ⟨rfl, rfl⟩
    go_wp2_with fail
    refine (rblank_any _ hsz _).mono ?_
    rintro e w6 ⟨rfl, rfl⟩
    go_wp2_with fail
    go_ret
    exact ⟨ret_bool (by simp), hK4.trans hk5⟩

  · have hk0 := Int.emod_nonneg k (show (140 : Int) ≠ 0 by omega)
    have hk1 := Int.emod_lt_of_pos k (show (0 : Int) < 140 by omega)
    have HPK := Lib.hid (fun w => pick_any k 140 (by omega) (by omega) bk.1 bk.2 w)
    generalize k % 140 = m at *
    have HFI := Lib.hid (fun W => fill_any 255 m (by omega) (by omega) W)
    have hsz : (fillS 255 m.toNat).size ≤ 9223372036854775807 := by rw [fillS_size]; omega
    obtain ⟨s, hs⟩ : ∃ s, fillS 255 m.toNat = s := ⟨_, rfl⟩
    rw [hs] at HFI hsz
    obtain ⟨⟨fk, fa, fb, ft⟩, c, hr⟩ : ∃ f c, readF s = (f, c) := ⟨_, _, rfl⟩
    have HA := Lib.hid (fun W => readR s hsz _ _ hr W)
    have HB := Lib.hid (fun W => rreadR s hsz _ _ hr W)
    simp only at HA HB
    clear hr hs
    go_enter Try.func4, Try.ntmps4
    go_wp2_with fail
    refine (HPK.out _).mono ?_
    rintro e w0 ⟨rfl, rfl⟩
    go_wp2_with fail
    refine (HFI.out _).mono ?_
    rintro e w0 ⟨rfl, hk0⟩
    go_wp2_with fail
    refine (HA.out _).mono ?_
    rintro e w1 ⟨rfl, hk1⟩
    have hF := Bk.new w1 26 [.int .i64 fk, .int .u32 fa, .int .u32 fb, .string ft]
    have hKF := Kp.one w1 (fob fk fa fb ft)
    go_wp2_with fail
    generalize hn1 : w1.heap.size = n1 at *
    generalize w1.alloc (fob fk fa fb ft) = w2 at *
    have hK2 := hk1.trans hKF
    clear hk1 hKF hn1
    refine (HB.out _).mono ?_
    rintro e w3 ⟨rfl, hk3⟩
    have hF3 := hF.keep hk3
    have hG := Bk.new w3 26 [.int .i64 fk, .int .u32 fa, .int .u32 fb, .string ft]
    have hKG := Kp.one w3 (fob fk fa fb ft)
    have hF4 := hF3.keep hKG
    go_wp2_with fail
    generalize hn3 : w3.heap.size = n3 at *
    generalize w3.alloc (fob fk fa fb ft) = w4 at *
    have hK4 := (hK2.trans hk3).trans hKG
    clear hF hK2 hk3 hF3 hKG hn3
    refine (alive_any _).mono ?_
    rintro e w5 ⟨rfl, hk5⟩
    obtain ⟨f0, f1, f2, f3⟩ := (hF4.keep hk5).c4g
    obtain ⟨g0, g1, g2, g3⟩ := (hG.keep hk5).c4g
    go_wp2_with fail
    refine (blank_any _ hsz _).mono ?_
    rintro e w6 ⟨rfl, rfl⟩
    go_wp2_with fail
    refine (rblank_any _ hsz _).mono ?_
    rintro e w6 ⟨rfl, rfl⟩
    go_wp2_with fail
    go_ret
    exact ⟨ret_bool (by simp), (hk0.trans hK4).trans hk5⟩

end Go.Proofs.Ytdolclmeflaipaa
