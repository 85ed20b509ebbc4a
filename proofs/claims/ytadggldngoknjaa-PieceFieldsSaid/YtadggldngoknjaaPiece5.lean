/- The contracts of package piece, fifth part: Frame of a seal and of a floor; Frame as a whole. -/
import Derived.Test.YtadggldngoknjaaPiece4
import Derived.Deep.CutBlock
namespace Go.Proofs.Ytadggldngoknjaa
open Go.RowKit
set_option linter.unusedVariables false

abbrev slob (s p v f u z : Int) : Obj := .cells #[.int .u32 s, .int .u32 p, .int .u32 v, .int .u32 f, .int .u32 u, .int .u32 z] 33
abbrev flob (s g f : Int) : Obj := .cells #[.int .u32 s, .int .u32 g, .int .u32 f] 35
theorem seal_keep (w : World) (s p v f u z : Int) (o : Obj) (W' : World) (h : Kp (((w.alloc (fob 0 0 0 ⟨#[]⟩)).alloc o).alloc (slob s p v f u z)) W') :
    W'.cell? ⟨w.heap.size + 2, 0, none⟩ = some (.int .u32 s) ∧ W'.cell? ⟨w.heap.size + 2, 1, none⟩ = some (.int .u32 p) ∧ W'.cell? ⟨w.heap.size + 2, 2, none⟩ = some (.int .u32 v) ∧ W'.cell? ⟨w.heap.size + 2, 3, none⟩ = some (.int .u32 f) ∧ W'.cell? ⟨w.heap.size + 2, 4, none⟩ = some (.int .u32 u) ∧ W'.cell? ⟨w.heap.size + 2, 5, none⟩ = some (.int .u32 z) := by
  have hb : Bk (((w.alloc (fob 0 0 0 ⟨#[]⟩)).alloc o).alloc (slob s p v f u z)) (w.heap.size + 2) 33 [.int .u32 s, .int .u32 p, .int .u32 v, .int .u32 f, .int .u32 u, .int .u32 z] := Bk.at _ _ [_, _, _, _, _, _] _ (by simp [go_sem])
  have hb := hb.keep h
  exact ⟨hb.cell 0, hb.cell 1, hb.cell 2, hb.cell 3, hb.cell 4, hb.cell 5⟩
theorem floor_keep (w : World) (s g f : Int) (o : Obj) (W' : World) (h : Kp (((w.alloc (fob 0 0 0 ⟨#[]⟩)).alloc o).alloc (flob s g f)) W') :
    W'.cell? ⟨w.heap.size + 2, 0, none⟩ = some (.int .u32 s) ∧ W'.cell? ⟨w.heap.size + 2, 1, none⟩ = some (.int .u32 g) ∧ W'.cell? ⟨w.heap.size + 2, 2, none⟩ = some (.int .u32 f) := by
  have hb : Bk (((w.alloc (fob 0 0 0 ⟨#[]⟩)).alloc o).alloc (flob s g f)) (w.heap.size + 2) 35 [.int .u32 s, .int .u32 g, .int .u32 f] := Bk.at _ _ [_, _, _] _ (by simp [go_sem])
  have hb := hb.keep h
  exact ⟨hb.cell 0, hb.cell 1, hb.cell 2⟩
/-- The two frames' boxes behind the store. -/
theorem stored (w : World) (o : Obj) (k a b : Int) (s : ByteArray) (W : World) (h : Kp (((w.alloc (fob 0 0 0 ⟨#[]⟩)).alloc (fob k a b s)).alloc o) W) :
    Kp w W ∧ Bk W w.heap.size 29 [.int .i64 0, .int .u32 0, .int .u32 0, .string ⟨#[]⟩] ∧ Bk W (w.heap.size + 1) 29 [.int .i64 k, .int .u32 a, .int .u32 b, .string s] :=
  ⟨Kp.trans ((((Kp.refl w).alloc _).alloc _).alloc _) h, two_frames w k a b s W (Kp.trans (Kp.one _ _) h)⟩

set_option maxRecDepth 20000 in
set_option maxHeartbeats 8000000 in
theorem frame_floor (s g f : Int) (hf : 0 ≤ f ∧ f ≤ 4294967295) (w : World) :
    Calls Try.prog 15 #[pval (some (.floor s g f))] w fun e w' => e = .returned (frameV 4 s g (put f.toNat)) ∧ Kp w w' := by
  have t1 := ta_head (some (.floor s g f))
  have t2 := ta_part (some (.floor s g f))
  have t3 := ta_seal (some (.floor s g f))
  have t4 := ta_floor (some (.floor s g f))
  simp only [pval, headV, partV, sealV, floorV] at t1 t2 t3 t4 ⊢
  obtain ⟨hf0, hf1⟩ := hf
  have HS := Lib.hid (stored w (flob s g f))
  have HK := Lib.hid (floor_keep w s g f)
  go_enter Try.func15, Try.ntmps15
  go_upto_block 0 with fail
  go_cut [] (fun wx => Kp w wx ∧ Bk wx w.heap.size 29 [.int .i64 0, .int .u32 0, .int .u32 0, .string ⟨#[]⟩] ∧ Bk wx (w.heap.size + 1) 29 [.int .i64 4, .int .u32 s, .int .u32 g, .string (put f.toNat)])
  case first =>
    go_wp2_with fail
    go_region_held3 (fun (W : World) => W.cell? ⟨w.heap.size + 2, 0, none⟩ = some (.int .u32 s) ∧ W.cell? ⟨w.heap.size + 2, 1, none⟩ = some (.int .u32 g) ∧ W.cell? ⟨w.heap.size + 2, 2, none⟩ = some (.int .u32 f)) ((exact HK.out _ _ (by (repeat (first | with_reducible exact Kp.refl _ | with_reducible assumption | with_reducible refine Kp.alloc ?_ _ | with_reducible refine Kp.drew ?_ | with_reducible refine Kp.drewN ?_ _ | exact Kp.refl _ | assumption | refine Kp.alloc ?_ _ | refine Kp.drew ?_ | refine Kp.drewN ?_ _ | refine Kp.trans ?_ (by assumption))))))
      (first
        | (go_at_call 27; refine (put_x f hf0 hf1 _).mono ?_; rintro e w' ⟨rfl, rfl⟩))
    all_goals go_wp2_with fail
    all_goals go_meet
    all_goals exact HS.out _ _ _ _ _ (by (repeat (first | with_reducible exact Kp.refl _ | with_reducible assumption | with_reducible refine Kp.alloc ?_ _ | with_reducible refine Kp.drew ?_ | with_reducible refine Kp.drewN ?_ _ | exact Kp.refl _ | assumption | refine Kp.alloc ?_ _ | refine Kp.drew ?_ | refine Kp.drewN ?_ _ | refine Kp.trans ?_ (by assumption))))
  case rest =>
    obtain ⟨hK, b0, b1⟩ := hcut
    have d0 := b1.cell 0
    have d1 := b1.cell 1
    have d2 := b1.cell 2
    have d3 := b1.cell 3
    have c0 := b0.cell 0
    have c1 := b0.cell 1
    have c2 := b0.cell 2
    have c3 := b0.cell 3
    have f0 := b0.free 0
    have f1 := b0.free 1
    have f2 := b0.free 2
    have f3 := b0.free 3
    simp only [List.getElem?_cons_zero, List.getElem?_cons_succ] at c0 c1 c2 c3 d0 d1 d2 d3
    have hps : (put f.toNat).size ≤ 9223372036854775807 := by rw [put_size]; omega
    generalize hgp : put f.toNat = body at *
    have HG := Lib.hid hgp
    clear hgp HK HS
    go_wp2_with fail
    refine (of_any _ _ _ _ hps _).mono ?_
    rintro e' w1 ⟨rfl, hk⟩
    have b0' := b0.keep hk
    have b1' := b1.keep hk
    have hK' := Kp.trans hK hk
    clear c0 c1 c2 c3 f0 f1 f2 f3 d0 d1 d2 d3 b0 b1
    have c0 := b0'.cell 0
    have c1 := b0'.cell 1
    have c2 := b0'.cell 2
    have c3 := b0'.cell 3
    have f0 := b0'.free 0
    have f1 := b0'.free 1
    have f2 := b0'.free 2
    have f3 := b0'.free 3
    have d0 := b1'.cell 0
    have d1 := b1'.cell 1
    have d2 := b1'.cell 2
    have d3 := b1'.cell 3
    simp only [List.getElem?_cons_zero, List.getElem?_cons_succ] at c0 c1 c2 c3 d0 d1 d2 d3
    rcases ho : ofP 4 s g body with _ | q
    · simp only [pval, codeP]
      have HO := Lib.hid ho
      clear ho
      go_wp2_with fail
      refine bodyPost_ret (v := .tuple #[frv 0 0 0 ⟨#[]⟩, .int .i64 2]) (by simp [results, Try.results15, go_sem, *]) rfl ⟨by unfold frameV; rw [HG.out, HO.out], ?_⟩
      refine Kp.set (Kp.set (Kp.set (Kp.set hK' ?_ _) ?_ _) ?_ _) ?_ _ <;> exact Nat.le_refl _
    · simp only [codeP]
      generalize pval (some q) = pv
      have HO := Lib.hid ho
      clear ho
      go_wp2_with fail
      refine bodyPost_ret (v := .tuple #[frv 4 s g body, .int .i64 0]) (by simp [results, Try.results15, go_sem, *]) rfl ⟨by unfold frameV; rw [HG.out, HO.out], ?_⟩
      refine Kp.set (Kp.set (Kp.set (Kp.set hK' ?_ _) ?_ _) ?_ _) ?_ _ <;> exact Nat.le_refl _
set_option maxRecDepth 20000 in
set_option maxHeartbeats 16000000 in
theorem frame_seal (s p v f u z : Int) (hv : 0 ≤ v ∧ v ≤ 4294967295) (hf : 0 ≤ f ∧ f ≤ 4294967295) (hu : 0 ≤ u ∧ u ≤ 4294967295) (hz : 0 ≤ z ∧ z ≤ 4294967295) (w : World) :
    Calls Try.prog 15 #[pval (some (.slp s p v f u z))] w fun e w' => e = .returned (frameV 3 s p (put v.toNat ++ put f.toNat ++ put u.toNat ++ put z.toNat)) ∧ Kp w w' := by
  have t1 := ta_head (some (.slp s p v f u z))
  have t2 := ta_part (some (.slp s p v f u z))
  have t3 := ta_seal (some (.slp s p v f u z))
  have t4 := ta_floor (some (.slp s p v f u z))
  simp only [pval, headV, partV, sealV, floorV] at t1 t2 t3 t4 ⊢
  obtain ⟨hv0, hv1⟩ := hv
  obtain ⟨hf0, hf1⟩ := hf
  obtain ⟨hu0, hu1⟩ := hu
  obtain ⟨hz0, hz1⟩ := hz
  have HS := Lib.hid (stored w (slob s p v f u z))
  have HK := Lib.hid (seal_keep w s p v f u z)
  have hps4 := put_size
  go_enter Try.func15, Try.ntmps15
  go_upto_block 0 with fail
  go_cut [] (fun wx => Kp w wx ∧ Bk wx w.heap.size 29 [.int .i64 0, .int .u32 0, .int .u32 0, .string ⟨#[]⟩] ∧ Bk wx (w.heap.size + 1) 29 [.int .i64 3, .int .u32 s, .int .u32 p, .string (put v.toNat ++ put f.toNat ++ put u.toNat ++ put z.toNat)])
  case first =>
    go_wp2_with fail
    go_region_held3 (fun (W : World) => W.cell? ⟨w.heap.size + 2, 0, none⟩ = some (.int .u32 s) ∧ W.cell? ⟨w.heap.size + 2, 1, none⟩ = some (.int .u32 p) ∧ W.cell? ⟨w.heap.size + 2, 2, none⟩ = some (.int .u32 v) ∧ W.cell? ⟨w.heap.size + 2, 3, none⟩ = some (.int .u32 f) ∧ W.cell? ⟨w.heap.size + 2, 4, none⟩ = some (.int .u32 u) ∧ W.cell? ⟨w.heap.size + 2, 5, none⟩ = some (.int .u32 z)) ((exact HK.out _ _ (by (repeat (first | with_reducible exact Kp.refl _ | with_reducible assumption | with_reducible refine Kp.alloc ?_ _ | with_reducible refine Kp.drew ?_ | with_reducible refine Kp.drewN ?_ _ | exact Kp.refl _ | assumption | refine Kp.alloc ?_ _ | refine Kp.drew ?_ | refine Kp.drewN ?_ _ | refine Kp.trans ?_ (by assumption))))))
      (first
        | (go_at_call 27; refine (put_x _ (by omega) (by omega) _).mono ?_; rintro e w' ⟨rfl, rfl⟩))
    all_goals go_wp2_with fail
    all_goals go_meet
    all_goals exact HS.out _ _ _ _ _ (by (repeat (first | with_reducible exact Kp.refl _ | with_reducible assumption | with_reducible refine Kp.alloc ?_ _ | with_reducible refine Kp.drew ?_ | with_reducible refine Kp.drewN ?_ _ | exact Kp.refl _ | assumption | refine Kp.alloc ?_ _ | refine Kp.drew ?_ | refine Kp.drewN ?_ _ | refine Kp.trans ?_ (by assumption))))
  case rest =>
    obtain ⟨hK, b0, b1⟩ := hcut
    have d0 := b1.cell 0
    have d1 := b1.cell 1
    have d2 := b1.cell 2
    have d3 := b1.cell 3
    have c0 := b0.cell 0
    have c1 := b0.cell 1
    have c2 := b0.cell 2
    have c3 := b0.cell 3
    have f0 := b0.free 0
    have f1 := b0.free 1
    have f2 := b0.free 2
    have f3 := b0.free 3
    simp only [List.getElem?_cons_zero, List.getElem?_cons_succ] at c0 c1 c2 c3 d0 d1 d2 d3
    have hps : (put v.toNat ++ put f.toNat ++ put u.toNat ++ put z.toNat).size ≤ 9223372036854775807 := by simp only [ByteArray.size_append, put_size]; omega
    generalize hgp : put v.toNat ++ put f.toNat ++ put u.toNat ++ put z.toNat = body at *
    have HG := Lib.hid hgp
    clear hgp HK HS hps4
    go_wp2_with fail
    refine (of_any _ _ _ _ hps _).mono ?_
    rintro e' w1 ⟨rfl, hk⟩
    have b0' := b0.keep hk
    have b1' := b1.keep hk
    have hK' := Kp.trans hK hk
    clear c0 c1 c2 c3 f0 f1 f2 f3 d0 d1 d2 d3 b0 b1
    have c0 := b0'.cell 0
    have c1 := b0'.cell 1
    have c2 := b0'.cell 2
    have c3 := b0'.cell 3
    have f0 := b0'.free 0
    have f1 := b0'.free 1
    have f2 := b0'.free 2
    have f3 := b0'.free 3
    have d0 := b1'.cell 0
    have d1 := b1'.cell 1
    have d2 := b1'.cell 2
    have d3 := b1'.cell 3
    simp only [List.getElem?_cons_zero, List.getElem?_cons_succ] at c0 c1 c2 c3 d0 d1 d2 d3
    rcases ho : ofP 3 s p body with _ | q
    · simp only [pval, codeP]
      have HO := Lib.hid ho
      clear ho
      go_wp2_with fail
      refine bodyPost_ret (v := .tuple #[frv 0 0 0 ⟨#[]⟩, .int .i64 2]) (by simp [results, Try.results15, go_sem, *]) rfl ⟨by unfold frameV; rw [HG.out, HO.out], ?_⟩
      refine Kp.set (Kp.set (Kp.set (Kp.set hK' ?_ _) ?_ _) ?_ _) ?_ _ <;> exact Nat.le_refl _
    · simp only [codeP]
      generalize pval (some q) = pv
      have HO := Lib.hid ho
      clear ho
      go_wp2_with fail
      refine bodyPost_ret (v := .tuple #[frv 3 s p body, .int .i64 0]) (by simp [results, Try.results15, go_sem, *]) rfl ⟨by unfold frameV; rw [HG.out, HO.out], ?_⟩
      refine Kp.set (Kp.set (Kp.set (Kp.set hK' ?_ _) ?_ _) ?_ _) ?_ _ <;> exact Nat.le_refl _

theorem frame_any (p : Option Pc) (hp : PcOk p) (w : World) :
    Calls Try.prog 15 #[pval p] w fun e w' => e = .returned (frameV (fkOf p) (faOf p) (fbOf p) (fsOf p)) ∧ Kp w w' := by
  rcases p with _ | ⟨e, r⟩ | ⟨s, a, t⟩ | ⟨s, p, v, f, u, z⟩ | ⟨s, g, f⟩
  · exact frame_easy _ hp (by simp [fkOf]) w
  · exact frame_easy _ hp (by simp [fkOf]) w
  · exact frame_easy _ hp (by simp [fkOf]) w
  · exact frame_seal s p v f u z hp.1 hp.2.1 hp.2.2.1 hp.2.2.2 w
  · exact frame_floor s g f hp w
end Go.Proofs.Ytadggldngoknjaa
