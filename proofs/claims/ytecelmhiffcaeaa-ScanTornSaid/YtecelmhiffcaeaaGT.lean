/- Merged texts: Piece5, Piece6, RScan, RScan2, RScan3, Book, Book2, Tells. -/
import Derived.Test.YtecelmhiffcaeaaGF
import Derived.Deep.CutBlock
import Derived.Test.YtecelmhiffcaeaaGS
set_option linter.unusedSimpArgs false
set_option linter.unusedVariables false
/- The contracts of package piece, fifth part: Frame of a seal and of a floor; Frame as a whole. -/
namespace Go.Proofs.Ytecelmhiffcaeaa
open Go.RowKit
set_option linter.unusedVariables false
set_option maxRecDepth 20000

abbrev slob (s p v f u z : Int) : Obj := .cells #[.int .u32 s, .int .u32 p, .int .u32 v, .int .u32 f, .int .u32 u, .int .u32 z] 145
abbrev flob (s g f : Int) : Obj := .cells #[.int .u32 s, .int .u32 g, .int .u32 f] 147
theorem seal_keep (w : World) (s p v f u z : Int) (o : Obj) (W' : World) (h : Kp (((w.alloc (fob 0 0 0 ⟨#[]⟩)).alloc o).alloc (slob s p v f u z)) W') :
    W'.cell? ⟨w.heap.size + 2, 0, none⟩ = some (.int .u32 s) ∧ W'.cell? ⟨w.heap.size + 2, 1, none⟩ = some (.int .u32 p) ∧ W'.cell? ⟨w.heap.size + 2, 2, none⟩ = some (.int .u32 v) ∧ W'.cell? ⟨w.heap.size + 2, 3, none⟩ = some (.int .u32 f) ∧ W'.cell? ⟨w.heap.size + 2, 4, none⟩ = some (.int .u32 u) ∧ W'.cell? ⟨w.heap.size + 2, 5, none⟩ = some (.int .u32 z) := by
  have hb : Bk (((w.alloc (fob 0 0 0 ⟨#[]⟩)).alloc o).alloc (slob s p v f u z)) (w.heap.size + 2) 145 [.int .u32 s, .int .u32 p, .int .u32 v, .int .u32 f, .int .u32 u, .int .u32 z] := Bk.at _ _ [_, _, _, _, _, _] _ (by simp [go_sem])
  have hb := hb.keep h
  exact ⟨hb.cell 0, hb.cell 1, hb.cell 2, hb.cell 3, hb.cell 4, hb.cell 5⟩
theorem floor_keep (w : World) (s g f : Int) (o : Obj) (W' : World) (h : Kp (((w.alloc (fob 0 0 0 ⟨#[]⟩)).alloc o).alloc (flob s g f)) W') :
    W'.cell? ⟨w.heap.size + 2, 0, none⟩ = some (.int .u32 s) ∧ W'.cell? ⟨w.heap.size + 2, 1, none⟩ = some (.int .u32 g) ∧ W'.cell? ⟨w.heap.size + 2, 2, none⟩ = some (.int .u32 f) := by
  have hb : Bk (((w.alloc (fob 0 0 0 ⟨#[]⟩)).alloc o).alloc (flob s g f)) (w.heap.size + 2) 147 [.int .u32 s, .int .u32 g, .int .u32 f] := Bk.at _ _ [_, _, _] _ (by simp [go_sem])
  have hb := hb.keep h
  exact ⟨hb.cell 0, hb.cell 1, hb.cell 2⟩
/-- The two frames' boxes behind the store. -/
theorem stored (w : World) (o : Obj) (k a b : Int) (s : ByteArray) (W : World) (h : Kp (((w.alloc (fob 0 0 0 ⟨#[]⟩)).alloc (fob k a b s)).alloc o) W) :
    Kp w W ∧ Bk W w.heap.size 33 [.int .i64 0, .int .u32 0, .int .u32 0, .string ⟨#[]⟩] ∧ Bk W (w.heap.size + 1) 33 [.int .i64 k, .int .u32 a, .int .u32 b, .string s] :=
  ⟨Kp.trans ((((Kp.refl w).alloc _).alloc _).alloc _) h, two_frames w k a b s W (Kp.trans (Kp.one _ _) h)⟩

set_option maxRecDepth 20000 in
set_option maxHeartbeats 8000000 in
theorem frame_floor (s g f : Int) (hf : 0 ≤ f ∧ f ≤ 4294967295) (w : World) :
    Calls Try.prog 74 #[pval (some (.floor s g f))] w fun e w' => e = .returned (frameV 4 s g (put f.toNat)) ∧ Kp w w' := by
  have t1 := ta_head (some (.floor s g f))
  have t2 := ta_part (some (.floor s g f))
  have t3 := ta_seal (some (.floor s g f))
  have t4 := ta_floor (some (.floor s g f))
  simp only [pval, headV, partV, sealV, floorV] at t1 t2 t3 t4 ⊢
  obtain ⟨hf0, hf1⟩ := hf
  have HS := Lib.hid (stored w (flob s g f))
  have HK := Lib.hid (floor_keep w s g f)
  go_enter Try.func74, Try.ntmps74
  go_upto_block 0 with fail
  go_cut [] (fun wx => Kp w wx ∧ Bk wx w.heap.size 33 [.int .i64 0, .int .u32 0, .int .u32 0, .string ⟨#[]⟩] ∧ Bk wx (w.heap.size + 1) 33 [.int .i64 4, .int .u32 s, .int .u32 g, .string (put f.toNat)])
  case first =>
    go_wp2_with fail
    go_region_held3 (fun (W : World) => W.cell? ⟨w.heap.size + 2, 0, none⟩ = some (.int .u32 s) ∧ W.cell? ⟨w.heap.size + 2, 1, none⟩ = some (.int .u32 g) ∧ W.cell? ⟨w.heap.size + 2, 2, none⟩ = some (.int .u32 f)) ((exact HK.out _ _ (by (repeat (first | with_reducible exact Kp.refl _ | with_reducible assumption | with_reducible refine Kp.alloc ?_ _ | with_reducible refine Kp.drew ?_ | with_reducible refine Kp.drewN ?_ _ | exact Kp.refl _ | assumption | refine Kp.alloc ?_ _ | refine Kp.drew ?_ | refine Kp.drewN ?_ _ | refine Kp.trans ?_ (by assumption))))))
      (first
        | (go_at_call 87; refine (put_x f hf0 hf1 _).mono ?_; rintro e w' ⟨rfl, rfl⟩))
    all_goals go_wp2_with fail
    all_goals go_meet
    all_goals exact HS.out _ _ _ _ _ (by (repeat (first | with_reducible exact Kp.refl _ | with_reducible assumption | with_reducible refine Kp.alloc ?_ _ | with_reducible refine Kp.drew ?_ | with_reducible refine Kp.drewN ?_ _ | exact Kp.refl _ | assumption | refine Kp.alloc ?_ _ | refine Kp.drew ?_ | refine Kp.drewN ?_ _ | refine Kp.trans ?_ (by assumption))))
  case rest =>
    obtain ⟨hK, b0, b1⟩ := hcut
    have d0 := b1.cell 0
    have d1 := b1.cell 1
    have d2 := b1.cell 2
    have d3 := b1.cell 3
    have c0 := b0.cell 0
    have c1 := b0.cell 1
    have c2 := b0.cell 2
    have c3 := b0.cell 3
    have f0 := b0.free 0
    have f1 := b0.free 1
    have f2 := b0.free 2
    have f3 := b0.free 3
    simp only [List.getElem?_cons_zero, List.getElem?_cons_succ] at c0 c1 c2 c3 d0 d1 d2 d3
    have hps : (put f.toNat).size ≤ 9223372036854775807 := by rw [put_size]; omega
    generalize hgp : put f.toNat = body at *
    have HG := Lib.hid hgp
    clear hgp HK HS
    go_wp2_with fail
    refine (of_any _ _ _ _ hps _).mono ?_
    rintro e' w1 ⟨rfl, hk⟩
    have b0' := b0.keep hk
    have b1' := b1.keep hk
    have hK' := Kp.trans hK hk
    clear c0 c1 c2 c3 f0 f1 f2 f3 d0 d1 d2 d3 b0 b1
    have c0 := b0'.cell 0
    have c1 := b0'.cell 1
    have c2 := b0'.cell 2
    have c3 := b0'.cell 3
    have f0 := b0'.free 0
    have f1 := b0'.free 1
    have f2 := b0'.free 2
    have f3 := b0'.free 3
    have d0 := b1'.cell 0
    have d1 := b1'.cell 1
    have d2 := b1'.cell 2
    have d3 := b1'.cell 3
    simp only [List.getElem?_cons_zero, List.getElem?_cons_succ] at c0 c1 c2 c3 d0 d1 d2 d3
    rcases ho : ofP 4 s g body with _ | q
    · simp only [pval, codeP]
      have HO := Lib.hid ho
      clear ho
      go_wp2_with fail
      refine bodyPost_ret (v := .tuple #[frv 0 0 0 ⟨#[]⟩, .int .i64 2]) (by simp [results, Try.results74, go_sem, *]) rfl ⟨by unfold frameV; rw [HG.out, HO.out], ?_⟩
      refine Kp.set (Kp.set (Kp.set (Kp.set hK' ?_ _) ?_ _) ?_ _) ?_ _ <;> exact Nat.le_refl _
    · simp only [codeP]
      generalize pval (some q) = pv
      have HO := Lib.hid ho
      clear ho
      go_wp2_with fail
      refine bodyPost_ret (v := .tuple #[frv 4 s g body, .int .i64 0]) (by simp [results, Try.results74, go_sem, *]) rfl ⟨by unfold frameV; rw [HG.out, HO.out], ?_⟩
      refine Kp.set (Kp.set (Kp.set (Kp.set hK' ?_ _) ?_ _) ?_ _) ?_ _ <;> exact Nat.le_refl _
set_option maxRecDepth 20000 in
set_option maxHeartbeats 16000000 in
theorem frame_seal (s p v f u z : Int) (hv : 0 ≤ v ∧ v ≤ 4294967295) (hf : 0 ≤ f ∧ f ≤ 4294967295) (hu : 0 ≤ u ∧ u ≤ 4294967295) (hz : 0 ≤ z ∧ z ≤ 4294967295) (w : World) :
    Calls Try.prog 74 #[pval (some (.slp s p v f u z))] w fun e w' => e = .returned (frameV 3 s p (put v.toNat ++ put f.toNat ++ put u.toNat ++ put z.toNat)) ∧ Kp w w' := by
  have t1 := ta_head (some (.slp s p v f u z))
  have t2 := ta_part (some (.slp s p v f u z))
  have t3 := ta_seal (some (.slp s p v f u z))
  have t4 := ta_floor (some (.slp s p v f u z))
  simp only [pval, headV, partV, sealV, floorV] at t1 t2 t3 t4 ⊢
  obtain ⟨hv0, hv1⟩ := hv
  obtain ⟨hf0, hf1⟩ := hf
  obtain ⟨hu0, hu1⟩ := hu
  obtain ⟨hz0, hz1⟩ := hz
  have HS := Lib.hid (stored w (slob s p v f u z))
  have HK := Lib.hid (seal_keep w s p v f u z)
  have hps4 := put_size
  go_enter Try.func74, Try.ntmps74
  go_upto_block 0 with fail
  go_cut [] (fun wx => Kp w wx ∧ Bk wx w.heap.size 33 [.int .i64 0, .int .u32 0, .int .u32 0, .string ⟨#[]⟩] ∧ Bk wx (w.heap.size + 1) 33 [.int .i64 3, .int .u32 s, .int .u32 p, .string (put v.toNat ++ put f.toNat ++ put u.toNat ++ put z.toNat)])
  case first =>
    go_wp2_with fail
    go_region_held3 (fun (W : World) => W.cell? ⟨w.heap.size + 2, 0, none⟩ = some (.int .u32 s) ∧ W.cell? ⟨w.heap.size + 2, 1, none⟩ = some (.int .u32 p) ∧ W.cell? ⟨w.heap.size + 2, 2, none⟩ = some (.int .u32 v) ∧ W.cell? ⟨w.heap.size + 2, 3, none⟩ = some (.int .u32 f) ∧ W.cell? ⟨w.heap.size + 2, 4, none⟩ = some (.int .u32 u) ∧ W.cell? ⟨w.heap.size + 2, 5, none⟩ = some (.int .u32 z)) ((exact HK.out _ _ (by (repeat (first | with_reducible exact Kp.refl _ | with_reducible assumption | with_reducible refine Kp.alloc ?_ _ | with_reducible refine Kp.drew ?_ | with_reducible refine Kp.drewN ?_ _ | exact Kp.refl _ | assumption | refine Kp.alloc ?_ _ | refine Kp.drew ?_ | refine Kp.drewN ?_ _ | refine Kp.trans ?_ (by assumption))))))
      (first
        | (go_at_call 87; refine (put_x _ (by omega) (by omega) _).mono ?_; rintro e w' ⟨rfl, rfl⟩))
    all_goals go_wp2_with fail
    all_goals go_meet
    all_goals exact HS.out _ _ _ _ _ (by (repeat (first | with_reducible exact Kp.refl _ | with_reducible assumption | with_reducible refine Kp.alloc ?_ _ | with_reducible refine Kp.drew ?_ | with_reducible refine Kp.drewN ?_ _ | exact Kp.refl _ | assumption | refine Kp.alloc ?_ _ | refine Kp.drew ?_ | refine Kp.drewN ?_ _ | refine Kp.trans ?_ (by assumption))))
  case rest =>
    obtain ⟨hK, b0, b1⟩ := hcut
    have d0 := b1.cell 0
    have d1 := b1.cell 1
    have d2 := b1.cell 2
    have d3 := b1.cell 3
    have c0 := b0.cell 0
    have c1 := b0.cell 1
    have c2 := b0.cell 2
    have c3 := b0.cell 3
    have f0 := b0.free 0
    have f1 := b0.free 1
    have f2 := b0.free 2
    have f3 := b0.free 3
    simp only [List.getElem?_cons_zero, List.getElem?_cons_succ] at c0 c1 c2 c3 d0 d1 d2 d3
    have hps : (put v.toNat ++ put f.toNat ++ put u.toNat ++ put z.toNat).size ≤ 9223372036854775807 := by simp only [ByteArray.size_append, put_size]; omega
    generalize hgp : put v.toNat ++ put f.toNat ++ put u.toNat ++ put z.toNat = body at *
    have HG := Lib.hid hgp
    clear hgp HK HS hps4
    go_wp2_with fail
    refine (of_any _ _ _ _ hps _).mono ?_
    rintro e' w1 ⟨rfl, hk⟩
    have b0' := b0.keep hk
    have b1' := b1.keep hk
    have hK' := Kp.trans hK hk
    clear c0 c1 c2 c3 f0 f1 f2 f3 d0 d1 d2 d3 b0 b1
    have c0 := b0'.cell 0
    have c1 := b0'.cell 1
    have c2 := b0'.cell 2
    have c3 := b0'.cell 3
    have f0 := b0'.free 0
    have f1 := b0'.free 1
    have f2 := b0'.free 2
    have f3 := b0'.free 3
    have d0 := b1'.cell 0
    have d1 := b1'.cell 1
    have d2 := b1'.cell 2
    have d3 := b1'.cell 3
    simp only [List.getElem?_cons_zero, List.getElem?_cons_succ] at c0 c1 c2 c3 d0 d1 d2 d3
    rcases ho : ofP 3 s p body with _ | q
    · simp only [pval, codeP]
      have HO := Lib.hid ho
      clear ho
      go_wp2_with fail
      refine bodyPost_ret (v := .tuple #[frv 0 0 0 ⟨#[]⟩, .int .i64 2]) (by simp [results, Try.results74, go_sem, *]) rfl ⟨by unfold frameV; rw [HG.out, HO.out], ?_⟩
      refine Kp.set (Kp.set (Kp.set (Kp.set hK' ?_ _) ?_ _) ?_ _) ?_ _ <;> exact Nat.le_refl _
    · simp only [codeP]
      generalize pval (some q) = pv
      have HO := Lib.hid ho
      clear ho
      go_wp2_with fail
      refine bodyPost_ret (v := .tuple #[frv 3 s p body, .int .i64 0]) (by simp [results, Try.results74, go_sem, *]) rfl ⟨by unfold frameV; rw [HG.out, HO.out], ?_⟩
      refine Kp.set (Kp.set (Kp.set (Kp.set hK' ?_ _) ?_ _) ?_ _) ?_ _ <;> exact Nat.le_refl _

theorem frame_any (p : Option Pc) (hp : PcOk p) (w : World) :
    Calls Try.prog 74 #[pval p] w fun e w' => e = .returned (frameV (fkOf p) (faOf p) (fbOf p) (fsOf p)) ∧ Kp w w' := by
  rcases p with _ | ⟨e, r⟩ | ⟨s, a, t⟩ | ⟨s, p, v, f, u, z⟩ | ⟨s, g, f⟩
  · exact frame_easy _ hp (by simp [fkOf]) w
  · exact frame_easy _ hp (by simp [fkOf]) w
  · exact frame_easy _ hp (by simp [fkOf]) w
  · exact frame_seal s p v f u z hp.1 hp.2.1 hp.2.2.1 hp.2.2.2 w
  · exact frame_floor s g f hp w
end Go.Proofs.Ytecelmhiffcaeaa
/- The reference's PieceRight as a whole; 'alive'; 'one'. -/
namespace Go.Proofs.Ytecelmhiffcaeaa
open Go.RowKit
set_option linter.unusedVariables false
set_option maxRecDepth 20000

theorem ofP_in (k a b : Int) (s : ByteArray) (h1 : 1 ≤ a) (h2 : a ≤ 2147483647) : ofP k a b s =
    if k = 1 ∧ s.toList.isEmpty = true then some (.head a b)
    else if k = 2 ∧ s.toList.isEmpty = false then some (.part a b s)
    else if k = 3 ∧ s.size = 16 ∧ b ≠ 0 ∧ (get4 s 0 : Int) < a ∧ 1 ≤ get4 s 4 ∧ (get4 s 4 : Int) ≤ a ∧ get4 s 12 ≠ 0 then some (.slp a b (get4 s 0) (get4 s 4) (get4 s 8) (get4 s 12))
    else if k = 4 ∧ s.size = 4 ∧ (get4 s 0 : Int) ≤ a then some (.floor a b (get4 s 0))
    else none := by
  unfold ofP; rw [if_pos ⟨h1, h2⟩]
theorem seal_way (a b : Int) (s : ByteArray) (h1 : 1 ≤ a) (h2 : a ≤ 2147483647) : SealWay a b s (ofP 3 a b s).isSome := by
  rw [ofP_in _ _ _ _ h1 h2, if_neg (by omega), if_neg (by omega)]
  unfold SealWay
  by_cases e1 : b = 0
  · refine Or.inl ⟨by simp [e1], ?_⟩
    rw [if_neg (fun h => h.2.2.1 e1), if_neg (by omega)]; rfl
  have f1 : (b != 0) = true := by simpa using e1
  by_cases e2 : s.size = 16
  rotate_left
  · refine Or.inr (Or.inl ⟨f1, by simp; omega, ?_⟩)
    rw [if_neg (fun h => e2 h.2.1), if_neg (by omega)]; rfl
  have f2 : ((s.size : Int) == 16) = true := by simp [e2]
  by_cases e3 : (get4 s 0 : Int) < a
  rotate_left
  · refine Or.inr (Or.inr (Or.inl ⟨f1, f2, e2, by simpa using e3, ?_⟩))
    rw [if_neg (fun h => e3 h.2.2.2.1), if_neg (by omega)]; rfl
  by_cases e4 : 1 ≤ get4 s 4
  rotate_left
  · refine Or.inr (Or.inr (Or.inr (Or.inl ⟨f1, f2, e2, by simpa using e3, by simp; omega, ?_⟩)))
    rw [if_neg (fun h => e4 h.2.2.2.2.1), if_neg (by omega)]; rfl
  by_cases e5 : (get4 s 4 : Int) ≤ a
  rotate_left
  · refine Or.inr (Or.inr (Or.inr (Or.inr (Or.inl ⟨f1, f2, e2, by simpa using e3, by simp; omega, by simpa using e5, ?_⟩))))
    rw [if_neg (fun h => e5 h.2.2.2.2.2.1), if_neg (by omega)]; rfl
  refine Or.inr (Or.inr (Or.inr (Or.inr (Or.inr ⟨f1, f2, e2, by simpa using e3, by simp; omega, by simpa using e5, ?_⟩))))
  by_cases e6 : get4 s 12 = 0
  · rw [if_neg (fun h => h.2.2.2.2.2.2 e6), if_neg (by omega)]; simp [e6]
  · rw [if_pos ⟨rfl, e2, e1, e3, e4, e5, e6⟩]; simp; omega
theorem floor_way (a b : Int) (s : ByteArray) (h1 : 1 ≤ a) (h2 : a ≤ 2147483647) : FloorWay a s (ofP 4 a b s).isSome := by
  rw [ofP_in _ _ _ _ h1 h2, if_neg (by omega), if_neg (by omega), if_neg (by omega)]
  unfold FloorWay
  by_cases e2 : s.size = 4
  rotate_left
  · refine Or.inl ⟨by simp; omega, ?_⟩
    rw [if_neg (fun h => e2 h.2.1)]; rfl
  refine Or.inr ⟨by simp [e2], e2, ?_⟩
  by_cases e3 : (get4 s 0 : Int) ≤ a
  · rw [if_pos ⟨rfl, e2, e3⟩]; simp [e3]
  · rw [if_neg (fun h => e3 h.2.2)]; simp [e3]
theorem pr_any (k a b : Int) (s : ByteArray) (hs : s.size ≤ 9223372036854775807) (w : World) :
    Calls Try.prog 78 #[frv k a b s] w fun e w' => e = .returned (.bool (ofP k a b s).isSome) ∧ Kp w w' := by
  by_cases h : 1 ≤ a ∧ a ≤ 2147483647
  rotate_left
  · have e : ofP k a b s = none := by unfold ofP; rw [if_neg h]
    rw [e]; exact pr_bad k a b s (by omega) w
  obtain ⟨h1, h2⟩ := h
  by_cases k1 : k = 1
  · subst k1
    refine pr_easy 1 a b s h1 h2 _ (Or.inl ⟨rfl, ?_⟩) w
    rw [ofP_in _ _ _ _ h1 h2]
    rcases hb : s.toList.isEmpty with _ | _
    · rw [if_neg (by simp), if_neg (by omega), if_neg (by omega), if_neg (by omega)]; rfl
    · rw [if_pos ⟨rfl, rfl⟩]; rfl
  by_cases k2 : k = 2
  · subst k2
    refine pr_easy 2 a b s h1 h2 _ (Or.inr (Or.inl ⟨rfl, ?_⟩)) w
    rw [ofP_in _ _ _ _ h1 h2, if_neg (by omega)]
    rcases hb : s.toList.isEmpty with _ | _
    · rw [if_pos ⟨rfl, rfl⟩]; rfl
    · rw [if_neg (by simp), if_neg (by omega), if_neg (by omega)]; rfl
  by_cases k3 : k = 3
  · subst k3; exact pr_seal a b s h1 h2 hs _ (seal_way a b s h1 h2) w
  by_cases k4 : k = 4
  · subst k4; exact pr_floor a b s h1 h2 hs _ (floor_way a b s h1 h2) w
  refine pr_easy k a b s h1 h2 _ (Or.inr (Or.inr ⟨by simpa using k1, by simpa using k2, by simpa using k3, by simpa using k4, ?_⟩)) w
  rw [ofP_in _ _ _ _ h1 h2, if_neg (fun h => k1 h.1), if_neg (fun h => k2 h.1), if_neg (fun h => k3 h.1), if_neg (fun h => k4 h.1)]; rfl

theorem emp : (ByteArray.mk #[]).toList.isEmpty = true := by decide +kernel
theorem of_h12 (w : World) : Calls Try.prog 67 #[frv 1 1 2 ⟨#[]⟩] w fun e w' => e = .returned (.tuple #[pval (some (.head 1 2)), .int .i64 0]) ∧ Kp w w' :=
  of_head 1 2 ⟨#[]⟩ (by omega) (by omega) emp w
theorem frame_h12 (w : World) : Calls Try.prog 74 #[pval (some (.head 1 2))] w fun e w' => e = .returned (.tuple #[frv 1 1 2 ⟨#[]⟩, .int .i64 0]) ∧ Kp w w' := by
  have := frame_any (some (.head 1 2)) trivial w
  have e : frameV (fkOf (some (.head 1 2))) (faOf (some (.head 1 2))) (fbOf (some (.head 1 2))) (fsOf (some (.head 1 2))) = .tuple #[frv 1 1 2 ⟨#[]⟩, .int .i64 0] := by
    simp only [fkOf, faOf, fbOf, fsOf]
    have : ofP 1 1 2 ⟨#[]⟩ = some (.head 1 2) := by rw [ofP_in _ _ _ _ (by omega) (by omega), if_pos ⟨rfl, emp⟩]
    unfold frameV; rw [this]
  rwa [e] at this

end Go.Proofs.Ytecelmhiffcaeaa
/- The reference's scan: rest. -/
namespace Go.Proofs.Ytecelmhiffcaeaa
open Go.RowKit
set_option linter.unusedVariables false
set_option maxRecDepth 20000
theorem pgs_get (d : Dev) (p s i : Int) (k : Nat) (hk : (k : Int) < s) : (pgs d p s i).getD k ⟨#[]⟩ = heldD d p (i * s + (k : Int)) := by
  unfold pgs
  rw [List.getD_eq_getElem?_getD, List.getElem?_map, List.getElem?_range (by omega)]
  rfl
theorem pgs_len (d : Dev) (p s i : Int) : (pgs d p s i).length = s.toNat := by simp [pgs]
theorem drop_getD {l : List ByteArray} {k : Nat} (h : k < l.length) : l.drop k = l.getD k ⟨#[]⟩ :: l.drop (k + 1) := by
  rw [List.drop_eq_getElem_cons h, List.getD_eq_getElem?_getD, List.getElem?_eq_getElem h]
  rfl
section
variable {W : World} {g ib ic : Nat} {p s r : Int} {d : Dev} {v : Value}
set_option maxHeartbeats 1600000 in
theorem rrest (h : RfX W g ib ic p s r d v) (ok : DevOk p s r d) (i : Int) (h0 : 0 ≤ i) (h1 : i < r) (j0 : Nat) (hj0 : (j0 : Int) ≤ s) :
    Calls Try.prog 79 #[.pointer (some ⟨g, 0, none⟩), .int .i64 i, .int .i64 j0] W fun e w' => e = .returned (.bool (((pgs d p s i).drop j0).all blankB)) ∧ Kp W w' := by
  have hR := ok.right
  obtain ⟨r1, r2, r3, r4, r5, r6⟩ := id hR
  have HH := Lib.hid (fun W' (k : Kp W W') (page : Int) a b => rheld (h.keep k) ok page a b)
  have HC := Lib.hid (fun W' (k : Kp W W') => (h.keep k).c8)
  have HSZ := Lib.hid (fun (x : Int) x0 x1 => heldD_size ok x x0 x1)
  obtain ⟨m1, m2, m3⟩ := page_lt hR h0 h1 (show (0 : Int) ≤ 0 by omega) (show (0 : Int) < s by omega)
  have q1 : IntKind.i64.wrap (i * s) = i * s := IntWalk.i64_in _ (by omega)
  obtain ⟨c0, c1, c2, c3, c4, c5, c6, c7⟩ := h.c8
  have hPL := pgs_len d p s i
  have HPL := Lib.hid hPL
  have HPG := Lib.hid (fun k hk => pgs_get d p s i k hk)
  have HG0 : Hid (∀ x : Nat, j0 ≤ x → x < j0 → blankB ((pgs d p s i).getD x ⟨#[]⟩) = true) := Lib.hid (by omega)
  clear hPL
  generalize pgs d p s i = ss at *
  go_enter Try.func79, Try.ntmps79
  go_wp2_with fail
  go_loopw [7] (fun i wr => ∃ j : Nat, j0 ≤ j ∧ (j : Int) ≤ s ∧ i = .int .i64 j ∧ Kp W wr ∧ (ss.drop j0).all blankB = (ss.drop j).all blankB) (fun i _ => s.toNat - (intOf i).toNat)
  case atStart => exact ⟨j0, Nat.le_refl _, hj0, rfl, Kp.refl _, rfl⟩
  case round =>
    obtain ⟨j, hjj, hj, rfl, hKr, hall⟩ := hrel
    have HALL := Lib.hid hall
    obtain ⟨c0, c1, c2, c3, c4, c5, c6, c7⟩ := HC.out _ hKr
    clear hall
    by_cases hlt : (j : Int) < s
    · obtain ⟨m1, m2, m3⟩ := page_lt hR h0 h1 (show (0 : Int) ≤ (j : Int) by omega) hlt
      have q2 : IntKind.i64.wrap (i * s + (j : Int)) = i * s + (j : Int) := IntWalk.i64_in _ (by omega)
      have q5 : IntKind.i64.wrap ((j : Int) + 1) = (j : Int) + 1 := IntWalk.i64_in _ (by omega)
      have d5 : decide ((j : Int) < s) = true := by simpa using hlt
      have hjl : j < ss.length := by rw [HPL.out]; omega
      have hdr := drop_getD hjl
      rw [HPG.out j hlt] at hdr
      have HHE := HH.out _ hKr (i * s + (j : Int)) (by omega) (by omega)
      have hsz := HSZ.out (i * s + (j : Int)) (by omega) (by omega)
      generalize heldD d p (i * s + (j : Int)) = x at *
      have HBL := Lib.hid (fun W' => rblank_any x (by omega) W')
      have HA := Lib.hid (show (ss.drop j0).all blankB = (blankB x && (ss.drop (j + 1)).all blankB) by rw [HALL.out, hdr]; rfl)
      clear hdr hsz
      rcases hb : blankB x with _ | _
      · rw [hb] at HBL HA
        go_wp2_with fail
        refine HHE.mono ?_
        rintro e w1 ⟨rfl, hk1⟩
        go_wp2_with fail
        refine (HBL.out _).mono ?_
        rintro e w2 ⟨rfl, rfl⟩
        go_wp2_with fail
        go_ret
        exact ⟨by rw [HA.out]; rfl, hKr.trans hk1⟩
      · rw [hb] at HBL HA
        go_wp2_with fail
        refine HHE.mono ?_
        rintro e w1 ⟨rfl, hk1⟩
        go_wp2_with fail
        refine (HBL.out _).mono ?_
        rintro e w2 ⟨rfl, rfl⟩
        go_wp2_with fail
        go_roundw
        case rel => exact ⟨j + 1, by omega, by omega, by go_num, hKr.trans hk1, by rw [HA.out]; rfl⟩
        case measure => simp [intOf]; omega
    · have d5 : decide ((j : Int) < s) = false := by simp; omega
      have hdr : ss.drop j = [] := List.drop_eq_nil_of_le (by rw [HPL.out]; omega)
      have HA : Hid ((ss.drop j0).all blankB = true) := Lib.hid (by rw [HALL.out, hdr]; rfl)
      go_wp2_with fail
      go_ret
      exact ⟨by rw [HA.out]; rfl, hKr⟩
end
end Go.Proofs.Ytecelmhiffcaeaa
/- The reference's scan: ScanRegion. -/
namespace Go.Proofs.Ytecelmhiffcaeaa
open Go.RowKit
set_option linter.unusedVariables false
set_option maxRecDepth 20000
/-- What a page is to the reference. -/
theorem scan_cases (s : ByteArray) : ((readF s).2 ≠ 0 ∧ goodP s = false ∧ ∀ i, epF i s = none) ∨
    ((readF s).2 = 0 ∧ (ofP (readF s).1.k (readF s).1.a (readF s).1.b (readF s).1.t).isSome = false ∧ goodP s = false ∧ ∀ i, epF i s = none) ∨
    ((readF s).2 = 0 ∧ (ofP (readF s).1.k (readF s).1.a (readF s).1.b (readF s).1.t).isSome = true ∧ (readF s).1.k = 1 ∧ 1 ≤ (readF s).1.a ∧ goodP s = false ∧ ∀ i, epF i s = if (readF s).1.b = i then some (readF s).1.a else none) ∨
    ((readF s).2 = 0 ∧ (ofP (readF s).1.k (readF s).1.a (readF s).1.b (readF s).1.t).isSome = true ∧ (readF s).1.k ≠ 1 ∧ goodP s = true ∧ ∀ i, epF i s = none) := by
  by_cases hc : (readF s).2 = 0
  · have hs : scP s = ofP (readF s).1.k (readF s).1.a (readF s).1.b (readF s).1.t := by unfold scP; rw [if_pos hc]
    generalize (readF s).1 = x at *
    unfold goodP epF
    rw [hs]
    unfold ofP
    by_cases ha : 1 ≤ x.a ∧ x.a ≤ 2147483647
    · rw [if_pos ha]
      by_cases h1 : x.k = 1 ∧ x.t.toList.isEmpty = true
      · rw [if_pos h1]
        exact Or.inr (Or.inr (Or.inl ⟨hc, rfl, h1.1, ha.1, rfl, fun i => rfl⟩))
      · rw [if_neg h1]
        by_cases h2 : x.k = 2 ∧ x.t.toList.isEmpty = false
        · rw [if_pos h2]
          exact Or.inr (Or.inr (Or.inr ⟨hc, rfl, by omega, rfl, fun i => rfl⟩))
        · rw [if_neg h2]
          by_cases h3 : x.k = 3 ∧ x.t.size = 16 ∧ x.b ≠ 0 ∧ (get4 x.t 0 : Int) < x.a ∧ 1 ≤ get4 x.t 4 ∧ (get4 x.t 4 : Int) ≤ x.a ∧ get4 x.t 12 ≠ 0
          · rw [if_pos h3]
            exact Or.inr (Or.inr (Or.inr ⟨hc, rfl, by omega, rfl, fun i => rfl⟩))
          · rw [if_neg h3]
            by_cases h4 : x.k = 4 ∧ x.t.size = 4 ∧ (get4 x.t 0 : Int) ≤ x.a
            · rw [if_pos h4]
              exact Or.inr (Or.inr (Or.inr ⟨hc, rfl, by omega, rfl, fun i => rfl⟩))
            · rw [if_neg h4]
              exact Or.inr (Or.inl ⟨hc, rfl, rfl, fun i => rfl⟩)
    · rw [if_neg ha]
      exact Or.inr (Or.inl ⟨hc, rfl, rfl, fun i => rfl⟩)
  · have hs : scP s = none := by unfold scP; rw [if_neg hc]
    unfold goodP epF
    rw [hs]
    exact Or.inl ⟨hc, rfl, fun i => rfl⟩
theorem take_all (l : List ByteArray) (k : Nat) (h : k < l.length) : (l.take (k + 1)).all blankB = ((l.take k).all blankB && blankB (l.getD k ⟨#[]⟩)) := by
  rw [List.take_succ_eq_append_getElem h, List.all_append, List.getD_eq_getElem?_getD, List.getElem?_eq_getElem h]
  simp
/-- What holds at the head of ScanRegion's loop. -/
def RrB (i : Int) (ss : List ByteArray) (gx : Nat) (k : Nat) (wr : World) : Prop :=
  Bk wr gx 44 [.int .i64 i, .int .u32 0, .slice none 0 0, .bool ((ss.take k).all blankB)] ∧ (0 < k → epF i (ss.getD 0 ⟨#[]⟩) = none)
def RrA (i : Int) (ss : List ByteArray) (gx : Nat) (k : Nat) (wr : World) : Prop :=
  ∃ (e : Int) (A : Option Addr) (c k' : Nat), k = k' + 1 ∧ epF i (ss.getD 0 ⟨#[]⟩) = some e ∧ e ≠ 0 ∧ Bk wr gx 44 [.int .i64 i, .int .u32 e, .slice A k' c, .bool true] ∧
    wr.ownsRow (gx + 1) 33 4 (.slice A k' c) k' (fvs (((ss.drop 1).take k').map rdf)) ∧ ∀ z, z < k' → goodP ((ss.drop 1).getD z ⟨#[]⟩) = true
def RrI (W : World) (s : Int) (i : Int) (ss : List ByteArray) (gb gx : Nat) (iv : Value) (wr : World) : Prop :=
  ∃ k : Nat, (k : Int) ≤ s ∧ iv = .int .i64 k ∧ Kp W wr ∧ Bk wr gb 44 [.int .i64 0, .int .u32 0, .slice none 0 0, .bool false] ∧ (RrB i ss gx k wr ∨ RrA i ss gx k wr)
section
variable {W : World} {g ib ic : Nat} {p s r : Int} {d : Dev} {v : Value}
set_option maxHeartbeats 12800000 in
theorem rscan (h : RfX W g ib ic p s r d v) (ok : DevOk p s r d) (hd : d.down = false) (i i0 : Int) (hi0 : i0 = i) (h0 : 0 ≤ i) (h1 : i < r) :
    Calls Try.prog 55 #[.pointer (some ⟨g, 0, none⟩), .int .i64 i] W (FdPost W (regF i0 (pgs d p s i0))) := by
  have hR := ok.right
  obtain ⟨r1, r2, r3, r4, r5, r6⟩ := id hR
  have HC := Lib.hid (fun W' (k : Kp W W') => (h.keep k).c8)
  have HRS := Lib.hid (fun W' (k : Kp W W') (j0 : Nat) hj => rrest (h.keep k) ok i h0 h1 j0 hj)
  have HRD : Hid (∀ W' pg, Kp W W' → 0 ≤ pg → pg < s * r → Calls Try.prog 76 #[.pointer (some ⟨g, 0, none⟩), .int .i64 pg] W' fun e w' => e = .returned (.tuple #[.string (heldD d p pg), .int .i64 0]) ∧ Kp W' w') := Lib.hid (fun W' pg k g0 g1 => by
    have H := rread (h.keep k) ok pg
    rw [show readD p s r d pg = (heldD d p pg, 0) by unfold readD; rw [if_neg (by rw [hd]; simp), if_neg (by omega)]] at H
    exact H)
  have HSZ := Lib.hid (fun (x : Int) x0 x1 => heldD_size ok x x0 x1)
  obtain ⟨m1, m2, m3⟩ := page_lt hR h0 h1 (show (0 : Int) ≤ 0 by omega) (show (0 : Int) < s by omega)
  have q1 : IntKind.i64.wrap (i * s) = i * s := IntWalk.i64_in _ (by omega)
  have qi : IntKind.u32.wrap i = i := IntWalk.u32_in _ (by omega)
  have HPL := Lib.hid (pgs_len d p s i)
  have HPG := Lib.hid (fun k hk => pgs_get d p s i k hk)
  obtain ⟨c0, c1, c2, c3, c4, c5, c6, c7⟩ := h.c8
  rw [hi0]
  generalize pgs d p s i = ss at *
  have hb0 := Bk.new W 44 [.int .i64 0, .int .u32 0, .slice none 0 0, .bool false]
  have hb2 := hb0.alloc (.cells #[.int .i64 i, .int .u32 0, .slice none 0 0, .bool true] 44)
  have hx2 : Bk ((W.alloc (.cells #[.int .i64 0, .int .u32 0, .slice none 0 0, .bool false] 44)).alloc (.cells #[.int .i64 i, .int .u32 0, .slice none 0 0, .bool true] 44)) (W.heap.size + 1) 44 [.int .i64 i, .int .u32 0, .slice none 0 0, .bool true] := by
    have := Bk.new (W.alloc (.cells #[.int .i64 0, .int .u32 0, .slice none 0 0, .bool false] 44)) 44 [.int .i64 i, .int .u32 0, .slice none 0 0, .bool true]
    rw [show (W.alloc (.cells #[.int .i64 0, .int .u32 0, .slice none 0 0, .bool false] 44)).heap.size = W.heap.size + 1 by simp] at this
    exact this
  have hk2 := (Kp.one W (.cells #[.int .i64 0, .int .u32 0, .slice none 0 0, .bool false] 44)).alloc (.cells #[.int .i64 i, .int .u32 0, .slice none 0 0, .bool true] 44)
  go_enter Try.func55, Try.ntmps55
  go_wp2_with fail
  generalize (W.alloc (.cells #[.int .i64 0, .int .u32 0, .slice none 0 0, .bool false] 44)).alloc (.cells #[.int .i64 i, .int .u32 0, .slice none 0 0, .bool true] 44) = w2 at *
  obtain ⟨gb, hgb⟩ : ∃ gb, gb = W.heap.size := ⟨_, rfl⟩
  obtain ⟨gx, hgx⟩ : ∃ gx, gx = W.heap.size + 1 := ⟨_, rfl⟩
  rw [← hgx, ← hgb]
  rw [← hgb] at hb2
  rw [← hgx] at hx2
  have HGB := Lib.hid hgb
  have HGX := Lib.hid hgx
  have hn1 : gb ≠ gx := by omega
  have hn2 : gx ≠ gb := by omega
  clear hgb hgx hb0
  go_loopw [7] (fun iv wr => RrI W s i ss gb gx iv wr) (fun iv _ => s.toNat - (intOf iv).toNat)
  case atStart => exact ⟨0, by omega, rfl, hk2, hb2, Or.inl ⟨hx2, by omega⟩⟩
  case round =>
    obtain ⟨k, hk, rfl, hKr, hBr, hph⟩ := hrel
    clear hb2 hx2 hk2 c0 c1 c2 c3 c4 c5 c6 c7
    obtain ⟨c0, c1, c2, c3, c4, c5, c6, c7⟩ := HC.out _ hKr
    by_cases hlt : (k : Int) < s
    · obtain ⟨m1, m2, m3⟩ := page_lt hR h0 h1 (show (0 : Int) ≤ (k : Int) by omega) hlt
      have q2 : IntKind.i64.wrap (i * s + (k : Int)) = i * s + (k : Int) := IntWalk.i64_in _ (by omega)
      have q5 : IntKind.i64.wrap ((k : Int) + 1) = (k : Int) + 1 := IntWalk.i64_in _ (by omega)
      have q6 : IntKind.i64.wrap ((k : Int) - 1) = (k : Int) - 1 := IntWalk.i64_in _ (by omega)
      have d5 : decide ((k : Int) < s) = true := by simpa using hlt
      have hkl : k < ss.length := by rw [HPL.out]; omega
      have HKL := Lib.hid hkl
      have hgd := HPG.out k hlt
      have hsz := HSZ.out (i * s + (k : Int)) (by omega) (by omega)
      have HRE := Lib.hid (HRD.out _ (i * s + (k : Int)) hKr (by omega) (by omega))
      rw [← hgd] at hsz HRE
      have HTA := Lib.hid (take_all ss k hkl)
      have HTK : Hid ((ss.drop 1).getD (k - 1) ⟨#[]⟩ = (if k = 0 then (ss.drop 1).getD 0 ⟨#[]⟩ else ss.getD k ⟨#[]⟩)) := Lib.hid (by
        by_cases e : k = 0
        · subst e; rfl
        · rw [if_neg e, List.getD_eq_getElem?_getD, List.getElem?_drop, show 1 + (k - 1) = k by omega, List.getD_eq_getElem?_getD])
      have HS0 : Hid (k = 0 → ss.getD 0 ⟨#[]⟩ = ss.getD k ⟨#[]⟩) := Lib.hid (fun e => by rw [e])
      generalize hs1 : ss.getD k ⟨#[]⟩ = s1 at *
      have hsm : s1.size ≤ 9223372036854775807 := by omega
      have HFR := Lib.hid (fun W' => rreadR s1 hsm (readF s1).1 (readF s1).2 rfl W')
      have hts := readF_size s1
      have HPR := Lib.hid (fun W' => pr_any (readF s1).1.k (readF s1).1.a (readF s1).1.b (readF s1).1.t (by omega) W')
      have HBL := Lib.hid (fun W' => rblank_any s1 hsm W')
      have hsc := scan_cases s1
      have HX1 : Hid (rdf s1 = (readF s1).1) := Lib.hid rfl
      have HGO := Lib.hid hs1
      clear hs1 hgd hsz hts
      generalize (readF s1).1 = x1 at *
      generalize (readF s1).2 = c at *
      generalize hpr : (ofP x1.k x1.a x1.b x1.t).isSome = pr at *
      clear hpr
      generalize hbb : blankB s1 = bb at *
      have HBB := Lib.hid hbb
      clear hbb
      go_wp2_with fail
      refine (HRE.out).mono ?_
      rintro e w3 ⟨rfl, hk3⟩
      go_wp2_with fail
      refine (HFR.out _).mono ?_
      rintro e w4 ⟨rfl, hk4⟩
      have hk5 := (hk3.trans hk4).alloc (.cells #[.int .i64 x1.k, .int .u32 x1.a, .int .u32 x1.b, .string x1.t] 33)
      have hA5 := Bk.new w4 33 [.int .i64 x1.k, .int .u32 x1.a, .int .u32 x1.b, .string x1.t]
      have hbAn := (hk3.trans hk4).size
      have hA5 : Bk (w4.alloc (.cells #[.int .i64 x1.k, .int .u32 x1.a, .int .u32 x1.b, .string x1.t] 33)) w4.heap.size 33 [.int .i64 x1.k, .int .u32 x1.a, .int .u32 x1.b, .string x1.t] := hA5
      clear hk3 hk4
      go_upto_region 9 with fail
      generalize w4.alloc (.cells #[.int .i64 x1.k, .int .u32 x1.a, .int .u32 x1.b, .string x1.t] 33) = wc at *
      generalize w4.heap.size = bA at *
      obtain ⟨n0, n1, n2, n3⟩ := (show _ ∧ _ ∧ _ ∧ _ from hA5.c4g)
      have hgbW : W.heap.size ≤ gb := by rw [HGB.out]; exact Nat.le_refl _
      have hgxW : W.heap.size ≤ gx := by rw [HGX.out]; omega
      have hbx : gb < gx + 1 := by rw [HGB.out, HGX.out]; omega
      rcases hph with ⟨hXr, hB0⟩ | ⟨e, A, cA, k', hkk, hepA, he0, hXr, hOr, hall⟩
      · generalize hcl : (ss.take k).all blankB = cl at *
        have HCL := Lib.hid hcl
        have HB0 := Lib.hid hB0
        clear hcl hB0
        rcases hsc with ⟨hc, hgd, hep⟩ | ⟨hc, hpr, hgd, hep⟩ | ⟨hc, hpr, hkd, ha1, hgd, hep⟩ | ⟨hc, hpr, hkd, hgd, hep⟩
        · have HEP := Lib.hid hep
          clear hep hgd
          have hcb : (c == 0) = false := by simpa using hc
          obtain ⟨wd, hwd⟩ : ∃ wd, wd = wc := ⟨_, rfl⟩
          have hk7 : Kp wr wd := by rw [hwd]; exact hk5
          have hA7 : Bk wd bA 33 [.int .i64 x1.k, .int .u32 x1.a, .int .u32 x1.b, .string x1.t] := by rw [hwd]; exact hA5
          go_upto_region 10 with fail
          rw [← hwd]
          clear hwd
          skip
          clear n0 n1 n2 n3
          obtain ⟨n0, n1, n2, n3⟩ := (show _ ∧ _ ∧ _ ∧ _ from hA7.c4g)
          by_cases hk0 : k = 0
          · have d0 : ((k : Int) == 0) = true := by simpa using hk0
            have HEN : Hid (epF i (ss.getD 0 ⟨#[]⟩) = none) := Lib.hid (by rw [HS0.out hk0]; exact HEP.out i)
            have hXd := hXr.keep hk7
            have hBd := hBr.keep hk7
            have hKd := hKr.trans hk7
            obtain ⟨x0, x1', x2, x3⟩ := hXd.c4g
            have f3x := hXd.free 3
            cases bb with
            | false =>
              go_wp2_with fail
              refine (HBL.out _).mono ?_
              rintro e7 we ⟨rfl, rfl⟩
              go_wp2_with fail
              go_roundw
              case rel => exact ⟨k + 1, by omega, by go_num, hKd.set (p := ⟨gx, 3, none⟩) hgxW _, hBd.far (p := ⟨gx, 3, none⟩) hn1 _, Or.inl ⟨by rw [HTA.out, Bool.and_false]; exact hXd.put 3 (.bool false), fun _ => HEN.out⟩⟩
              case measure => simp [intOf]; omega
            | true =>
              go_wp2_with fail
              refine (HBL.out _).mono ?_
              rintro e7 we ⟨rfl, rfl⟩
              go_wp2_with fail
              go_roundw
              case rel => exact ⟨k + 1, by omega, by go_num, hKd, hBd, Or.inl ⟨by rw [HTA.out, Bool.and_true]; exact hXd, fun _ => HEN.out⟩⟩
              case measure => simp [intOf]; omega
          · have d0 : ((k : Int) == 0) = false := by simpa using hk0
            have HEN : Hid (epF i (ss.getD 0 ⟨#[]⟩) = none) := Lib.hid (HB0.out (by omega))
            have hXd := hXr.keep hk7
            have hBd := hBr.keep hk7
            have hKd := hKr.trans hk7
            obtain ⟨x0, x1', x2, x3⟩ := hXd.c4g
            have f3x := hXd.free 3
            cases bb with
            | false =>
              go_wp2_with fail
              refine (HBL.out _).mono ?_
              rintro e7 we ⟨rfl, rfl⟩
              go_wp2_with fail
              go_roundw
              case rel => exact ⟨k + 1, by omega, by go_num, hKd.set (p := ⟨gx, 3, none⟩) hgxW _, hBd.far (p := ⟨gx, 3, none⟩) hn1 _, Or.inl ⟨by rw [HTA.out, Bool.and_false]; exact hXd.put 3 (.bool false), fun _ => HEN.out⟩⟩
              case measure => simp [intOf]; omega
            | true =>
              go_wp2_with fail
              refine (HBL.out _).mono ?_
              rintro e7 we ⟨rfl, rfl⟩
              go_wp2_with fail
              go_roundw
              case rel => exact ⟨k + 1, by omega, by go_num, hKd, hBd, Or.inl ⟨by rw [HTA.out, Bool.and_true]; exact hXd, fun _ => HEN.out⟩⟩
              case measure => simp [intOf]; omega
        · have HEP := Lib.hid hep
          clear hep hgd
          subst hc
          subst hpr
          go_wp2_with fail
          refine (HPR.out _).mono ?_
          rintro e5 wd ⟨rfl, hk6⟩
          have hk7 := hk5.trans hk6
          have hA7 := hA5.keep hk6
          go_upto_region 10 with fail
          skip
          clear n0 n1 n2 n3
          obtain ⟨n0, n1, n2, n3⟩ := (show _ ∧ _ ∧ _ ∧ _ from hA7.c4g)
          by_cases hk0 : k = 0
          · have d0 : ((k : Int) == 0) = true := by simpa using hk0
            have HEN : Hid (epF i (ss.getD 0 ⟨#[]⟩) = none) := Lib.hid (by rw [HS0.out hk0]; exact HEP.out i)
            have hXd := hXr.keep hk7
            have hBd := hBr.keep hk7
            have hKd := hKr.trans hk7
            obtain ⟨x0, x1', x2, x3⟩ := hXd.c4g
            have f3x := hXd.free 3
            cases bb with
            | false =>
              go_wp2_with fail
              refine (HBL.out _).mono ?_
              rintro e7 we ⟨rfl, rfl⟩
              go_wp2_with fail
              go_roundw
              case rel => exact ⟨k + 1, by omega, by go_num, hKd.set (p := ⟨gx, 3, none⟩) hgxW _, hBd.far (p := ⟨gx, 3, none⟩) hn1 _, Or.inl ⟨by rw [HTA.out, Bool.and_false]; exact hXd.put 3 (.bool false), fun _ => HEN.out⟩⟩
              case measure => simp [intOf]; omega
            | true =>
              go_wp2_with fail
              refine (HBL.out _).mono ?_
              rintro e7 we ⟨rfl, rfl⟩
              go_wp2_with fail
              go_roundw
              case rel => exact ⟨k + 1, by omega, by go_num, hKd, hBd, Or.inl ⟨by rw [HTA.out, Bool.and_true]; exact hXd, fun _ => HEN.out⟩⟩
              case measure => simp [intOf]; omega
          · have d0 : ((k : Int) == 0) = false := by simpa using hk0
            have HEN : Hid (epF i (ss.getD 0 ⟨#[]⟩) = none) := Lib.hid (HB0.out (by omega))
            have hXd := hXr.keep hk7
            have hBd := hBr.keep hk7
            have hKd := hKr.trans hk7
            obtain ⟨x0, x1', x2, x3⟩ := hXd.c4g
            have f3x := hXd.free 3
            cases bb with
            | false =>
              go_wp2_with fail
              refine (HBL.out _).mono ?_
              rintro e7 we ⟨rfl, rfl⟩
              go_wp2_with fail
              go_roundw
              case rel => exact ⟨k + 1, by omega, by go_num, hKd.set (p := ⟨gx, 3, none⟩) hgxW _, hBd.far (p := ⟨gx, 3, none⟩) hn1 _, Or.inl ⟨by rw [HTA.out, Bool.and_false]; exact hXd.put 3 (.bool false), fun _ => HEN.out⟩⟩
              case measure => simp [intOf]; omega
            | true =>
              go_wp2_with fail
              refine (HBL.out _).mono ?_
              rintro e7 we ⟨rfl, rfl⟩
              go_wp2_with fail
              go_roundw
              case rel => exact ⟨k + 1, by omega, by go_num, hKd, hBd, Or.inl ⟨by rw [HTA.out, Bool.and_true]; exact hXd, fun _ => HEN.out⟩⟩
              case measure => simp [intOf]; omega
        · have HEP := Lib.hid hep
          clear hep hgd
          have HKD := Lib.hid hkd
          clear hkd

          subst hc
          subst hpr
          go_wp2_with fail
          refine (HPR.out _).mono ?_
          rintro e5 wd ⟨rfl, hk6⟩
          have hk7 := hk5.trans hk6
          have hA7 := hA5.keep hk6
          go_upto_region 10 with fail
          skip
          clear n0 n1 n2 n3
          obtain ⟨n0, n1, n2, n3⟩ := (show _ ∧ _ ∧ _ ∧ _ from hA7.c4g)
          rw [HKD.out] at n0
          by_cases hk0 : k = 0
          · have d0 : ((k : Int) == 0) = true := by simpa using hk0
            by_cases hbi : x1.b = i
            · have hbb2 : (x1.b == i) = true := by simpa using hbi
              have HCT : Hid (cl = true) := Lib.hid (by rw [← HCL.out, hk0]; rfl)
              have HEA : Hid (epF i (ss.getD 0 ⟨#[]⟩) = some x1.a) := Lib.hid (by rw [HS0.out hk0, HEP.out i, if_pos hbi])
              have hXd := hXr.keep hk7
              have hBd := hBr.keep hk7
              have hKd := hKr.trans hk7
              obtain ⟨x0, x1', x2, x3⟩ := hXd.c4g
              have f1x := hXd.free 1
              go_wp2_with fail
              go_roundw
              case rel => exact ⟨k + 1, by omega, by go_num, hKd.set (p := ⟨gx, 1, none⟩) hgxW _, hBd.far (p := ⟨gx, 1, none⟩) hn1 _, Or.inr ⟨x1.a, none, 0, 0, by omega, HEA.out, by omega, by have := hXd.put 1 (.int .u32 x1.a); rw [HCT.out] at this; exact this, World.ownsRow_nil _ _ _ _, fun z hz => by omega⟩⟩
              case measure => simp [intOf]; omega
            · have hbb2 : (x1.b == i) = false := by simpa using hbi
              have HEN : Hid (epF i (ss.getD 0 ⟨#[]⟩) = none) := Lib.hid (by rw [HS0.out hk0, HEP.out i, if_neg hbi])
              have hXd := hXr.keep hk7
              have hBd := hBr.keep hk7
              have hKd := hKr.trans hk7
              obtain ⟨x0, x1', x2, x3⟩ := hXd.c4g
              have f3x := hXd.free 3
              cases bb with
              | false =>
                go_wp2_with fail
                refine (HBL.out _).mono ?_
                rintro e7 we ⟨rfl, rfl⟩
                go_wp2_with fail
                go_roundw
                case rel => exact ⟨k + 1, by omega, by go_num, hKd.set (p := ⟨gx, 3, none⟩) hgxW _, hBd.far (p := ⟨gx, 3, none⟩) hn1 _, Or.inl ⟨by rw [HTA.out, Bool.and_false]; exact hXd.put 3 (.bool false), fun _ => HEN.out⟩⟩
                case measure => simp [intOf]; omega
              | true =>
                go_wp2_with fail
                refine (HBL.out _).mono ?_
                rintro e7 we ⟨rfl, rfl⟩
                go_wp2_with fail
                go_roundw
                case rel => exact ⟨k + 1, by omega, by go_num, hKd, hBd, Or.inl ⟨by rw [HTA.out, Bool.and_true]; exact hXd, fun _ => HEN.out⟩⟩
                case measure => simp [intOf]; omega
          · have d0 : ((k : Int) == 0) = false := by simpa using hk0
            have HEN : Hid (epF i (ss.getD 0 ⟨#[]⟩) = none) := Lib.hid (HB0.out (by omega))
            have hXd := hXr.keep hk7
            have hBd := hBr.keep hk7
            have hKd := hKr.trans hk7
            obtain ⟨x0, x1', x2, x3⟩ := hXd.c4g
            have f3x := hXd.free 3
            cases bb with
            | false =>
              go_wp2_with fail
              refine (HBL.out _).mono ?_
              rintro e7 we ⟨rfl, rfl⟩
              go_wp2_with fail
              go_roundw
              case rel => exact ⟨k + 1, by omega, by go_num, hKd.set (p := ⟨gx, 3, none⟩) hgxW _, hBd.far (p := ⟨gx, 3, none⟩) hn1 _, Or.inl ⟨by rw [HTA.out, Bool.and_false]; exact hXd.put 3 (.bool false), fun _ => HEN.out⟩⟩
              case measure => simp [intOf]; omega
            | true =>
              go_wp2_with fail
              refine (HBL.out _).mono ?_
              rintro e7 we ⟨rfl, rfl⟩
              go_wp2_with fail
              go_roundw
              case rel => exact ⟨k + 1, by omega, by go_num, hKd, hBd, Or.inl ⟨by rw [HTA.out, Bool.and_true]; exact hXd, fun _ => HEN.out⟩⟩
              case measure => simp [intOf]; omega
        · have HEP := Lib.hid hep
          clear hep hgd
          subst hc
          subst hpr
          go_wp2_with fail
          refine (HPR.out _).mono ?_
          rintro e5 wd ⟨rfl, hk6⟩
          have hk7 := hk5.trans hk6
          have hA7 := hA5.keep hk6
          go_upto_region 10 with fail
          have hkb : (x1.k == 1) = false := by simpa using hkd
          have hkb2 : (x1.k != 1) = true := by simpa using hkd
          clear n0 n1 n2 n3
          obtain ⟨n0, n1, n2, n3⟩ := (show _ ∧ _ ∧ _ ∧ _ from hA7.c4g)
          by_cases hk0 : k = 0
          · have d0 : ((k : Int) == 0) = true := by simpa using hk0
            have HEN : Hid (epF i (ss.getD 0 ⟨#[]⟩) = none) := Lib.hid (by rw [HS0.out hk0]; exact HEP.out i)
            have hXd := hXr.keep hk7
            have hBd := hBr.keep hk7
            have hKd := hKr.trans hk7
            obtain ⟨x0, x1', x2, x3⟩ := hXd.c4g
            have f3x := hXd.free 3
            cases bb with
            | false =>
              go_wp2_with fail
              refine (HBL.out _).mono ?_
              rintro e7 we ⟨rfl, rfl⟩
              go_wp2_with fail
              go_roundw
              case rel => exact ⟨k + 1, by omega, by go_num, hKd.set (p := ⟨gx, 3, none⟩) hgxW _, hBd.far (p := ⟨gx, 3, none⟩) hn1 _, Or.inl ⟨by rw [HTA.out, Bool.and_false]; exact hXd.put 3 (.bool false), fun _ => HEN.out⟩⟩
              case measure => simp [intOf]; omega
            | true =>
              go_wp2_with fail
              refine (HBL.out _).mono ?_
              rintro e7 we ⟨rfl, rfl⟩
              go_wp2_with fail
              go_roundw
              case rel => exact ⟨k + 1, by omega, by go_num, hKd, hBd, Or.inl ⟨by rw [HTA.out, Bool.and_true]; exact hXd, fun _ => HEN.out⟩⟩
              case measure => simp [intOf]; omega
          · have d0 : ((k : Int) == 0) = false := by simpa using hk0
            have HEN : Hid (epF i (ss.getD 0 ⟨#[]⟩) = none) := Lib.hid (HB0.out (by omega))
            have hXd := hXr.keep hk7
            have hBd := hBr.keep hk7
            have hKd := hKr.trans hk7
            obtain ⟨x0, x1', x2, x3⟩ := hXd.c4g
            have f3x := hXd.free 3
            cases bb with
            | false =>
              go_wp2_with fail
              refine (HBL.out _).mono ?_
              rintro e7 we ⟨rfl, rfl⟩
              go_wp2_with fail
              go_roundw
              case rel => exact ⟨k + 1, by omega, by go_num, hKd.set (p := ⟨gx, 3, none⟩) hgxW _, hBd.far (p := ⟨gx, 3, none⟩) hn1 _, Or.inl ⟨by rw [HTA.out, Bool.and_false]; exact hXd.put 3 (.bool false), fun _ => HEN.out⟩⟩
              case measure => simp [intOf]; omega
            | true =>
              go_wp2_with fail
              refine (HBL.out _).mono ?_
              rintro e7 we ⟨rfl, rfl⟩
              go_wp2_with fail
              go_roundw
              case rel => exact ⟨k + 1, by omega, by go_num, hKd, hBd, Or.inl ⟨by rw [HTA.out, Bool.and_true]; exact hXd, fun _ => HEN.out⟩⟩
              case measure => simp [intOf]; omega
      · have HEP := Lib.hid hepA
        have HALL := Lib.hid hall
        clear hepA hall
        have d0 : ((k : Int) == 0) = false := by simp; omega
        have q7 : IntKind.i64.wrap ((k : Int) - 1) = (k' : Int) := by rw [q6]; omega
        have he1 : (e == 0) = false := by simpa using he0
        have hkt : (ss.drop 1).getD k' ⟨#[]⟩ = s1 := by
          have := HTK.out
          rw [if_neg (by omega), show k - 1 = k' by omega] at this
          exact this
        have HKT := Lib.hid hkt
        have HLE : Hid (k' ≤ (ss.drop 1).length) := Lib.hid (by rw [List.length_drop]; have := HKL.out; omega)
        have hkk9 : k' ≤ 10 := by omega
        have HKK := Lib.hid hkk
        clear q6 hkt hkk
        rcases hsc with ⟨hc, hgd, hep⟩ | ⟨hc, hpr, hgd, hep⟩ | ⟨hc, hpr, hkd, ha1, hgd, hep⟩ | ⟨hc, hpr, hkd, hgd, hep⟩
        · have HGD := Lib.hid hgd
          clear hep hgd
          have hcb : (c == 0) = false := by simpa using hc
          obtain ⟨wd, hwd⟩ : ∃ wd, wd = wc := ⟨_, rfl⟩
          have hk7 : Kp wr wd := by rw [hwd]; exact hk5
          have hA7 : Bk wd bA 33 [.int .i64 x1.k, .int .u32 x1.a, .int .u32 x1.b, .string x1.t] := by rw [hwd]; exact hA5
          go_upto_region 10 with fail
          rw [← hwd]
          clear hwd
          clear n0 n1 n2 n3
          obtain ⟨n0, n1, n2, n3⟩ := (show _ ∧ _ ∧ _ ∧ _ from hA7.c4g)
          have hXd := hXr.keep hk7
          have hBd := hBr.keep hk7
          have hKd := hKr.trans hk7
          have HSTOP : k' < (ss.drop 1).length → goodP ((ss.drop 1).getD k' ⟨#[]⟩) = false := fun _ => by rw [HKT.out]; exact HGD.out
          obtain ⟨x0, x1', x2, x3⟩ := hXd.c4g
          go_wp2_with fail
          refine (HRS.out _ hKd k hk).mono ?_
          rintro e7 we ⟨rfl, hk8⟩
          clear x0 x1' x2 x3
          generalize hbv : (ss.drop k).all blankB = BV at *
          have HBV := Lib.hid hbv
          clear hbv
          have hXz := hXd.keep hk8
          have hBz := hBd.keep hk8
          obtain ⟨x0, x1', x2, x3⟩ := hXz.c4g
          have f3x := hXz.free 3
          obtain ⟨y0, y1, y2, y3⟩ := hBz.c4g
          obtain ⟨f0, f1, f2, f3⟩ := (⟨hBz.free 0, hBz.free 1, hBz.free 2, hBz.free 3⟩ : _ ∧ _ ∧ _ ∧ _)
          have hKz := hKd.trans hk8
          go_wp2_with fail
          have hK9 := (((((hKz.set (p := ⟨gx, 3, none⟩) hgxW (.bool BV)).set (p := ⟨gb, 0, none⟩) hgbW (.int .i64 i)).set (p := ⟨gb, 1, none⟩) hgbW (.int .u32 e)).set (p := ⟨gb, 2, none⟩) hgbW (.slice A k' cA)).set (p := ⟨gb, 3, none⟩) hgbW (.bool BV))
          have hR9 := (((((hBz.far (p := ⟨gx, 3, none⟩) hn1 (.bool BV)).put 0 (.int .i64 i)).put 1 (.int .u32 e)).put 2 (.slice A k' cA)).put 3 (.bool BV))
          have hO9 := (own_setS (own_setS (own_setS (own_setS (own_setS (own_keep hOr (hk7.trans hk8)) (p := ⟨gx, 3, none⟩) (Nat.lt_succ_self gx) (.bool BV)) (p := ⟨gb, 0, none⟩) hbx (.int .i64 i)) (p := ⟨gb, 1, none⟩) hbx (.int .u32 e)) (p := ⟨gb, 2, none⟩) hbx (.slice A k' cA)) (p := ⟨gb, 3, none⟩) hbx (.bool BV))
          generalize ((((we.setCell ⟨gx, 3, none⟩ (.bool BV)).setCell ⟨gb, 0, none⟩ (.int .i64 i)).setCell ⟨gb, 1, none⟩ (.int .u32 e)).setCell ⟨gb, 2, none⟩ (.slice A k' cA)).setCell ⟨gb, 3, none⟩ (.bool BV) = w9 at *
          obtain ⟨z0, z1, z2, z3⟩ := (show _ ∧ _ ∧ _ ∧ _ from hR9.c4g)
          refine bodyPost_ret (v := .tuple #[.agg #[.int .i64 i, .int .u32 e, .slice A k' cA, .bool BV], .int .i64 0]) (by simp [results, Try.results55, go_sem, z0, z1, z2, z3]) rfl ?_

          have hfd := fdFrames_upto (ss.drop 1) k' HLE.out HALL.out HSTOP
          have hfl : ((ss.drop 1).take k').length = k' := by rw [List.length_take]; have := HLE.out; omega
          rw [regF_some (by rw [HPL.out]; omega) HEP.out, hfd]
          refine ⟨_, by rw [List.length_map, hfl, List.drop_drop, show 1 + k' = k by have := HKK.out; omega, HBV.out], ?_, hK9⟩
          · rw [List.length_map, hfl]
            exact own_down hO9 (by omega)
        · have HGD := Lib.hid hgd
          clear hep hgd
          subst hc
          subst hpr
          go_wp2_with fail
          refine (HPR.out _).mono ?_
          rintro e5 wd ⟨rfl, hk6⟩
          have hk7 := hk5.trans hk6
          have hA7 := hA5.keep hk6
          go_upto_region 10 with fail
          clear n0 n1 n2 n3
          obtain ⟨n0, n1, n2, n3⟩ := (show _ ∧ _ ∧ _ ∧ _ from hA7.c4g)
          have hXd := hXr.keep hk7
          have hBd := hBr.keep hk7
          have hKd := hKr.trans hk7
          have HSTOP : k' < (ss.drop 1).length → goodP ((ss.drop 1).getD k' ⟨#[]⟩) = false := fun _ => by rw [HKT.out]; exact HGD.out
          obtain ⟨x0, x1', x2, x3⟩ := hXd.c4g
          go_wp2_with fail
          refine (HRS.out _ hKd k hk).mono ?_
          rintro e7 we ⟨rfl, hk8⟩
          clear x0 x1' x2 x3
          generalize hbv : (ss.drop k).all blankB = BV at *
          have HBV := Lib.hid hbv
          clear hbv
          have hXz := hXd.keep hk8
          have hBz := hBd.keep hk8
          obtain ⟨x0, x1', x2, x3⟩ := hXz.c4g
          have f3x := hXz.free 3
          obtain ⟨y0, y1, y2, y3⟩ := hBz.c4g
          obtain ⟨f0, f1, f2, f3⟩ := (⟨hBz.free 0, hBz.free 1, hBz.free 2, hBz.free 3⟩ : _ ∧ _ ∧ _ ∧ _)
          have hKz := hKd.trans hk8
          go_wp2_with fail
          have hK9 := (((((hKz.set (p := ⟨gx, 3, none⟩) hgxW (.bool BV)).set (p := ⟨gb, 0, none⟩) hgbW (.int .i64 i)).set (p := ⟨gb, 1, none⟩) hgbW (.int .u32 e)).set (p := ⟨gb, 2, none⟩) hgbW (.slice A k' cA)).set (p := ⟨gb, 3, none⟩) hgbW (.bool BV))
          have hR9 := (((((hBz.far (p := ⟨gx, 3, none⟩) hn1 (.bool BV)).put 0 (.int .i64 i)).put 1 (.int .u32 e)).put 2 (.slice A k' cA)).put 3 (.bool BV))
          have hO9 := (own_setS (own_setS (own_setS (own_setS (own_setS (own_keep hOr (hk7.trans hk8)) (p := ⟨gx, 3, none⟩) (Nat.lt_succ_self gx) (.bool BV)) (p := ⟨gb, 0, none⟩) hbx (.int .i64 i)) (p := ⟨gb, 1, none⟩) hbx (.int .u32 e)) (p := ⟨gb, 2, none⟩) hbx (.slice A k' cA)) (p := ⟨gb, 3, none⟩) hbx (.bool BV))
          generalize ((((we.setCell ⟨gx, 3, none⟩ (.bool BV)).setCell ⟨gb, 0, none⟩ (.int .i64 i)).setCell ⟨gb, 1, none⟩ (.int .u32 e)).setCell ⟨gb, 2, none⟩ (.slice A k' cA)).setCell ⟨gb, 3, none⟩ (.bool BV) = w9 at *
          obtain ⟨z0, z1, z2, z3⟩ := (show _ ∧ _ ∧ _ ∧ _ from hR9.c4g)
          refine bodyPost_ret (v := .tuple #[.agg #[.int .i64 i, .int .u32 e, .slice A k' cA, .bool BV], .int .i64 0]) (by simp [results, Try.results55, go_sem, z0, z1, z2, z3]) rfl ?_

          have hfd := fdFrames_upto (ss.drop 1) k' HLE.out HALL.out HSTOP
          have hfl : ((ss.drop 1).take k').length = k' := by rw [List.length_take]; have := HLE.out; omega
          rw [regF_some (by rw [HPL.out]; omega) HEP.out, hfd]
          refine ⟨_, by rw [List.length_map, hfl, List.drop_drop, show 1 + k' = k by have := HKK.out; omega, HBV.out], ?_, hK9⟩
          · rw [List.length_map, hfl]
            exact own_down hO9 (by omega)
        · have HGD := Lib.hid hgd
          clear hep hgd
          have HKD := Lib.hid hkd
          clear hkd

          subst hc
          subst hpr
          go_wp2_with fail
          refine (HPR.out _).mono ?_
          rintro e5 wd ⟨rfl, hk6⟩
          have hk7 := hk5.trans hk6
          have hA7 := hA5.keep hk6
          go_upto_region 10 with fail
          clear n0 n1 n2 n3
          obtain ⟨n0, n1, n2, n3⟩ := (show _ ∧ _ ∧ _ ∧ _ from hA7.c4g)
          rw [HKD.out] at n0
          have hXd := hXr.keep hk7
          have hBd := hBr.keep hk7
          have hKd := hKr.trans hk7
          have HSTOP : k' < (ss.drop 1).length → goodP ((ss.drop 1).getD k' ⟨#[]⟩) = false := fun _ => by rw [HKT.out]; exact HGD.out
          obtain ⟨x0, x1', x2, x3⟩ := hXd.c4g
          go_wp2_with fail
          refine (HRS.out _ hKd k hk).mono ?_
          rintro e7 we ⟨rfl, hk8⟩
          clear x0 x1' x2 x3
          generalize hbv : (ss.drop k).all blankB = BV at *
          have HBV := Lib.hid hbv
          clear hbv
          have hXz := hXd.keep hk8
          have hBz := hBd.keep hk8
          obtain ⟨x0, x1', x2, x3⟩ := hXz.c4g
          have f3x := hXz.free 3
          obtain ⟨y0, y1, y2, y3⟩ := hBz.c4g
          obtain ⟨f0, f1, f2, f3⟩ := (⟨hBz.free 0, hBz.free 1, hBz.free 2, hBz.free 3⟩ : _ ∧ _ ∧ _ ∧ _)
          have hKz := hKd.trans hk8
          go_wp2_with fail
          have hK9 := (((((hKz.set (p := ⟨gx, 3, none⟩) hgxW (.bool BV)).set (p := ⟨gb, 0, none⟩) hgbW (.int .i64 i)).set (p := ⟨gb, 1, none⟩) hgbW (.int .u32 e)).set (p := ⟨gb, 2, none⟩) hgbW (.slice A k' cA)).set (p := ⟨gb, 3, none⟩) hgbW (.bool BV))
          have hR9 := (((((hBz.far (p := ⟨gx, 3, none⟩) hn1 (.bool BV)).put 0 (.int .i64 i)).put 1 (.int .u32 e)).put 2 (.slice A k' cA)).put 3 (.bool BV))
          have hO9 := (own_setS (own_setS (own_setS (own_setS (own_setS (own_keep hOr (hk7.trans hk8)) (p := ⟨gx, 3, none⟩) (Nat.lt_succ_self gx) (.bool BV)) (p := ⟨gb, 0, none⟩) hbx (.int .i64 i)) (p := ⟨gb, 1, none⟩) hbx (.int .u32 e)) (p := ⟨gb, 2, none⟩) hbx (.slice A k' cA)) (p := ⟨gb, 3, none⟩) hbx (.bool BV))
          generalize ((((we.setCell ⟨gx, 3, none⟩ (.bool BV)).setCell ⟨gb, 0, none⟩ (.int .i64 i)).setCell ⟨gb, 1, none⟩ (.int .u32 e)).setCell ⟨gb, 2, none⟩ (.slice A k' cA)).setCell ⟨gb, 3, none⟩ (.bool BV) = w9 at *
          obtain ⟨z0, z1, z2, z3⟩ := (show _ ∧ _ ∧ _ ∧ _ from hR9.c4g)
          refine bodyPost_ret (v := .tuple #[.agg #[.int .i64 i, .int .u32 e, .slice A k' cA, .bool BV], .int .i64 0]) (by simp [results, Try.results55, go_sem, z0, z1, z2, z3]) rfl ?_

          have hfd := fdFrames_upto (ss.drop 1) k' HLE.out HALL.out HSTOP
          have hfl : ((ss.drop 1).take k').length = k' := by rw [List.length_take]; have := HLE.out; omega
          rw [regF_some (by rw [HPL.out]; omega) HEP.out, hfd]
          refine ⟨_, by rw [List.length_map, hfl, List.drop_drop, show 1 + k' = k by have := HKK.out; omega, HBV.out], ?_, hK9⟩
          · rw [List.length_map, hfl]
            exact own_down hO9 (by omega)
        · have HGD := Lib.hid hgd
          clear hep hgd
          subst hc
          subst hpr
          go_wp2_with fail
          refine (HPR.out _).mono ?_
          rintro e5 wd ⟨rfl, hk6⟩
          have hk7 := hk5.trans hk6
          have hA7 := hA5.keep hk6
          go_upto_region 10 with fail
          have hkb : (x1.k == 1) = false := by simpa using hkd
          have hkb2 : (x1.k != 1) = true := by simpa using hkd
          clear n0 n1 n2 n3
          obtain ⟨n0, n1, n2, n3⟩ := (show _ ∧ _ ∧ _ ∧ _ from hA7.c4g)
          have hXd := hXr.keep hk7
          have hBd := hBr.keep hk7
          have hKd := hKr.trans hk7
          have hOd := own_keep hOr hk7
          obtain ⟨x0, x1', x2, x3⟩ := hXd.c4g
          have hYd := Bk.new wd 33 [.int .i64 x1.k, .int .u32 x1.a, .int .u32 x1.b, .string x1.t]
          have hkq := Kp.one wd (.cells #[.int .i64 x1.k, .int .u32 x1.a, .int .u32 x1.b, .string x1.t] 33)
          have hXq := hXd.keep hkq
          have hBq := hBd.keep hkq
          have hKq := hKd.trans hkq
          have hOq := own_keep hOd hkq
          have hge : gx + 1 ≤ wd.heap.size + 1 := by have := hXd.lt; omega
          have hge2 : gx + 1 ≤ (wd.alloc (.cells #[.int .i64 x1.k, .int .u32 x1.a, .int .u32 x1.b, .string x1.t] 33)).heap.size := by have := hXd.lt; simp; omega
          have hgeo : ∀ q, (Value.slice A k' cA).ownBlock = some q → gx + 1 ≤ q := own_block_ge hOq
          have hk19 : k' ≤ 10 := by have := HKK.out; omega
          have HOQ := Lib.hid hOq
          have HGEO := Lib.hid hgeo
          have HXQ := Lib.hid hXq
          have HBQ := Lib.hid hBq
          have HKQ := Lib.hid hKq
          clear hOq hOd hOr hgeo hXq hBq hKq
          go_wp2_with (at_builtin; refine wpList_appB (base := gx + 1) rfl _ _ _ rfl (.agg #[.int .i64 0, .int .u32 0, .int .u32 0, .string ⟨#[]⟩]) 32 Try.underlying29 info_frm rfl (by decide) (by decide) rfl HOQ.out (some ⟨wd.heap.size, 0, none⟩) 1 1 [.int .i64 x1.k, .int .u32 x1.a, .int .u32 x1.b, .string x1.t] rfl rfl (src_bk hYd) (by simp [Value.oneCell']) (by omega) hge2 ?_; intro v1 w5 hown1 hg1 hat1; have hX5 := HXQ.out.grown hg1 (fun e => by have := HGEO.out _ e; omega); have hB5 := Lib.hid (HBQ.out.grown hg1 (fun e => by have := HGEO.out _ e; omega)); have hK5 := Lib.hid (HKQ.out.grown hg1 (fun q hq => by have := HGEO.out _ hq; omega)); have f2x := hX5.free 2; obtain ⟨z0, z1, z2, z3⟩ := hX5.c4g; obtain ⟨A1, c1, rfl⟩ := own_slice hown1; have HO1 := Lib.hid hown1; have HX5 := Lib.hid hX5; clear hown1 hg1 hat1 hX5)
          go_roundw
          case rel =>
            have hk1 : k' < (ss.drop 1).length := by rw [List.length_drop]; have := HKL.out; have := HKK.out; omega
            have hxs : fvs (((ss.drop 1).take k').map rdf) ++ [.int .i64 x1.k, .int .u32 x1.a, .int .u32 x1.b, .string x1.t] = fvs (((ss.drop 1).take (k' + 1)).map rdf) := by
              have e1 : (ss.drop 1)[k'] = s1 := by rw [← HKT.out, List.getD_eq_getElem?_getD, List.getElem?_eq_getElem hk1]; rfl
              rw [List.take_succ_eq_append_getElem hk1, List.map_append, fvs_app, e1, ← HX1.out]
              rfl
            have hO9 := own_setS HO1.out (p := ⟨gx, 2, none⟩) (Nat.lt_succ_self gx) (.slice A1 (k' + 1) c1)
            rw [hxs] at hO9
            exact ⟨k + 1, by omega, by go_num, hK5.out.set (p := ⟨gx, 2, none⟩) hgxW _, hB5.out.far (p := ⟨gx, 2, none⟩) hn1 _, Or.inr ⟨e, A1, c1, k' + 1, by have := HKK.out; omega, HEP.out, he0, HX5.out.put 2 _, hO9, fun z hz => by
              rcases Nat.lt_or_ge z k' with hz2 | hz2
              · exact HALL.out z hz2
              · obtain rfl : z = k' := by omega
                rw [HKT.out]
                exact HGD.out⟩⟩
          case measure => simp [intOf]; omega
    · have d5 : decide ((k : Int) < s) = false := by simp; omega
      have hks : k = ss.length := by rw [HPL.out]; omega
      have hgbW : W.heap.size ≤ gb := by rw [HGB.out]; exact Nat.le_refl _
      have hgxW : W.heap.size ≤ gx := by rw [HGX.out]; omega
      have hbx : gb < gx + 1 := by rw [HGB.out, HGX.out]; omega
      rcases hph with ⟨hXr, hB0⟩ | ⟨e, A, cA, k', hkk, hepA, he0, hXr, hOr, hall⟩
      · have HEN := Lib.hid (hB0 (by omega))
        have hcl : (ss.take k).all blankB = ss.all blankB := by rw [hks, List.take_length]
        rw [hcl] at hXr
        generalize hbv : ss.all blankB = BV at *
        have HBV := Lib.hid hbv
        clear hB0 hcl hbv
        have hXz := hXr
        have hBz := hBr
        obtain ⟨x0, x1', x2, x3⟩ := hXz.c4g
        have f3x := hXz.free 3
        obtain ⟨y0, y1, y2, y3⟩ := hBz.c4g
        obtain ⟨f0, f1, f2, f3⟩ := (⟨hBz.free 0, hBz.free 1, hBz.free 2, hBz.free 3⟩ : _ ∧ _ ∧ _ ∧ _)
        have hKz := hKr
        go_wp2_with fail
        have hK9 := ((((hKz.set (p := ⟨gb, 0, none⟩) hgbW (.int .i64 i)).set (p := ⟨gb, 1, none⟩) hgbW (.int .u32 0)).set (p := ⟨gb, 2, none⟩) hgbW (.slice none 0 0)).set (p := ⟨gb, 3, none⟩) hgbW (.bool BV))
        have hR9 := ((((hBz.put 0 (.int .i64 i)).put 1 (.int .u32 0)).put 2 (.slice none 0 0)).put 3 (.bool BV))
        generalize (((wr.setCell ⟨gb, 0, none⟩ (.int .i64 i)).setCell ⟨gb, 1, none⟩ (.int .u32 0)).setCell ⟨gb, 2, none⟩ (.slice none 0 0)).setCell ⟨gb, 3, none⟩ (.bool BV) = w9 at *
        obtain ⟨z0, z1, z2, z3⟩ := (show _ ∧ _ ∧ _ ∧ _ from hR9.c4g)
        refine bodyPost_ret (v := .tuple #[.agg #[.int .i64 i, .int .u32 0, .slice none 0 0, .bool BV], .int .i64 0]) (by simp [results, Try.results55, go_sem, z0, z1, z2, z3]) rfl ?_
        rw [regF_none (by omega) HEN.out, HBV.out]
        exact ⟨_, rfl, World.ownsRow_nil _ _ _ _, hK9⟩
      · have HEP := Lib.hid hepA
        have HALL := Lib.hid hall
        clear hepA hall
        have HLE : Hid (k' ≤ (ss.drop 1).length) := Lib.hid (by rw [List.length_drop]; omega)
        have hXz := hXr
        have hBz := hBr
        obtain ⟨x0, x1', x2, x3⟩ := hXz.c4g
        have f3x := hXz.free 3
        obtain ⟨y0, y1, y2, y3⟩ := hBz.c4g
        obtain ⟨f0, f1, f2, f3⟩ := (⟨hBz.free 0, hBz.free 1, hBz.free 2, hBz.free 3⟩ : _ ∧ _ ∧ _ ∧ _)
        have hKz := hKr
        go_wp2_with fail
        have hK9 := ((((hKz.set (p := ⟨gb, 0, none⟩) hgbW (.int .i64 i)).set (p := ⟨gb, 1, none⟩) hgbW (.int .u32 e)).set (p := ⟨gb, 2, none⟩) hgbW (.slice A k' cA)).set (p := ⟨gb, 3, none⟩) hgbW (.bool true))
        have hR9 := ((((hBz.put 0 (.int .i64 i)).put 1 (.int .u32 e)).put 2 (.slice A k' cA)).put 3 (.bool true))
        have hO9 := (own_setS (own_setS (own_setS (own_setS hOr (p := ⟨gb, 0, none⟩) hbx (.int .i64 i)) (p := ⟨gb, 1, none⟩) hbx (.int .u32 e)) (p := ⟨gb, 2, none⟩) hbx (.slice A k' cA)) (p := ⟨gb, 3, none⟩) hbx (.bool true))
        generalize (((wr.setCell ⟨gb, 0, none⟩ (.int .i64 i)).setCell ⟨gb, 1, none⟩ (.int .u32 e)).setCell ⟨gb, 2, none⟩ (.slice A k' cA)).setCell ⟨gb, 3, none⟩ (.bool true) = w9 at *
        obtain ⟨z0, z1, z2, z3⟩ := (show _ ∧ _ ∧ _ ∧ _ from hR9.c4g)
        refine bodyPost_ret (v := .tuple #[.agg #[.int .i64 i, .int .u32 e, .slice A k' cA, .bool true], .int .i64 0]) (by simp [results, Try.results55, go_sem, z0, z1, z2, z3]) rfl ?_

        have hfd := fdFrames_upto (ss.drop 1) k' HLE.out HALL.out (fun hh => absurd hh (by rw [List.length_drop]; omega))
        have hfl : ((ss.drop 1).take k').length = k' := by rw [List.length_take]; have := HLE.out; omega
        rw [regF_some (by rw [HPL.out]; omega) HEP.out, hfd]
        refine ⟨_, by rw [List.length_map, hfl, List.drop_drop, List.drop_eq_nil_of_le (show ss.length ≤ 1 + k' by omega)]; rfl, ?_, hK9⟩
        · rw [List.length_map, hfl]
          exact own_down hO9 (by omega)
end
end Go.Proofs.Ytecelmhiffcaeaa
/- The reference's scan: ScanAll. -/
namespace Go.Proofs.Ytecelmhiffcaeaa
open Go.RowKit
set_option linter.unusedVariables false
set_option maxRecDepth 20000
section
variable {W : World} {g ib ic : Nat} {p s r : Int} {d : Dev} {v : Value}
set_option maxHeartbeats 3200000 in
theorem rscanall (h : RfX W g ib ic p s r d v) (ok : DevOk p s r d) (hd : d.down = false) :
    Calls Try.prog 29 #[.pointer (some ⟨g, 0, none⟩)] W (FdsPost W (allF2 d p s r.toNat)) := by
  have hR := ok.right
  obtain ⟨r1, r2, r3, r4, r5, r6⟩ := id hR
  have HC := Lib.hid (fun W' (k : Kp W W') => (h.keep k).c8)
  have HRG := Lib.hid (fun W' (k : Kp W W') (i : Int) h0 h1 => rscan (h.keep k) ok hd i i rfl h0 h1)
  have d2 : decide ((0 : Int) < r) = true := by simp; omega
  go_enter Try.func29, Try.ntmps29
  go_wp2_with fail
  go_loopw [4, 5] (fun v i wr => FdsI W d p s r v i wr) (fun _ i _ => r.toNat - (intOf i).toNat)
  case atStart => exact ⟨0, [], by omega, rfl, rfl, ⟨World.ownsRow_nil _ _ _ _, fun x hx => by simp at hx⟩, Kp.refl _⟩
  case round =>
    obtain ⟨k, l, hk, rfl, hl, ⟨hO, hF⟩, hKr⟩ := hrel
    obtain ⟨c0, c1', c2', c3, c4, c5, c6, c7⟩ := HC.out _ hKr
    obtain ⟨A1, c1, rfl⟩ := own_slice hO
    have hll : l.length = k := by rw [← List.length_map (f := Prod.fst), hl, allF2_len]
    by_cases hlt : (k : Int) < r
    · have q5 : IntKind.i64.wrap ((k : Int) + 1) = (k : Int) + 1 := IntWalk.i64_in _ (by omega)
      have d5 : decide ((k : Int) < r) = true := by simpa using hlt
      rw [hll] at hO
      have HO := Lib.hid hO
      have HF := Lib.hid hF
      have HL := Lib.hid hl
      have HLL := Lib.hid hll
      have hst : allF2 d p s (k + 1) = allF2 d p s k ++ [regF (k : Int) (pgs d p s (k : Int))] := by unfold allF2; rw [List.range_succ, List.map_append]; rfl
      generalize hF0 : regF (k : Int) (pgs d p s (k : Int)) = F at *
      have HST := Lib.hid hst
      have HF0 := Lib.hid hF0
      clear hO hF hl hst hF0 hll
      go_wp2_with fail
      refine (HRG.out _ hKr _ (by omega) hlt).mono ?_
      rw [HF0.out]
      rintro e w2 ⟨fv, rfl, hfo, hk2⟩
      obtain ⟨A2, c2, rfl⟩ := own_slice hfo
      have hX := Bk.new w2 44 [.int .i64 F.rg, .int .u32 F.ep, .slice A2 F.fs.length c2, .bool F.cl]
      have hY : Bk ((w2.alloc (.cells #[.int .i64 F.rg, .int .u32 F.ep, .slice A2 F.fs.length c2, .bool F.cl] 44)).alloc (.cells #[.int .i64 F.rg, .int .u32 F.ep, .slice A2 F.fs.length c2, .bool F.cl] 44)) (w2.heap.size + 1) 44 [.int .i64 F.rg, .int .u32 F.ep, .slice A2 F.fs.length c2, .bool F.cl] := by
        have := Bk.new (w2.alloc (.cells #[.int .i64 F.rg, .int .u32 F.ep, .slice A2 F.fs.length c2, .bool F.cl] 44)) 44 [.int .i64 F.rg, .int .u32 F.ep, .slice A2 F.fs.length c2, .bool F.cl]
        rw [show (w2.alloc (.cells #[.int .i64 F.rg, .int .u32 F.ep, .slice A2 F.fs.length c2, .bool F.cl] 44)).heap.size = w2.heap.size + 1 by simp] at this
        exact this
      have hkq := (hk2.alloc (.cells #[.int .i64 F.rg, .int .u32 F.ep, .slice A2 F.fs.length c2, .bool F.cl] 44)).alloc (.cells #[.int .i64 F.rg, .int .u32 F.ep, .slice A2 F.fs.length c2, .bool F.cl] 44)
      have hkq2 := ((Kp.one w2 (.cells #[.int .i64 F.rg, .int .u32 F.ep, .slice A2 F.fs.length c2, .bool F.cl] 44))).alloc (.cells #[.int .i64 F.rg, .int .u32 F.ep, .slice A2 F.fs.length c2, .bool F.cl] 44)
      have hkz2 := hKr.trans hkq
      have hown3 := own_keep HO.out hkq
      have hown3 : World.ownsRow _ W.heap.size 44 4 (.slice A1 k c1) k (fdCells l) := hown3
      have hfo3 := own_down (own_keep hfo hkq2) hKr.size
      have hF3 := HF.out.keep hkq
      have HF3 : Hid (FrsAt _ W.heap.size (l ++ [(F, .slice A2 F.fs.length c2)])) := Lib.hid (fun x hx => by
        rcases List.mem_append.1 hx with hx | hx
        · exact hF3 x hx
        · rw [List.mem_singleton] at hx
          subst hx
          exact hfo3)
      have HOW := Lib.hid hown3
      clear hfo3 hF3 hfo
      rw [HLL.out]
      go_wp2_with (at_builtin; refine wpList_app (w0 := W) rfl _ _ _ rfl (.agg #[.int .i64 0, .int .u32 0, .slice none 0 0, .bool false]) 48 Try.underlying47 info_fnd rfl (by decide) (by decide) rfl HOW.out (some ⟨w2.heap.size + 1, 0, none⟩) 1 1 [.int .i64 F.rg, .int .u32 F.ep, .slice A2 F.fs.length c2, .bool F.cl] rfl rfl (src_bk hY) (by simp [Value.oneCell']) (by omega) hkz2 ?_; intro v1 w5 hown1 hkp1 hg1 hat1; have HTN := Lib.hid (show FrsAt w5 W.heap.size (l ++ [(F, .slice A2 F.fs.length c2)]) from fun x hx => own_other (HF3.out x hx) hg1 (own_type_ne (HF3.out x hx) HOW.out (by decide))); obtain ⟨A3, c3, rfl⟩ := own_slice hown1; have HO1 := Lib.hid hown1; clear hown1 hg1 hat1)
      go_roundw
      case rel => exact ⟨k + 1, l ++ [(F, .slice A2 F.fs.length c2)], by omega, by go_num, by rw [List.map_append, HL.out, HST.out]; rfl, ⟨by rw [List.length_append, HLL.out, fdCells_app]; exact HO1.out, HTN.out⟩, hkp1⟩
      case measure => simp [intOf]; omega
    · have d5 : decide ((k : Int) < r) = false := by simp; omega
      have hke : r.toNat = k := by omega
      rw [hke]
      have HO := Lib.hid hO
      clear hO
      go_wp2_with fail
      refine bodyPost_ret (v := .tuple #[.slice A1 l.length c1, .int .i64 0]) (by simp [results, Try.results29, go_sem, hll]) rfl ?_
      exact ⟨_, l, rfl, hl, ⟨HO.out, hF⟩, hKr⟩
end
end Go.Proofs.Ytecelmhiffcaeaa
/- What is the same: frames, what was found. -/
namespace Go.Proofs.Ytecelmhiffcaeaa
open Go.RowKit
set_option linter.unusedVariables false
set_option maxRecDepth 20000
theorem fvs_get (l : List Fr) : ∀ i (h : i < l.length), (fvs l)[i * 4]? = some (.int .i64 l[i].k) ∧ (fvs l)[i * 4 + 1]? = some (.int .u32 l[i].a) ∧ (fvs l)[i * 4 + 2]? = some (.int .u32 l[i].b) ∧ (fvs l)[i * 4 + 3]? = some (.string l[i].t) := by
  induction l with
  | nil => intro i h; simp at h
  | cons x l ih =>
    intro i h
    rw [show fvs (x :: l) = .int .i64 x.k :: .int .u32 x.a :: .int .u32 x.b :: .string x.t :: fvs l from rfl]
    cases i with
    | zero => exact ⟨rfl, rfl, rfl, rfl⟩
    | succ i =>
      have := ih i (by simpa using h)
      rw [show (i + 1) * 4 = i * 4 + 1 + 1 + 1 + 1 by omega]
      simpa using this
/-- The cells of the j-th frame of a row. -/
theorem fr_cells {w : World} {base n : Nat} {v : Value} {l : List Fr} (h : w.ownsRow base 33 4 v n (fvs l)) (hl : l.length = n) (hn : 0 < n) : ∃ q c, v = .slice (some ⟨q, 0, none⟩) n c ∧ ∀ W, Kp w W → ∀ j (hj : j < l.length),
    W.cell? ⟨q, j * 4, none⟩ = some (.int .i64 l[j].k) ∧ W.cell? ⟨q, j * 4 + 1, none⟩ = some (.int .u32 l[j].a) ∧ W.cell? ⟨q, j * 4 + 2, none⟩ = some (.int .u32 l[j].b) ∧ W.cell? ⟨q, j * 4 + 3, none⟩ = some (.string l[j].t) := by
  obtain ⟨q, c, rfl, h1, h2⟩ := own_at h hn
  refine ⟨q, c, rfl, fun W k j hj => ?_⟩
  have hk := own_keep h k
  have g := fvs_get l j hj
  have e0 := hk.cellAt (j * 4) (by omega)
  have e1 := hk.cellAt (j * 4 + 1) (by omega)
  have e2 := hk.cellAt (j * 4 + 2) (by omega)
  have e3 := hk.cellAt (j * 4 + 3) (by omega)
  rw [g.1] at e0
  rw [g.2.1] at e1
  rw [g.2.2.1] at e2
  rw [g.2.2.2] at e3
  exact ⟨e0, e1, e2, e3⟩
set_option maxHeartbeats 3200000 in
theorem sameframes (W : World) (b1 b2 n : Nat) (v1 v2 : Value) (l : List Fr) (hl : l.length = n) (h1 : W.ownsRow b1 33 4 v1 n (fvs l)) (h2 : W.ownsRow b2 33 4 v2 n (fvs l)) :
    Calls Try.prog 26 #[v1, v2] W fun e w' => e = .returned (.bool true) ∧ Kp W w' := by
  have hnm := own_le h1
  obtain ⟨A1, c1, e1⟩ := own_slice h1
  obtain ⟨A2, c2, e2⟩ := own_slice h2
  have HH1 := Lib.hid h1
  have HH2 := Lib.hid h2
  have HL := Lib.hid hl
  have HE1 := Lib.hid e1
  have HE2 := Lib.hid e2
  rw [e1, e2]
  clear h1 h2 hl e1 e2
  go_enter Try.func26, Try.ntmps26
  go_wp2_with fail
  go_loopw [5] (fun i wr => ∃ j : Nat, j ≤ n ∧ i = .int .i64 j ∧ Kp W wr) (fun i _ => n - (intOf i).toNat)
  case atStart => exact ⟨0, by omega, rfl, Kp.refl _⟩
  case round =>
    obtain ⟨j, hj, rfl, hKr⟩ := hrel
    by_cases hlt : j < n
    · obtain ⟨q1, k1, f1, C1⟩ := fr_cells HH1.out HL.out (by omega)
      obtain ⟨q2, k2, f2, C2⟩ := fr_cells HH2.out HL.out (by omega)
      rw [HE1.out] at f1
      rw [HE2.out] at f2
      injection f1 with f1a f1b f1c
      injection f2 with f2a f2b f2c
      subst f1a f2a
      have hl2 : (j : Int) < (n : Int) := by omega
      have q5 : IntKind.i64.wrap ((j : Int) + 1) = (j : Int) + 1 := IntWalk.i64_in _ (by omega)
      have hjl : j < l.length := by rw [HL.out]; exact hlt
      have HC := Lib.hid (fun W' (kk : Kp wr W') => And.intro (C1 W' (hKr.trans kk) j hjl) (C2 W' (hKr.trans kk) j hjl))
      clear C1 C2 f1c f2c
      generalize l[j] = x at *
      obtain ⟨xk, xa, xb, xt⟩ := x
      dsimp only at HC
      have hbe : (xt.toList == xt.toList) = true := by simp
      go_wp2_with fail
      have hInh := fun (x v : Value) => (⟨fun h => h _ ((Kp.refl wr).drew), fun h _ _ => h⟩ : (∀ Wz9, (fun W' => Kp wr W') Wz9 → x = v) ↔ x = v)
      dsimp only at hInh
      refine wp_region_quietC (C := fun W' => Kp wr W') (by kernel_rfl) (by kernel_rfl) ((Kp.refl wr).drew) ?_
      repeat (first | go_big_quiet_step ((intro hW; first | fail | (with_reducible rfl) | (obtain ⟨⟨n0, n1, n2, n3⟩, m0, m1, m2, m3⟩ := HC.out _ hW; (try go_simp); first | done | with_reducible rfl | exact ⟨rfl, rfl⟩))) | quiet_step ((intro hW; first | fail | (with_reducible rfl) | (obtain ⟨⟨n0, n1, n2, n3⟩, m0, m1, m2, m3⟩ := HC.out _ hW; (try go_simp); first | done | with_reducible rfl | exact ⟨rfl, rfl⟩))))
      refine wpQuiet_nil ?_
      intro wq hwq
      clear hInh
      go_wp2_with fail
      go_roundw
      case rel => exact ⟨j + 1, by omega, by go_num, hKr.trans hwq⟩
      case measure => simp [intOf]; omega
    · obtain rfl : j = n := by omega
      go_wp2_with fail
      go_ret
      exact ⟨rfl, hKr⟩
end Go.Proofs.Ytecelmhiffcaeaa
/- What is the same: what was found. -/
namespace Go.Proofs.Ytecelmhiffcaeaa
open Go.RowKit
set_option linter.unusedVariables false
set_option maxRecDepth 20000
def fdV (F : Fd) (v : Value) : Value := .agg #[.int .i64 F.rg, .int .u32 F.ep, v, .bool F.cl]
set_option maxHeartbeats 3200000 in
theorem samefound (W : World) (b1 b2 : Nat) (v1 v2 : Value) (F : Fd) (h1 : W.ownsRow b1 33 4 v1 F.fs.length (fvs F.fs)) (h2 : W.ownsRow b2 33 4 v2 F.fs.length (fvs F.fs)) :
    Calls Try.prog 31 #[fdV F v1, fdV F v2] W fun e w' => e = .returned (.bool true) ∧ Kp W w' := by
  obtain ⟨A1, c1, rfl⟩ := own_slice h1
  obtain ⟨A2, c2, rfl⟩ := own_slice h2
  unfold fdV
  have HSF := Lib.hid (fun W' (k : Kp W W') => sameframes W' b1 b2 _ _ _ F.fs rfl (own_keep h1 k) (own_keep h2 k))
  clear h1 h2
  generalize F.fs.length = n at *
  generalize F.fs = fs at *
  generalize F.rg = rg at *
  generalize F.ep = ep at *
  generalize F.cl = cl at *
  have hX1 := (Bk.new W 44 [.int .i64 rg, .int .u32 ep, .slice A1 n c1, .bool cl]).alloc (.cells #[.int .i64 rg, .int .u32 ep, .slice A2 n c2, .bool cl] 44)
  have hX2 : Bk ((W.alloc (.cells #[.int .i64 rg, .int .u32 ep, .slice A1 n c1, .bool cl] 44)).alloc (.cells #[.int .i64 rg, .int .u32 ep, .slice A2 n c2, .bool cl] 44)) (W.heap.size + 1) 44 [.int .i64 rg, .int .u32 ep, .slice A2 n c2, .bool cl] := by
    have := Bk.new (W.alloc (.cells #[.int .i64 rg, .int .u32 ep, .slice A1 n c1, .bool cl] 44)) 44 [.int .i64 rg, .int .u32 ep, .slice A2 n c2, .bool cl]
    rw [show (W.alloc (.cells #[.int .i64 rg, .int .u32 ep, .slice A1 n c1, .bool cl] 44)).heap.size = W.heap.size + 1 by simp] at this
    exact this
  have hK := (Kp.one W (.cells #[.int .i64 rg, .int .u32 ep, .slice A1 n c1, .bool cl] 44)).alloc (.cells #[.int .i64 rg, .int .u32 ep, .slice A2 n c2, .bool cl] 44)
  obtain ⟨x0, x1, x2, x3⟩ := (show _ ∧ _ ∧ _ ∧ _ from hX1.c4g)
  obtain ⟨y0, y1, y2, y3⟩ := (show _ ∧ _ ∧ _ ∧ _ from hX2.c4g)
  go_enter Try.func31, Try.ntmps31
  go_wp2_with fail
  refine (HSF.out _ hK).mono ?_
  rintro e w1 ⟨rfl, hk1⟩
  go_wp2_with fail
  go_ret
  exact ⟨rfl, hK.trans hk1⟩
theorem fd_get (l : List (Fd × Value)) : ∀ i (h : i < l.length), (fdCells l)[i * 4]? = some (.int .i64 l[i].1.rg) ∧ (fdCells l)[i * 4 + 1]? = some (.int .u32 l[i].1.ep) ∧ (fdCells l)[i * 4 + 2]? = some l[i].2 ∧ (fdCells l)[i * 4 + 3]? = some (.bool l[i].1.cl) := by
  induction l with
  | nil => intro i h; simp at h
  | cons x l ih =>
    intro i h
    rw [show fdCells (x :: l) = .int .i64 x.1.rg :: .int .u32 x.1.ep :: x.2 :: .bool x.1.cl :: fdCells l from rfl]
    cases i with
    | zero => exact ⟨rfl, rfl, rfl, rfl⟩
    | succ i =>
      have := ih i (by simpa using h)
      rw [show (i + 1) * 4 = i * 4 + 1 + 1 + 1 + 1 by omega]
      simpa using this
/-- The cells of what was found j-th. -/
theorem fd_cells {w : World} {base n : Nat} {v : Value} {l : List (Fd × Value)} (h : w.ownsRow base 44 4 v n (fdCells l)) (hl : l.length = n) (hn : 0 < n) : ∃ q c, v = .slice (some ⟨q, 0, none⟩) n c ∧ ∀ W, Kp w W → ∀ j (hj : j < l.length),
    W.cell? ⟨q, j * 4, none⟩ = some (.int .i64 l[j].1.rg) ∧ W.cell? ⟨q, j * 4 + 1, none⟩ = some (.int .u32 l[j].1.ep) ∧ W.cell? ⟨q, j * 4 + 2, none⟩ = some l[j].2 ∧ W.cell? ⟨q, j * 4 + 3, none⟩ = some (.bool l[j].1.cl) := by
  obtain ⟨q, c, rfl, h1, h2⟩ := own_at h hn
  refine ⟨q, c, rfl, fun W k j hj => ?_⟩
  have hk := own_keep h k
  have g := fd_get l j hj
  have e0 := hk.cellAt (j * 4) (by omega)
  have e1 := hk.cellAt (j * 4 + 1) (by omega)
  have e2 := hk.cellAt (j * 4 + 2) (by omega)
  have e3 := hk.cellAt (j * 4 + 3) (by omega)
  rw [g.1] at e0
  rw [g.2.1] at e1
  rw [g.2.2.1] at e2
  rw [g.2.2.2] at e3
  exact ⟨e0, e1, e2, e3⟩
set_option maxHeartbeats 3200000 in
theorem samefounds (W : World) (b1 b2 : Nat) (v1 v2 : Value) (l1 l2 : List (Fd × Value)) (he : l1.map Prod.fst = l2.map Prod.fst) (h1 : FdsAt W b1 v1 l1) (h2 : FdsAt W b2 v2 l2) :
    Calls Try.prog 30 #[v1, v2] W fun e w' => e = .returned (.bool true) ∧ Kp W w' := by
  have hll : l1.length = l2.length := by rw [← List.length_map (f := Prod.fst), he, List.length_map]
  obtain ⟨g1, F1⟩ := h1
  obtain ⟨g2, F2⟩ := h2
  obtain ⟨n, hn⟩ : ∃ n, n = l1.length := ⟨_, rfl⟩
  rw [← hn] at g1
  rw [← hll, ← hn] at g2
  have hnm := own_le g1
  obtain ⟨A1, c1, e1⟩ := own_slice g1
  obtain ⟨A2, c2, e2⟩ := own_slice g2
  have HH1 := Lib.hid g1
  have HH2 := Lib.hid g2
  have HF1 := Lib.hid F1
  have HF2 := Lib.hid F2
  have HN := Lib.hid hn
  have HLL := Lib.hid hll
  have HE := Lib.hid he
  have HE1 := Lib.hid e1
  have HE2 := Lib.hid e2
  rw [e1, e2]
  clear g1 g2 hn hll he e1 e2 F1 F2
  go_enter Try.func30, Try.ntmps30
  go_wp2_with fail
  go_loopw [5] (fun i wr => ∃ j : Nat, j ≤ n ∧ i = .int .i64 j ∧ Kp W wr) (fun i _ => n - (intOf i).toNat)
  case atStart => exact ⟨0, by omega, rfl, Kp.refl _⟩
  case round =>
    obtain ⟨j, hj, rfl, hKr⟩ := hrel
    by_cases hlt : j < n
    · have hl1 : j < l1.length := by rw [← HN.out]; exact hlt
      have hl2' : j < l2.length := by rw [← HLL.out]; exact hl1
      obtain ⟨q1, k1, f1, C1⟩ := fd_cells HH1.out HN.out.symm (by omega)
      obtain ⟨q2, k2, f2, C2⟩ := fd_cells HH2.out (by rw [← HLL.out]; exact HN.out.symm) (by omega)
      rw [HE1.out] at f1
      rw [HE2.out] at f2
      injection f1 with f1a f1b f1c
      injection f2 with f2a f2b f2c
      subst f1a f2a
      have hl2 : (j : Int) < (n : Int) := by omega
      have q5 : IntKind.i64.wrap ((j : Int) + 1) = (j : Int) + 1 := IntWalk.i64_in _ (by omega)
      have hfe : l1[j].1 = l2[j].1 := by
        have a1 : (l1.map Prod.fst)[j]? = some l1[j].1 := by rw [List.getElem?_map, List.getElem?_eq_getElem hl1]; rfl
        have a2 : (l2.map Prod.fst)[j]? = some l2[j].1 := by rw [List.getElem?_map, List.getElem?_eq_getElem hl2']; rfl
        rw [HE.out, a2] at a1
        exact (Option.some.inj a1).symm
      have o1 := HF1.out _ (List.getElem_mem hl1)
      have o2 := HF2.out _ (List.getElem_mem hl2')
      have HC := Lib.hid (fun W' (kk : Kp wr W') => And.intro (C1 W' (hKr.trans kk) j hl1) (C2 W' (hKr.trans kk) j hl2'))
      rw [← hfe] at o2 HC
      have HSF := Lib.hid (fun W' (kk : Kp wr W') => samefound W' b1 b2 _ _ l1[j].1 (own_keep o1 (hKr.trans kk)) (own_keep o2 (hKr.trans kk)))
      clear C1 C2 f1c f2c hfe
      obtain ⟨A5, c5, e5⟩ := own_slice o1
      obtain ⟨A6, c6, e6⟩ := own_slice o2
      rw [e5, e6] at HSF HC
      clear o1 o2 e5 e6
      unfold fdV at HSF
      generalize l1[j].1.fs.length = m5 at *
      generalize l1[j].1.rg = rg at *
      generalize l1[j].1.ep = ep at *
      generalize l1[j].1.cl = cl at *
      go_wp2_with fail
      have hInh := fun (x v : Value) => (⟨fun h => h _ ((Kp.refl wr).drew), fun h _ _ => h⟩ : (∀ Wz9, (fun W' => Kp wr W') Wz9 → x = v) ↔ x = v)
      dsimp only at hInh
      refine wp_region_quietC (C := fun W' => Kp wr W') (by kernel_rfl) (by kernel_rfl) ((Kp.refl wr).drew) ?_
      repeat (first | go_big_quiet_step ((intro hW; first | (go_at_call 31; refine (HSF.out _ hW).mono ?_; rintro e w' ⟨rfl, hk9⟩; exact ⟨rfl, hW.trans hk9⟩) | (with_reducible rfl) | (obtain ⟨⟨n0, n1, n2, n3⟩, m0, m1, m2, m3⟩ := HC.out _ hW; (try go_simp); first | done | with_reducible rfl | exact ⟨rfl, rfl⟩))) | quiet_step ((intro hW; first | (go_at_call 31; refine (HSF.out _ hW).mono ?_; rintro e w' ⟨rfl, hk9⟩; exact ⟨rfl, hW.trans hk9⟩) | (with_reducible rfl) | (obtain ⟨⟨n0, n1, n2, n3⟩, m0, m1, m2, m3⟩ := HC.out _ hW; (try go_simp); first | done | with_reducible rfl | exact ⟨rfl, rfl⟩))))
      refine wpQuiet_nil ?_
      intro wq hwq
      clear hInh
      go_wp2_with fail
      go_roundw
      case rel => exact ⟨j + 1, by omega, by go_num, hKr.trans hwq⟩
      case measure => simp [intOf]; omega
    · obtain rfl : j = n := by omega
      go_wp2_with fail
      go_ret
      exact ⟨rfl, hKr⟩
end Go.Proofs.Ytecelmhiffcaeaa
/- 'tells': a device of an image holds what the document says. -/
namespace Go.Proofs.Ytecelmhiffcaeaa
open Go.RowKit
set_option linter.unusedVariables false
set_option maxRecDepth 20000
set_option maxHeartbeats 6400000 in
theorem tells_any (p s r : Int) (hR : RightG p s r) (image : ByteArray) (hl : (image.size : Int) ≤ p * s * r) (W : World) :
    Calls Try.prog 10 #[geo p s r, .string image] W fun e w' => e = .returned (.bool true) ∧ Kp W w' := by
  obtain ⟨r1, r2, r3, r4, r5, r6⟩ := id hR
  have HNW := Lib.hid (fun W => new_S hR image hl W)
  have HRN := Lib.hid (fun W => rnewf p s r hR image hl W)
  unfold RNewPost at HRN
  have hok := newD_ok hR image hl
  have hdn : (newD p s r image).down = false := rfl
  generalize hD : newD p s r image = D at *
  have HOK := Lib.hid hok
  have HDN := Lib.hid hdn
  have HAL := Lib.hid (fun (w0 W : World) g ib ic v (h : FlS w0 W g ib ic p s r D v) => sall_up h.at_ h.ok HDN.out)
  have HRA := Lib.hid (fun (W : World) g ib ic v (h : RfX W g ib ic p s r D v) => rscanall h HOK.out HDN.out)
  have HRG := Lib.hid (fun (w0 W : World) g ib ic v (h : FlS w0 W g ib ic p s r D v) (i : Int) h0 h1 => sregion_up h.at_ h.ok HDN.out i i rfl h0 h1)
  have HI1 := Lib.hid (fun (w0 W : World) g ib ic v (h : FlS w0 W g ib ic p s r D v) => fimage h.at_)
  have HI2 := Lib.hid (fun (W : World) g ib ic v (h : RfX W g ib ic p s r D v) => rimage h)
  generalize strN D.img = im at *
  have hbe : (im.toList == im.toList) = true := by simp
  have HLN := Lib.hid (allF2_len D p s r.toNat)
  have HGT : Hid (∀ (k : Nat), (k : Int) < r → (allF2 D p s r.toNat)[k]? = some (regF (k : Int) (pgs D p s (k : Int)))) := Lib.hid (fun k hk => by
    unfold allF2
    rw [List.getElem?_map, List.getElem?_range (by omega)]
    rfl)
  generalize allF2 D p s r.toNat = AL at *
  clear hok hdn hD
  have hG := Bk.new W 23 [.int .i64 p, .int .i64 s, .int .i64 r]
  have hK := Kp.one W (.cells #[.int .i64 p, .int .i64 s, .int .i64 r] 23)
  obtain ⟨c0, c1, c2⟩ := (show _ ∧ _ ∧ _ from hG.c3g)
  go_enter Try.func10, Try.ntmps10
  go_wp2_with fail
  refine (HNW.out _).mono ?_
  rintro e w1 ⟨g, ib, ic, v, rfl, h1⟩
  have hG1 := hG.keep h1.kp
  have hK1 := hK.trans h1.kp
  clear c0 c1 c2
  obtain ⟨c0, c1, c2⟩ := (show _ ∧ _ ∧ _ from hG1.c3g)
  go_wp2_with fail
  refine (HRN.out _).mono ?_
  rintro e w2 ⟨g2, ib2, ic2, rfl, -, -, hr2, hk2⟩
  have h2 := h1.keep hk2
  go_wp2_with fail
  refine (HAL.out _ _ _ _ _ _ h2).mono ?_
  rintro e w3 ⟨v3, l3, rfl, hl3, hF3, hk3⟩
  go_wp2_with fail
  refine (HRA.out _ _ _ _ _ (hr2.keep hk3)).mono ?_
  rintro e w4 ⟨v4, l4, rfl, hl4, hF4, hk4⟩
  have HSF := Lib.hid (samefounds w4 _ _ _ _ l3 l4 (hl3.trans hl4.symm) (hF3.keep hk4) hF4)
  have hn4 : l4.length = r.toNat := by rw [← List.length_map (f := Prod.fst), hl4, HLN.out]
  obtain ⟨hO4, hR4⟩ := hF4
  rw [hn4] at hO4
  obtain ⟨q4, c4', e4, C4⟩ := fd_cells hO4 hn4 (by omega)
  have HC4 := Lib.hid C4
  have HR4 := Lib.hid hR4
  have HL4 := Lib.hid hl4
  have HN4 := Lib.hid hn4
  rw [e4] at HSF
  rw [e4]
  clear hO4 hR4 hl4 hn4 hF3 hl3 e4 C4
  go_wp2_with fail
  refine (HSF.out).mono ?_
  rintro e w5 ⟨rfl, hk5⟩
  have hkA := ((hk2.trans hk3).trans hk4).trans hk5
  have hG5 := hG1.keep hkA
  have h5 := h1.keep hkA
  have hr5 := hr2.keep ((hk3.trans hk4).trans hk5)
  have hK5 := hK1.trans hkA
  clear c0 c1 c2 HSF
  have HCG := Lib.hid (fun W' (k : Kp w5 W') => (hG5.keep k).c3g)
  go_wp2_with fail
  go_loopw [12] (fun i wr => ∃ j : Nat, (j : Int) ≤ r ∧ i = .int .i64 j ∧ Kp w5 wr) (fun i _ => r.toNat - (intOf i).toNat)
  case atStart => exact ⟨0, by omega, rfl, Kp.refl _⟩
  case round =>
    obtain ⟨j, hj, rfl, hKr⟩ := hrel
    obtain ⟨c0, c1, c2⟩ := (show _ ∧ _ ∧ _ from HCG.out _ hKr)
    by_cases hlt : (j : Int) < r
    · have d5 : decide ((j : Int) < r) = true := by simpa using hlt
      have q5 : IntKind.i64.wrap ((j : Int) + 1) = (j : Int) + 1 := IntWalk.i64_in _ (by omega)
      have hjl : j < l4.length := by rw [HN4.out]; omega
      have hjr : j < r.toNat := by omega
      have hjt : (j : Int) < (r.toNat : Int) := by omega
      have hfe : l4[j].1 = regF (j : Int) (pgs D p s (j : Int)) := by
        have a1 : (l4.map Prod.fst)[j]? = some l4[j].1 := by rw [List.getElem?_map, List.getElem?_eq_getElem hjl]; rfl
        rw [HL4.out, HGT.out j hlt] at a1
        exact (Option.some.inj a1).symm
      have o4 := HR4.out _ (List.getElem_mem hjl)
      have HC := Lib.hid (fun W' (kk : Kp w5 W') => HC4.out W' (hk5.trans kk) j hjl)
      rw [hfe] at o4 HC
      obtain ⟨A6, c6, e6⟩ := own_slice o4
      rw [e6] at o4 HC
      have HRJ := Lib.hid (HRG.out _ _ _ _ _ _ (h5.keep hKr) (j : Int) (by omega) hlt)
      generalize regF (j : Int) (pgs D p s (j : Int)) = F at *
      go_wp2_with fail
      refine (HRJ.out).mono ?_
      rintro e w6 ⟨fv, rfl, ho6, hk6⟩
      obtain ⟨A7, c7, rfl⟩ := own_slice ho6
      have hX := Bk.new w6 44 [.int .i64 F.rg, .int .u32 F.ep, .slice A7 F.fs.length c7, .bool F.cl]
      have hk7 := hKr.trans (hk6.alloc (.cells #[.int .i64 F.rg, .int .u32 F.ep, .slice A7 F.fs.length c7, .bool F.cl] 44))
      have HXC := Lib.hid (fun W' (kk : Kp (w6.alloc (.cells #[.int .i64 F.rg, .int .u32 F.ep, .slice A7 F.fs.length c7, .bool F.cl] 44)) W') => And.intro (show _ ∧ _ ∧ _ ∧ _ from (hX.keep kk).c4g) (HC.out W' (hk7.trans kk)))
      have ho7 := own_keep ho6 (Kp.one w6 (.cells #[.int .i64 F.rg, .int .u32 F.ep, .slice A7 F.fs.length c7, .bool F.cl] 44))
      have hX4 := own_keep o4 (hk5.trans hk7)
      have HSJ := Lib.hid (fun W' (kk : Kp (w6.alloc (.cells #[.int .i64 F.rg, .int .u32 F.ep, .slice A7 F.fs.length c7, .bool F.cl] 44)) W') => samefound W' _ _ _ _ F (own_keep ho7 kk) (own_keep hX4 kk))
      unfold fdV at HSJ
      clear ho6 ho7 hX4 o4 hX hfe HC
      generalize F.fs.length = m5 at *
      generalize F.rg = rg at *
      generalize F.ep = ep at *
      generalize F.cl = cl at *
      go_wp2_with fail
      have hInh := fun (x v : Value) => (⟨fun h => h _ ((Kp.refl _).drew), fun h _ _ => h⟩ : (∀ Wz9, (fun W' => Kp (w6.alloc (.cells #[.int .i64 rg, .int .u32 ep, .slice A7 m5 c7, .bool cl] 44)) W') Wz9 → x = v) ↔ x = v)
      dsimp only at hInh
      refine wp_region_quietC (C := fun W' => Kp (w6.alloc (.cells #[.int .i64 rg, .int .u32 ep, .slice A7 m5 c7, .bool cl] 44)) W') (by kernel_rfl) (by kernel_rfl) ((Kp.refl _).drew) ?_
      repeat (first | go_big_quiet_step ((intro hW; first | (go_at_call 31; refine (HSJ.out _ hW).mono ?_; rintro e w' ⟨rfl, hk9⟩; exact ⟨rfl, hW.trans hk9⟩) | (with_reducible rfl) | (obtain ⟨⟨n0, n1, n2, n3⟩, m0, m1, m2, m3⟩ := HXC.out _ hW; (try go_simp); first | done | with_reducible rfl | exact ⟨rfl, rfl⟩))) | quiet_step ((intro hW; first | (go_at_call 31; refine (HSJ.out _ hW).mono ?_; rintro e w' ⟨rfl, hk9⟩; exact ⟨rfl, hW.trans hk9⟩) | (with_reducible rfl) | (obtain ⟨⟨n0, n1, n2, n3⟩, m0, m1, m2, m3⟩ := HXC.out _ hW; (try go_simp); first | done | with_reducible rfl | exact ⟨rfl, rfl⟩))))
      refine wpQuiet_nil ?_
      intro wq hwq
      clear hInh
      go_wp2_with fail
      go_roundw
      case rel => exact ⟨j + 1, by omega, by go_num, hk7.trans hwq⟩
      case measure => simp [intOf]; omega
    · have d5 : decide ((j : Int) < r) = false := by simp; omega
      go_wp2_with fail
      refine (HI1.out _ _ _ _ _ _ (h5.keep hKr)).mono ?_
      rintro e w7 ⟨rfl, hk7⟩
      go_wp2_with fail
      refine (HI2.out _ _ _ _ _ (hr5.keep (hKr.trans hk7))).mono ?_
      rintro e w8 ⟨rfl, hk8⟩
      have hkF := hK5.trans ((hKr.trans hk7).trans hk8)
      go_wp2_with fail
      go_ret
      exact ⟨rfl, hkF⟩
end Go.Proofs.Ytecelmhiffcaeaa
