/- The walk of PieceFields. -/
import Derived.Test.YtadggldngoknjaaLawPiece5
namespace Go.Proofs.Ytadggldngoknjaa
open Go.RowKit
set_option linter.unusedVariables false

theorem ofP_cases (k a b : Int) (s : ByteArray) (q : Pc) (h : ofP k a b s = some q) :
    (k = 1 ∧ q = .head a b) ∨ (k = 2 ∧ q = .part a b s) ∨ (k = 3 ∧ s.size = 16 ∧ q = .slp a b (get4 s 0) (get4 s 4) (get4 s 8) (get4 s 12)) ∨ (k = 4 ∧ s.size = 4 ∧ q = .floor a b (get4 s 0)) := by
  unfold ofP at h
  split at h
  · split at h
    · rename_i hc; exact Or.inl ⟨hc.1, (Option.some.inj h).symm⟩
    · split at h
      · rename_i hc; exact Or.inr (Or.inl ⟨hc.1, (Option.some.inj h).symm⟩)
      · split at h
        · rename_i hc; exact Or.inr (Or.inr (Or.inl ⟨hc.1, hc.2.1, (Option.some.inj h).symm⟩))
        · split at h
          · rename_i hc; exact Or.inr (Or.inr (Or.inr ⟨hc.1, hc.2.1, (Option.some.inj h).symm⟩))
          · cases h
  · cases h
theorem rgK (s : ByteArray) (hs : s.size ≤ 9223372036854775807) (k : Int) (h0 : 0 ≤ k) (h : k + 4 ≤ s.size) (w : World) :
    Calls Try.prog 19 #[.string s, .int .i64 k] w fun e w' => e = .returned (.int .u32 (get4 s k.toNat : Nat)) ∧ Kp w w' :=
  (rg s hs k h0 h w).mono fun _ _ ⟨he, n, hn⟩ => ⟨he, hn ▸ Kp.drewN (Kp.refl w) n⟩

set_option maxRecDepth 20000 in
set_option maxHeartbeats 6400000 in
theorem PieceFields_walk (w : World) (k a b : Int) (s : ByteArray) (wk : (Lit.int .i64 k).wf = true) (wa : (Lit.int .u32 a).wf = true) (wb : (Lit.int .u32 b).wf = true) (hs : s.size ≤ 140737488351232) (how : Int) (wh : (Lit.int .i64 how).wf = true) :
    Calls Try.prog 5 #[frv k a b s, .int .i64 how] w fun e w' => e = .returned (.bool true) ∧ Kp w w' := by
  have bk := bounds_i64 wk
  have ba := bounds_u32 wa
  have bb := bounds_u32 wb
  have bh := bounds_i64 wh
  clear wk wa wb wh
  go_enter Try.func5, Try.ntmps5
  go_upto_region 1 with fail
  have hB := Bk.new w 29 [.int .i64 k, .int .u32 a, .int .u32 b, .string s]
  have hK := Kp.one w (fob k a b s)
  have hW : w.alloc (.cells [.int .i64 k, .int .u32 a, .int .u32 b, .string s].toArray 29) = w.alloc (fob k a b s) := rfl
  rw [hW] at hB
  clear hW
  generalize w.alloc (fob k a b s) = w1 at hB hK ⊢
  go_cut [] (fun wx => ∃ (k a b : Int) (s : ByteArray), s.size ≤ 9223372036854775807 ∧ Kp w wx ∧ Bk wx w.heap.size 29 [.int .i64 k, .int .u32 a, .int .u32 b, .string s])
  case first =>
    obtain ⟨c0, c1, c2, c3⟩ := hB.c4
    have D4 := Lib.hid (fun W (h : Kp w1 W) => (hB.keep h).c4)
    have F0 := Lib.hid (fun W (h : Kp w1 W) => (hB.keep h).free 0)
    have F1 := Lib.hid (fun W (h : Kp w1 W) => (hB.keep h).free 1)
    have F2 := Lib.hid (fun W (h : Kp w1 W) => (hB.keep h).free 2)
    have F3 := Lib.hid (fun W (h : Kp w1 W) => (hB.keep h).free 3)
    have BB := Lib.hid hB
    have KK := Lib.hid hK
    clear hB hK
    go_region_with (first
      | (go_at_call 12; refine (pick3 _ (by omega) (by omega) _).mono ?_; rintro e w' ⟨rfl, rfl⟩)
      | (go_at_call 11; refine (shaped_any _ _ _ _ (by omega) (by omega) (by omega) (by omega) (by omega) _ (by omega) (by omega) _).mono ?_; rintro e w' ⟨k', a', b', s', hs', rfl, hk'⟩; have hk8 := Kp.trans (Kp.refl w1).drew hk'; obtain ⟨x0, x1, x2, x3⟩ := D4.out _ hk8; have g0 := F0.out _ hk8; have g1 := F1.out _ hk8; have g2 := F2.out _ hk8; have g3 := F3.out _ hk8))
    all_goals go_wp2_with fail
    all_goals go_meet
    all_goals exact ⟨k', a', b', s', hs', store4 (Kp.trans KK.out hk8) (Nat.le_refl _) _ _ _ _, ((((BB.out.keep hk8).put 0 _).put 1 _).put 2 _).put 3 _⟩
  case rest =>
    clear hB hK bk ba bb bh hs
    obtain ⟨k, a, b, s, hs, hK, hB⟩ := hcut
    obtain ⟨c0, c1, c2, c3⟩ := hB.c4
    go_wp2_with fail
    refine (of_any _ _ _ _ hs _).mono ?_
    rintro e w2 ⟨rfl, hk2⟩
    have hB2 := hB.keep hk2
    have hK2 := Kp.trans hK hk2
    clear hB hK hk2 c0 c1 c2 c3
    rcases ho : ofP k a b s with _ | q
    · simp only [pval, codeP]
      clear ho
      go_wp2_with fail
      refine (alive_any _).mono ?_
      rintro e w3 ⟨rfl, hk3⟩
      go_wp2_with fail
      refine (alive_any _).mono ?_
      rintro e w4 ⟨rfl, hk4⟩
      go_wp2_with fail
      go_ret
      exact ⟨rfl, Kp.trans (Kp.trans hK2 hk3) hk4⟩
    · have hc := ofP_cases k a b s q ho
      simp only [codeP]
      clear ho
      rcases hc with ⟨rfl, rfl⟩ | ⟨rfl, rfl⟩ | ⟨rfl, h16, rfl⟩ | ⟨rfl, h4, rfl⟩
      · have H1 := Lib.hid (fun w => aspart_any (some (.head a b)) w)
        have H2 := Lib.hid (fun w => asseal_any (some (.head a b)) w)
        have H3 := Lib.hid (fun w => asfloor_any (some (.head a b)) w)
        simp only [pval, partV, sealV, floorV] at H1 H2 H3 ⊢
        go_wp2_with fail
        refine (alive_any _).mono ?_
        rintro e w3 ⟨rfl, hk3⟩
        go_wp2_with fail
        refine (H1.out _).mono ?_
        rintro e w4 ⟨rfl, hk4⟩
        go_wp2_with fail
        refine (H2.out _).mono ?_
        rintro e w5 ⟨rfl, hk5⟩
        go_wp2_with fail
        refine (H3.out _).mono ?_
        rintro e w6 ⟨rfl, hk6⟩
        have hK6 := Kp.trans (Kp.alloc (Kp.trans (Kp.alloc (Kp.trans (Kp.trans hK2 hk3) hk4) _) hk5) _) hk6
        have hB6 := (((((hB2.keep hk3).keep hk4).alloc _).keep hk5).alloc _).keep hk6
        have c0 := fun o => (hB6.alloc o).c4.1
        clear hk3 hk4 hk5 hk6
        go_wp2_with fail
        go_ret
        exact ⟨rfl, hK6.alloc _⟩
      · have H1 := Lib.hid (fun w => aspart_any (some (.part a b s)) w)
        have H2 := Lib.hid (fun w => asseal_any (some (.part a b s)) w)
        have H3 := Lib.hid (fun w => asfloor_any (some (.part a b s)) w)
        simp only [pval, partV, sealV, floorV] at H1 H2 H3 ⊢
        go_wp2_with fail
        refine (alive_any _).mono ?_
        rintro e w3 ⟨rfl, hk3⟩
        go_wp2_with fail
        refine (H1.out _).mono ?_
        rintro e w4 ⟨rfl, hk4⟩
        have hP := Bk.new w4 31 [.int .u32 a, .int .u32 b, .string s]
        go_wp2_with fail
        refine (H2.out _).mono ?_
        rintro e w5 ⟨rfl, hk5⟩
        go_wp2_with fail
        refine (H3.out _).mono ?_
        rintro e w6 ⟨rfl, hk6⟩
        have hK6 := Kp.trans (Kp.alloc (Kp.trans (Kp.alloc (Kp.trans (Kp.trans hK2 hk3) hk4) _) hk5) _) hk6
        have hB6 := (((((hB2.keep hk3).keep hk4).alloc _).keep hk5).alloc _).keep hk6
        have hP6 := ((hP.keep hk5).alloc _).keep hk6
        have c0 := fun o => (hB6.alloc o).c4.1
        have c1 := fun o => (hB6.alloc o).c4.2.1
        have c2 := fun o => (hB6.alloc o).c4.2.2.1
        have c3 := fun o => (hB6.alloc o).c4.2.2.2
        have p0 := fun o => (hP6.alloc o).c3.1
        have p1 := fun o => (hP6.alloc o).c3.2.1
        have p2 := fun o => (hP6.alloc o).c3.2.2
        clear hk3 hk4 hk5 hk6
        go_wp2_with fail
        go_ret
        exact ⟨rfl, hK6.alloc _⟩
      · have H1 := Lib.hid (fun w => aspart_any (some (.slp a b (get4 s 0) (get4 s 4) (get4 s 8) (get4 s 12))) w)
        have H2 := Lib.hid (fun w => asseal_any (some (.slp a b (get4 s 0) (get4 s 4) (get4 s 8) (get4 s 12))) w)
        have H3 := Lib.hid (fun w => asfloor_any (some (.slp a b (get4 s 0) (get4 s 4) (get4 s 8) (get4 s 12))) w)
        simp only [pval, partV, sealV, floorV] at H1 H2 H3 ⊢
        go_wp2_with fail
        refine (alive_any _).mono ?_
        rintro e w3 ⟨rfl, hk3⟩
        go_wp2_with fail
        refine (H1.out _).mono ?_
        rintro e w4 ⟨rfl, hk4⟩
        go_wp2_with fail
        refine (H2.out _).mono ?_
        rintro e w5 ⟨rfl, hk5⟩
        have hP := Bk.new w5 33 [.int .u32 a, .int .u32 b, .int .u32 (get4 s 0 : Nat), .int .u32 (get4 s 4 : Nat), .int .u32 (get4 s 8 : Nat), .int .u32 (get4 s 12 : Nat)]
        go_wp2_with fail
        refine (H3.out _).mono ?_
        rintro e w6 ⟨rfl, hk6⟩
        have hK6 := Kp.trans (Kp.alloc (Kp.trans (Kp.alloc (Kp.trans (Kp.trans hK2 hk3) hk4) _) hk5) _) hk6
        have hB6 := (((((hB2.keep hk3).keep hk4).alloc _).keep hk5).alloc _).keep hk6
        have hP6 := hP.keep hk6
        clear hk3 hk4 hk5 hk6 hP hB2 hK2
        have c0 := fun o => (hB6.alloc o).c4.1
        have HC := Lib.hid (fun o W (h : Kp (w6.alloc o) W) => (⟨((hB6.alloc o).keep h).c4, ((hP6.alloc o).keep h).c6⟩ : _ ∧ _))
        have h16' : ∀ j : Int, j ≤ 12 → j + 4 ≤ s.size := fun j hj => by omega
        go_wp2_with fail
        clear c0
        refine wp_region_quiet (C := fun W => Kp (w6.alloc (.cells #[.int .u32 0, .int .u32 0, .int .u32 0] 35)) W) (by kernel_rfl) (by kernel_rfl) ((Kp.refl _).drew) ?_
        simp only [List.toList_toArray]
        repeat (refine wpQuiet_step (fun K hK => ?_); go_simp; first | (refine hK _ ?_; clear hK K) | (apply Exists.intro; refine ⟨fun W hW => ?_, hK _ ?_⟩; (first | (go_at_call 19; refine (rgK s hs _ (by omega) (by omega) _).mono ?_; rintro e w' ⟨rfl, hk9⟩; exact ⟨rfl, hW.trans hk9⟩) | (with_reducible rfl) | (obtain ⟨⟨q0, q1, q2, q3⟩, q4, q5, q6, q7, q8, q9⟩ := HC.out _ W hW; (try go_simp); first | done | with_reducible rfl | exact ⟨rfl, rfl⟩)); clear hK K))
        refine wpQuiet_nil ?_
        intro wq hwq
        go_wp2_with fail
        go_ret
        exact ⟨rfl, (hK6.alloc _).trans hwq⟩
      · have H1 := Lib.hid (fun w => aspart_any (some (.floor a b (get4 s 0))) w)
        have H2 := Lib.hid (fun w => asseal_any (some (.floor a b (get4 s 0))) w)
        have H3 := Lib.hid (fun w => asfloor_any (some (.floor a b (get4 s 0))) w)
        simp only [pval, partV, sealV, floorV] at H1 H2 H3 ⊢
        go_wp2_with fail
        refine (alive_any _).mono ?_
        rintro e w3 ⟨rfl, hk3⟩
        go_wp2_with fail
        refine (H1.out _).mono ?_
        rintro e w4 ⟨rfl, hk4⟩
        go_wp2_with fail
        refine (H2.out _).mono ?_
        rintro e w5 ⟨rfl, hk5⟩
        go_wp2_with fail
        refine (H3.out _).mono ?_
        rintro e w6 ⟨rfl, hk6⟩
        have hK6 := Kp.trans (Kp.alloc (Kp.trans (Kp.alloc (Kp.trans (Kp.trans hK2 hk3) hk4) _) hk5) _) hk6
        have hB6 := (((((hB2.keep hk3).keep hk4).alloc _).keep hk5).alloc _).keep hk6
        have hP6 := Bk.new w6 35 [.int .u32 a, .int .u32 b, .int .u32 (get4 s 0 : Nat)]
        clear hk3 hk4 hk5 hk6 hB2 hK2
        have c0 := fun o => (hB6.alloc o).c4.1
        have HC := Lib.hid (fun W (h : Kp (w6.alloc (.cells #[.int .u32 a, .int .u32 b, .int .u32 (get4 s 0 : Nat)] 35)) W) => (⟨((hB6.alloc _).keep h).c4, (hP6.keep h).c3⟩ : _ ∧ _))
        go_wp2_with fail
        clear c0
        refine wp_region_quiet (C := fun W => Kp (w6.alloc (.cells #[.int .u32 a, .int .u32 b, .int .u32 (get4 s 0 : Nat)] 35)) W) (by kernel_rfl) (by kernel_rfl) ((Kp.refl _).drew) ?_
        simp only [List.toList_toArray]
        repeat (refine wpQuiet_step (fun K hK => ?_); go_simp; first | (refine hK _ ?_; clear hK K) | (apply Exists.intro; refine ⟨fun W hW => ?_, hK _ ?_⟩; (first | (go_at_call 19; refine (rgK s hs _ (by omega) (by omega) _).mono ?_; rintro e w' ⟨rfl, hk9⟩; exact ⟨rfl, hW.trans hk9⟩) | (with_reducible rfl) | (obtain ⟨⟨q0, q1, q2, q3⟩, q4, q5, q6⟩ := HC.out W hW; (try go_simp); first | done | with_reducible rfl | exact ⟨rfl, rfl⟩)); clear hK K))
        refine wpQuiet_nil ?_
        intro wq hwq
        go_wp2_with fail
        go_ret
        exact ⟨rfl, (hK6.alloc _).trans hwq⟩
end Go.Proofs.Ytadggldngoknjaa
