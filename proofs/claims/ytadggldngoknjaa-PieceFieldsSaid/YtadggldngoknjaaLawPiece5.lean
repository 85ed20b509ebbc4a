/- 'shaped' as a whole; a frame's piece leads back to it; the walk of PieceTells. -/
import Derived.Test.YtadggldngoknjaaLawPiece3a
import Derived.Test.YtadggldngoknjaaLawPiece3b
import Derived.Test.YtadggldngoknjaaLawPiece4
namespace Go.Proofs.Ytadggldngoknjaa
open Go.RowKit
set_option linter.unusedVariables false

theorem shaped_any (k a b : Int) (s : ByteArray) (h1 : -9223372036854775808 ≤ k) (h2 : k ≤ 9223372036854775807) (ha : 0 ≤ a ∧ a ≤ 4294967295) (hb : 0 ≤ b ∧ b ≤ 4294967295) (hs : s.size ≤ 140737488351232) (how : Int) (h0 : 0 ≤ how) (h3 : how ≤ 2) (w : World) :
    Calls Try.prog 11 #[frv k a b s, .int .i64 how] w (SomeFrame w) := by
  obtain rfl | rfl | rfl : how = 0 ∨ how = 1 ∨ how = 2 := by omega
  · exact shaped_0 k a b s h1 h2 hs w
  · have : k % 6 = 0 ∨ k % 6 = 1 ∨ k % 6 = 2 ∨ k % 6 = 3 ∨ k % 6 = 4 ∨ k % 6 = 5 := by omega
    rcases this with h | h | h | h | h | h
    · exact shaped_0_1 k a b s h1 h2 ha hb hs h w
    · exact shaped_1_1 k a b s h1 h2 ha hb hs h w
    · exact shaped_2_1 k a b s h1 h2 ha hb hs h w
    · exact shaped_3_1 k a b s h1 h2 ha hb hs h w
    · exact shaped_4_1 k a b s h1 h2 ha hb hs h w
    · exact shaped_5_1 k a b s h1 h2 ha hb hs h w
  · have : k % 6 = 0 ∨ k % 6 = 1 ∨ k % 6 = 2 ∨ k % 6 = 3 ∨ k % 6 = 4 ∨ k % 6 = 5 := by omega
    rcases this with h | h | h | h | h | h
    · exact shaped_0_2 k a b s h1 h2 ha hb hs h w
    · exact shaped_1_2 k a b s h1 h2 ha hb hs h w
    · exact shaped_2_2 k a b s h1 h2 ha hb hs h w
    · exact shaped_3_2 k a b s h1 h2 ha hb hs h w
    · exact shaped_4_2 k a b s h1 h2 ha hb hs h w
    · exact shaped_5_2 k a b s h1 h2 ha hb hs h w

theorem nb_put_get4 (s : ByteArray) (i : Nat) : nb (put (get4 s i)) = [byteAt s i, byteAt s (i + 1), byteAt s (i + 2), byteAt s (i + 3)] := by
  rw [nb_put _ (get4_lt s i)]
  have b0 := byteAt_lt s i
  have b1 := byteAt_lt s (i + 1)
  have b2 := byteAt_lt s (i + 2)
  have b3 := byteAt_lt s (i + 3)
  unfold get4 Crc.word
  generalize byteAt s i = x at *
  generalize byteAt s (i + 1) = y at *
  generalize byteAt s (i + 2) = z at *
  generalize byteAt s (i + 3) = u at *
  simp only [List.cons.injEq, and_true]
  omega
theorem nb_get (s : ByteArray) : nb s = (List.range s.size).map (byteAt s) := by
  apply List.ext_getElem
  · simp [nb_len]
  · intro i h1 h2
    unfold byteAt
    simp [List.getD_eq_getElem?_getD, h1]
theorem four16 (s : ByteArray) (h : s.size = 16) : put (get4 s 0) ++ put (get4 s 4) ++ put (get4 s 8) ++ put (get4 s 12) = s := by
  apply nb_inj
  rw [nb_append, nb_append, nb_append, nb_put_get4, nb_put_get4, nb_put_get4, nb_put_get4, nb_get s, h]
  rfl
theorem ofP_back (k a b : Int) (s : ByteArray) (hs : s.size ≤ 9223372036854775807) (q : Pc) (h : ofP k a b s = some q) :
    fkOf (some q) = k ∧ faOf (some q) = a ∧ fbOf (some q) = b ∧ fsOf (some q) = s ∧ PcOk (some q) := by
  have g := fun i => get4_lt s i
  unfold ofP at h
  split at h
  · split at h
    · rename_i hc
      have he : s = ⟨#[]⟩ := by
        have h2 : s.toList = [] := by simpa using hc.2
        rw [ByteArray.toList_eq] at h2
        apply nb_inj
        unfold nb; rw [h2]
      obtain rfl : q = .head a b := (Option.some.inj h).symm
      exact ⟨hc.1.symm, rfl, rfl, he.symm, trivial⟩
    · split at h
      · rename_i hc
        obtain rfl : q = .part a b s := (Option.some.inj h).symm
        exact ⟨hc.1.symm, rfl, rfl, rfl, hs⟩
      · split at h
        · rename_i hc
          obtain rfl : q = .slp a b (get4 s 0) (get4 s 4) (get4 s 8) (get4 s 12) := (Option.some.inj h).symm
          refine ⟨hc.1.symm, rfl, rfl, ?_, ?_⟩
          · show put _ ++ put _ ++ put _ ++ put _ = s
            simp only [Int.toNat_natCast]
            exact four16 s hc.2.1
          · have := g 0; have := g 4; have := g 8; have := g 12
            exact ⟨⟨by omega, by omega⟩, ⟨by omega, by omega⟩, ⟨by omega, by omega⟩, ⟨by omega, by omega⟩⟩
        · split at h
          · rename_i hc
            obtain rfl : q = .floor a b (get4 s 0) := (Option.some.inj h).symm
            refine ⟨hc.1.symm, rfl, rfl, ?_, ?_⟩
            · show put _ = s
              simp only [Int.toNat_natCast]
              exact put_get4 s hc.2.1
            · have := g 0
              exact ⟨by omega, by omega⟩
          · cases h
  · cases h
theorem frame_back (k a b : Int) (s : ByteArray) (hs : s.size ≤ 9223372036854775807) (q : Pc) (h : ofP k a b s = some q) (w : World) :
    Calls Try.prog 15 #[pval (some q)] w fun e w' => e = .returned (.tuple #[frv k a b s, .int .i64 0]) ∧ Kp w w' := by
  obtain ⟨h1, h2, h3, h4, h5⟩ := ofP_back k a b s hs q h
  have := frame_any (some q) h5 w
  rw [h1, h2, h3, h4] at this
  have e : frameV k a b s = .tuple #[frv k a b s, .int .i64 0] := by unfold frameV; rw [h]
  rwa [e] at this
theorem pick3 (n : Int) (h1 : -9223372036854775808 ≤ n) (h2 : n ≤ 9223372036854775807) (w : World) :
    Calls Try.prog 12 #[.int .i64 n, .int .i64 3] w fun e w' => e = .returned (.int .i64 (n % 3)) ∧ w = w' := pick_any n 3 (by omega) (by omega) h1 h2 w

theorem m_head (e r : Int) (w : World) : (method 181 27 (.agg #[.int .u32 e, .int .u32 r]) "Kind").run Try.prog w = .ok (20, .agg #[.int .u32 e, .int .u32 r]) w := by kernel_rfl
theorem m_part (a b : Int) (s : ByteArray) (w : World) : (method 181 31 (.agg #[.int .u32 a, .int .u32 b, .string s]) "Kind").run Try.prog w = .ok (21, .agg #[.int .u32 a, .int .u32 b, .string s]) w := by kernel_rfl
theorem m_seal (s p v f u z : Int) (w : World) : (method 181 33 (.agg #[.int .u32 s, .int .u32 p, .int .u32 v, .int .u32 f, .int .u32 u, .int .u32 z]) "Kind").run Try.prog w = .ok (22, .agg #[.int .u32 s, .int .u32 p, .int .u32 v, .int .u32 f, .int .u32 u, .int .u32 z]) w := by kernel_rfl
theorem m_floor (s g f : Int) (w : World) : (method 181 35 (.agg #[.int .u32 s, .int .u32 g, .int .u32 f]) "Kind").run Try.prog w = .ok (23, .agg #[.int .u32 s, .int .u32 g, .int .u32 f]) w := by kernel_rfl
set_option maxRecDepth 20000 in
set_option maxHeartbeats 3200000 in
theorem PieceTells_walk (w : World) (k a b : Int) (s : ByteArray) (wk : (Lit.int .i64 k).wf = true) (wa : (Lit.int .u32 a).wf = true) (wb : (Lit.int .u32 b).wf = true) (hs : s.size ≤ 140737488351232) (how : Int) (wh : (Lit.int .i64 how).wf = true) (near : Bool) :
    Calls Try.prog 4 #[frv k a b s, .int .i64 how, .bool near] w fun e w' => e = .returned (.bool true) ∧ Kp w w' := by
  have bk := bounds_i64 wk
  have ba := bounds_u32 wa
  have bb := bounds_u32 wb
  have bh := bounds_i64 wh
  clear wk wa wb wh
  go_enter Try.func4, Try.ntmps4
  go_upto_if 11 with fail
  have hB := Bk.new w 29 [.int .i64 k, .int .u32 a, .int .u32 b, .string s]
  have hK := Kp.one w (fob k a b s)
  have hW : w.alloc (.cells [.int .i64 k, .int .u32 a, .int .u32 b, .string s].toArray 29) = w.alloc (fob k a b s) := rfl
  rw [hW] at hB
  clear hW
  generalize w.alloc (fob k a b s) = w1 at hB hK ⊢
  go_cut [] (fun wx => ∃ (k a b : Int) (s : ByteArray), s.size ≤ 9223372036854775807 ∧ Kp w wx ∧ Bk wx w.heap.size 29 [.int .i64 k, .int .u32 a, .int .u32 b, .string s])
  case first =>
    rcases near with _ | _
    · go_wp2_with fail
      go_meet
      exact ⟨_, _, _, _, by omega, hK, hB⟩
    · obtain ⟨c0, c1, c2, c3⟩ := hB.c4
      have d4 := fun W (h : Kp w1 W) => (hB.keep h).c4
      have D4 := Lib.hid d4
      clear d4
      have f0 := fun W (h : Kp w1 W) => (hB.keep h).free 0
      have F0 := Lib.hid f0
      clear f0
      have f1 := fun W (h : Kp w1 W) => (hB.keep h).free 1
      have F1 := Lib.hid f1
      clear f1
      have f2 := fun W (h : Kp w1 W) => (hB.keep h).free 2
      have F2 := Lib.hid f2
      clear f2
      have f3 := fun W (h : Kp w1 W) => (hB.keep h).free 3
      have F3 := Lib.hid f3
      clear f3
      have BB := Lib.hid hB
      have KK := Lib.hid hK
      clear hB hK
      go_wp2_with fail
      go_region_with (first
        | (go_at_call 12; refine (pick3 _ (by omega) (by omega) _).mono ?_; rintro e w' ⟨rfl, rfl⟩)
        | (go_at_call 11; refine (shaped_any _ _ _ _ (by omega) (by omega) (by omega) (by omega) (by omega) _ (by omega) (by omega) _).mono ?_; rintro e w' ⟨k', a', b', s', hs', rfl, hk'⟩; have hk8 := Kp.trans (Kp.refl w1).drew hk'; obtain ⟨x0, x1, x2, x3⟩ := D4.out _ hk8; have g0 := F0.out _ hk8; have g1 := F1.out _ hk8; have g2 := F2.out _ hk8; have g3 := F3.out _ hk8))
      all_goals go_wp2_with fail
      all_goals go_meet
      all_goals exact ⟨k', a', b', s', hs', store4 (Kp.trans KK.out hk8) (Nat.le_refl _) _ _ _ _, ((((BB.out.keep hk8).put 0 _).put 1 _).put 2 _).put 3 _⟩
  case rest =>
    clear hB hK bk ba bb bh hs
    obtain ⟨k, a, b, s, hs, hK, hB⟩ := hcut
    have HP := Lib.hid (fun w => pr_any k a b s hs w)
    obtain ⟨c0, c1, c2, c3⟩ := hB.c4
    go_wp2_with fail
    refine (of_any _ _ _ _ hs _).mono ?_
    rintro e w2 ⟨rfl, hk2⟩
    have hB2 := hB.keep hk2
    have hK2 := Kp.trans hK hk2
    clear hB hK hk2 c0 c1 c2 c3
    obtain ⟨c0, c1, c2, c3⟩ := hB2.c4
    rcases ho : ofP k a b s with _ | q
    · rw [ho] at HP
      simp only [pval, codeP, Option.isSome_none] at HP ⊢
      clear ho
      go_wp2_with fail
      refine (alive_any _).mono ?_
      rintro e w3 ⟨rfl, hk3⟩
      clear c0 c1 c2 c3
      obtain ⟨c0, c1, c2, c3⟩ := (hB2.keep hk3).c4
      go_wp2_with fail
      refine (HP.out _).mono ?_
      rintro e w4 ⟨rfl, hk4⟩
      go_wp2_with fail
      go_ret
      exact ⟨rfl, Kp.trans (Kp.trans hK2 hk3) hk4⟩
    · rw [ho] at HP
      have HF := Lib.hid (frame_back k a b s hs q ho)
      have hbk := (ofP_back k a b s hs q ho).1
      simp only [codeP, Option.isSome_some] at HP ⊢
      clear ho
      rcases q with ⟨e1, r1⟩ | ⟨s1, a1, t1⟩ | ⟨s1, p1, v1, f1, u1, z1⟩ | ⟨s1, g1, f1⟩
      all_goals
        simp only [fkOf] at hbk
        subst hbk
        simp only [pval] at HF ⊢
        go_wp2_with fail
        refine (alive_any _).mono ?_
        rintro e w3 ⟨rfl, hk3⟩
        clear c0 c1 c2 c3
        obtain ⟨c0, c1, c2, c3⟩ := (hB2.keep hk3).c4
        go_wp2_with fail
        refine (HP.out _).mono ?_
        rintro e w4 ⟨rfl, hk4⟩
        clear c0 c1 c2 c3
        have hB4 := (hB2.keep hk3).keep hk4
        have hK4 := Kp.trans (Kp.trans hK2 hk3) hk4
        have HC := Lib.hid (fun W (h : Kp w4 W) => (hB4.keep h).cell 0)
        have mm1 := m_head
        have mm2 := m_part
        have mm3 := m_seal
        have mm4 := m_floor
        go_wp2_with fail
        refine wp_region_quiet (C := fun W => Kp w4 W) (by kernel_rfl) (by kernel_rfl) ((Kp.refl w4).drew) ?_
        simp only [List.toList_toArray]
        repeat (refine wpQuiet_step (fun K hK => ?_); go_simp; first | (refine hK _ ?_; clear hK K) | (apply Exists.intro; refine ⟨fun W hW => ?_, hK _ ?_⟩; (first | (first | (go_at_call 20; refine (kind_head _ _ _).mono ?_; rintro e w' ⟨rfl, hk9⟩; exact ⟨rfl, hW.trans hk9⟩) | (go_at_call 21; refine (kind_part _ _ _ _).mono ?_; rintro e w' ⟨rfl, hk9⟩; exact ⟨rfl, hW.trans hk9⟩) | (go_at_call 22; refine (kind_seal _ _ _ _ _ _ _).mono ?_; rintro e w' ⟨rfl, hk9⟩; exact ⟨rfl, hW.trans hk9⟩) | (go_at_call 23; refine (kind_floor _ _ _ _).mono ?_; rintro e w' ⟨rfl, hk9⟩; exact ⟨rfl, hW.trans hk9⟩)) | (with_reducible rfl) | (have q1 := HC.out W hW; simp only [List.getElem?_cons_zero] at q1; (try go_simp); first | done | with_reducible rfl | exact ⟨rfl, rfl⟩)); clear hK K))
        refine wpQuiet_nil ?_
        intro wq hwq
        clear mm1 mm2 mm3 mm4
        go_wp2_with fail
        refine (HF.out _).mono ?_
        rintro e w5 ⟨rfl, hk5⟩
        have hB5 := (hB4.keep hwq).keep hk5
        have hK5 := Kp.trans (Kp.trans hK4 hwq) hk5
        have c0 := fun o => (hB5.alloc o).c4.1
        have c1 := fun o => (hB5.alloc o).c4.2.1
        have c2 := fun o => (hB5.alloc o).c4.2.2.1
        have c3 := fun o => (hB5.alloc o).c4.2.2.2
        go_wp2_with fail
        go_ret
        exact ⟨rfl, hK5.alloc _⟩
end Go.Proofs.Ytadggldngoknjaa
