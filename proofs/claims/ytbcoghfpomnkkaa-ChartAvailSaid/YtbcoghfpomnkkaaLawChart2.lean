/- The walk of ChartRounds. -/
import Derived.Test.YtbcoghfpomnkkaaChart9
namespace Go.Proofs.Ytbcoghfpomnkkaa
open Go.RowKit
set_option linter.unusedVariables false

theorem mem2 {b g q : Nat} (h : b ∈ [g, q]) : b = g ∨ b = q := by simpa using h
theorem nwst_one (l : List (Int × Int)) (a : Nat) (x : Int) (hx : 0 < x) (h : ∀ j, epo l j = if j = a then x else 0) : ∀ m, nwst l m = if a < m then ((a : Int), x) else (-1, 0)
  | 0 => by rw [if_neg (by omega)]; rfl
  | m + 1 => by
    have ih := nwst_one l a x hx h m
    have hm := h m
    unfold nwst
    rw [ih, hm]
    by_cases e : m = a
    · subst e; simp [hx]
    · by_cases e2 : a < m
      · rw [if_pos e2, if_neg e, if_neg (by show ¬ x < 0; omega), if_pos (by omega)]
      · rw [if_neg e2, if_neg e, if_neg (by show ¬ (0 : Int) < 0; omega), if_neg (by omega)]
theorem nwst_rep (n : Nat) : ∀ m, nwst (List.replicate n (0, 0)) m = (-1, 0)
  | 0 => rfl
  | m + 1 => by rw [nwst, nwst_rep n m, (rep0 n m).1]; rfl
/-- One region taken. -/
def one1 (n a : Nat) (x : Int) : List (Int × Int) := (List.replicate n ((0 : Int), (0 : Int))).set a (x, 0)
theorem one1_len (n a : Nat) (x : Int) : (one1 n a x).length = n := by unfold one1; rw [List.length_set, List.length_replicate]
theorem one1_ep (n a : Nat) (x : Int) (h : a < n) (j : Nat) : epo (one1 n a x) j = if j = a then x else 0 := by
  unfold one1
  rw [epo_set _ _ _ _ (by rw [List.length_replicate]; exact h), (rep0 n j).1]
theorem one1_us (n a : Nat) (x : Int) (h : a < n) (j : Nat) : uso (one1 n a x) j = 0 := by
  unfold one1
  rw [uso_set _ _ _ _ (by rw [List.length_replicate]; exact h), (rep0 n j).2]
  split <;> rfl
theorem one1_next (n a b : Nat) (x y : Int) (hab : a ≠ b) : ((one1 n a x).set b (y, 0)).set a (0, 0) = one1 n b y := by
  unfold one1
  apply List.ext_getElem?
  intro j
  simp only [List.getElem?_set, List.length_set, List.length_replicate, List.getElem?_replicate]
  by_cases h1 : a = j <;> by_cases h2 : b = j <;> by_cases h3 : j < n <;> simp_all
/-- The account at the head of a round. -/
def rl (n i : Nat) : List (Int × Int) := if i = 0 then List.replicate n (0, 0) else one1 n ((i - 1) % n) i
def ro (n i : Nat) : Int := if i = 0 then -1 else (((i - 1) % n : Nat) : Int)
theorem rl_len (n i : Nat) : (rl n i).length = n := by unfold rl; split; exact List.length_replicate; exact one1_len _ _ _
theorem rl_facts (n i : Nat) (hn : 2 ≤ n) : (nwst (rl n i) n).2 = i ∧ nth (rl n i) 1 = i % n ∧ (∀ k, 0 ≤ epo (rl n i) k) ∧ epo (rl n i) (i % n) = 0 ∧ 0 < frees (rl n i) n := by
  by_cases h : i = 0
  · subst h
    have e : rl n 0 = List.replicate n (0, 0) := rfl
    rw [e]
    refine ⟨by rw [nwst_rep]; rfl, ?_, fun k => by rw [(rep0 n k).1]; omega, (rep0 n _).1, by rw [frees_rep]; omega⟩
    unfold nth
    rw [List.length_replicate, nwst_rep]
    simp
  · have e : rl n i = one1 n ((i - 1) % n) i := by unfold rl; rw [if_neg h]
    have ha : (i - 1) % n < n := Nat.mod_lt _ (by omega)
    have hne : i % n ≠ (i - 1) % n := by
      intro he
      have h1 := Nat.div_add_mod i n
      have h2 := Nat.div_add_mod (i - 1) n
      rw [he] at h1
      have h3 : n * (i / n) = n * ((i - 1) / n) + 1 := by omega
      have h4 : n * (i / n - (i - 1) / n) = 1 := by rw [Nat.mul_sub]; omega
      have := Nat.eq_one_of_mul_eq_one_right h4
      omega
    rw [e]
    have hN := nwst_one (one1 n ((i - 1) % n) i) ((i - 1) % n) i (by omega) (one1_ep n _ _ ha) n
    rw [if_pos ha] at hN
    refine ⟨by rw [hN], ?_, fun k => by rw [one1_ep n _ _ ha]; split <;> omega, by rw [one1_ep n _ _ ha, if_neg hne], ?_⟩
    · unfold nth
      rw [one1_len, hN]
      have h5 : ((((i - 1) % n : Nat) : Int) + ((1 : Nat) : Int)) % (n : Int) = ((((i - 1) % n + 1) % n : Nat) : Int) := by norm_cast
      show (((((i - 1) % n : Nat) : Int) + ((1 : Nat) : Int)) % (n : Int)).toNat = i % n
      rw [h5, Int.toNat_natCast]
      have h6 : ((i - 1) % n + 1) % n = (i - 1 + 1) % n := by rw [Nat.mod_add_mod]
      rw [h6, show i - 1 + 1 = i by omega]
    · have := frees_set (List.replicate n ((0 : Int), (0 : Int))) ((i - 1) % n) ((i : Int), 0) (by rw [List.length_replicate]; exact ha) n ha
      rw [frees_rep, if_pos (rep0 n _).1, if_neg (by simp; omega)] at this
      show 0 < frees ((List.replicate n ((0 : Int), (0 : Int))).set ((i - 1) % n) ((i : Int), 0)) n
      omega
theorem rl_free1 (n a : Nat) (x : Int) (ha : a < n) (hx : x ≠ 0) : frees (one1 n a x) n = n - 1 := by
  have := frees_set (List.replicate n ((0 : Int), (0 : Int))) a (x, 0) (by rw [List.length_replicate]; exact ha) n ha
  rw [frees_rep, if_pos (rep0 n _).1, if_neg (by simpa using hx)] at this
  show frees ((List.replicate n ((0 : Int), (0 : Int))).set a (x, 0)) n = n - 1
  omega

/-- A round's Open. -/
theorem round_open (w : World) (g q : Nat) (P S : Int) (n i : Nat) (hn : 4 ≤ n) (hn2 : n ≤ 12) (hi : i ≤ 100) (h : ChAt w g q P S (rl n i) (ro n i)) :
    Calls Try.prog 14 #[.pointer (some ⟨g, 0, none⟩)] w fun e w' => e = .returned (.tuple #[.int .i64 (i % n : Nat), .int .u32 ((i : Int) + 1), .bool true]) ∧ ChAt w' g q P S ((rl n i).set (i % n) ((i : Int) + 1, 0)) (i % n : Nat) ∧ Mv [g, q] w w' := by
  obtain ⟨h1, h2, h3, h4, h5⟩ := rl_facts n i (by omega)
  have hl := rl_len n i
  have H := copen_yes w g q P S (rl n i) (ro n i) h (by omega) (by omega) h3 (by rw [hl]; exact h5) (by rw [hl, h1]; omega) 1 (by omega) (by omega) (fun j hj hj2 => by omega) (by rw [h2]; exact h4)
  rw [hl, h1, h2] at H
  exact H
theorem round_erase (w : World) (g q : Nat) (P S : Int) (n i : Nat) (hn : 4 ≤ n) (hn2 : n ≤ 12) (hi : 0 < i) (h : ChAt w g q P S ((rl n i).set (i % n) ((i : Int) + 1, 0)) (i % n : Nat)) :
    Calls Try.prog 15 #[.pointer (some ⟨g, 0, none⟩), .int .i64 ((i - 1) % n : Nat)] w fun e w' => e = .returned (.int .i64 0) ∧ ChAt w' g q P S (rl n (i + 1)) (ro n (i + 1)) ∧ Mv [g, q] w w' := by
  have ha : (i - 1) % n < n := Nat.mod_lt _ (by omega)
  obtain ⟨h1, h2, h3, h4, h5⟩ := rl_facts n i (by omega)
  have e : rl n i = one1 n ((i - 1) % n) i := by unfold rl; rw [if_neg (by omega)]
  have hne : i % n ≠ (i - 1) % n := by
    intro he
    rw [he, e, one1_ep n _ _ ha, if_pos rfl] at h4
    omega
  have hl := rl_len n i
  have hil : i % n < (rl n i).length := by rw [hl]; exact Nat.mod_lt _ (by omega)
  have H := cerase_ok w g q P S _ _ h (by rw [List.length_set]; omega) ((i - 1) % n) (by rw [List.length_set, hl]; exact ha) (by rw [epo_set _ _ _ _ hil, if_neg (Ne.symm hne), e, one1_ep n _ _ ha, if_pos rfl]; omega) (by intro hx; exact hne (by omega))
  rw [e, one1_next n _ _ _ _ (Ne.symm hne)] at H
  have e2 : rl n (i + 1) = one1 n (i % n) ((i : Int) + 1) := by unfold rl; rw [if_neg (by omega), show i + 1 - 1 = i by omega]; norm_cast
  have e3 : ro n (i + 1) = (i % n : Nat) := by unfold ro; rw [if_neg (by omega), show i + 1 - 1 = i by omega]
  rw [e2, e3]
  exact H
theorem round_first (n : Nat) (w : World) (g q : Nat) (P S : Int) (h : ChAt w g q P S ((rl n 0).set (0 % n) (((0 : Nat) : Int) + 1, 0)) (0 % n : Nat)) : ChAt w g q P S (rl n 1) (ro n 1) := h
theorem round_free (w : World) (g q : Nat) (P S : Int) (n i : Nat) (hn : 4 ≤ n) (hn2 : n ≤ 12) (h : ChAt w g q P S (rl n (i + 1)) (ro n (i + 1))) :
    Calls Try.prog 16 #[.pointer (some ⟨g, 0, none⟩)] w fun e w' => e = .returned (.int .i64 ((n : Int) - 1)) ∧ Kp w w' := by
  have hl := rl_len n (i + 1)
  obtain ⟨h1, h2, h3, h4, h5⟩ := rl_facts n (i + 1) (by omega)
  have H := cfree_any w g q P S _ _ h (by omega) h3
  have e2 : rl n (i + 1) = one1 n (i % n) (((i + 1 : Nat)) : Int) := by unfold rl; rw [if_neg (by omega), show i + 1 - 1 = i by omega]
  rw [hl, e2, rl_free1 n _ _ (Nat.mod_lt _ (by omega)) (by omega), show ((n - 1 : Nat) : Int) = (n : Int) - 1 by omega] at H
  exact H

set_option maxRecDepth 20000 in
set_option maxHeartbeats 3200000 in
theorem ChartRounds_walk (w : World) (p s r : Int) (wp : (Lit.int .i64 p).wf = true) (ws : (Lit.int .i64 s).wf = true) (wr : (Lit.int .i64 r).wf = true) (m : Int) (wm : (Lit.int .i64 m).wf = true) :
    Calls Try.prog 3 #[geo p s r, .int .i64 m] w fun e w' => e = .returned (.bool true) ∧ Kp w w' := by
  have bp := bounds_i64 wp
  have bs := bounds_i64 ws
  have br := bounds_i64 wr
  have bm := bounds_i64 wm
  clear wp ws wr wm
  obtain ⟨P, S, n, hP, hS, hn, hR, hn7, hS6, hP64⟩ := small_geom p s r
  have HGE := Lib.hid (fun w => bgeom_any p s r bp bs br w)
  rw [hP, hS, hn] at HGE
  obtain ⟨M, hM⟩ : ∃ M : Nat, m % ((40 : Nat) : Int) = M := ⟨(m % 40).toNat, by omega⟩
  have hM40 : M < 40 := by omega
  have HPI := Lib.hid (pickN m 40 (by omega) (by omega) bm.1 bm.2 M hM)
  rw [show ((40 : Nat) : Int) = 40 from rfl] at HPI
  clear hP hS hn hM
  obtain ⟨r1, r2, r3, r4, r5, r6⟩ := id hR
  go_enter Try.func3, Try.ntmps3
  go_wp2_with fail
  refine (HGE.out _).mono ?_
  rintro e w1 ⟨rfl, hk1⟩
  have hB := (Bk.new w 23 [.int .i64 p, .int .i64 s, .int .i64 r]).keep hk1
  have hK := (Kp.one w (.cells [.int .i64 p, .int .i64 s, .int .i64 r].toArray 23)).trans hk1
  clear hk1
  obtain ⟨c0, c1, c2⟩ := hB.c3g
  have f0 := hB.free 0
  have f1 := hB.free 1
  have f2 := hB.free 2
  go_wp2_with fail
  obtain ⟨hB2, hK2⟩ := put3 hB hK (Nat.le_refl _) (.int .i64 P) (.int .i64 S) (.int .i64 n)
  refine (cnew_yes P S n hR _).mono ?_
  rintro e w2 ⟨g, q, rfl, hg, hq, h0, hk2⟩
  have hB3 := hB2.keep hk2
  have hK3 := hK2.trans hk2
  have hgw : w.heap.size < g ∧ w.heap.size < q := by have := hB2.lt; omega
  obtain ⟨hg1, hq1⟩ := hgw
  clear hB hK c0 c1 c2 f0 f1 f2 hB2 hK2 hk2 hg hq
  go_wp2_with fail
  refine (alive_any _).mono ?_
  rintro e w3 ⟨rfl, hk3⟩
  have hB4 := hB3.keep hk3
  have hK4 := hK3.trans hk3
  have h4 := h0.keep hk3
  clear hB3 hK3 hk3 h0
  have hS9 := Lib.hid (fun b (hb : b ∈ [g, q]) => (by rcases mem2 hb with rfl | rfl <;> omega : w.heap.size ≤ b))
  have hG9 := Lib.hid (fun hb => (by rcases mem2 hb with h | h <;> omega) : w.heap.size ∉ [g, q])
  go_wp2_with fail
  go_loopw [6] (fun i wr => ∃ k : Nat, k ≤ M ∧ i = .int .i64 k ∧ ChAt wr g q P S (rl n k) (ro n k) ∧ Bk wr w.heap.size 23 [.int .i64 P, .int .i64 S, .int .i64 n] ∧ Kp w wr) (fun i _ => M - (intOf i).toNat)
  case atStart => exact ⟨0, by omega, rfl, h4, hB4, hK4⟩
  case round =>
    obtain ⟨k, hk, rfl, hC, hB, hK⟩ := hrel
    clear h4 hB4 hK4
    by_cases hlt : k < M
    · obtain ⟨a, ha⟩ : ∃ a, a = k % n := ⟨_, rfl⟩
      have hmod : (k : Int) % (n : Int) = (a : Int) := by rw [ha]; norm_cast
      have HO := Lib.hid (round_open wr g q P S n k (by omega) (by omega) (by omega) hC)
      rw [← ha] at HO
      have HAq := Lib.hid ha
      clear ha
      have hn0 : ¬ ((n : Int) = 0) := by omega
      have hn1 : ((n : Int) == 0) = false := beq_eq_false_iff_ne.2 hn0
      have hltd : (k : Int) < (M : Int) := by omega
      go_wp2_with fail
      refine (HPI.out _).mono ?_
      rintro e w4 ⟨rfl, rfl⟩
      go_wp2_with fail
      refine (HO.out).mono ?_
      rintro e w5 ⟨rfl, hC5, m5⟩
      have hB5 := hB.mv m5 hG9.out
      have hK5 := Mv.kp hK hS9.out m5
      clear hC hB hK m5
      obtain ⟨c0, c1, c2⟩ := hB5.c3g
      by_cases hk0 : k = 0
      · subst hk0
        rw [HAq.out] at hC5
        have hC6 := round_first n w5 g q P S hC5
        clear hC5
        have HC := Lib.hid (fun W (kk : Kp w5 W) => (hB5.keep kk).c3g)
        have HF := Lib.hid (fun W (kk : Kp w5 W) => round_free W g q P S n 0 (by omega) (by omega) (hC6.keep kk))
        have hwn : IntKind.i64.wrap ((n : Int) - 1) = (n : Int) - 1 := IntWalk.i64_in _ (by omega)
        go_wp2_with fail
        have hInh := fun (x v : Value) => (⟨fun h => h _ ((Kp.refl w5).drew), fun h _ _ => h⟩ : (∀ W, (fun W => Kp w5 W) W → x = v) ↔ x = v)
        dsimp only at hInh
        refine wp_region_quietC (C := fun W => Kp w5 W) (by kernel_rfl) (by kernel_rfl) ((Kp.refl w5).drew) ?_
        repeat (first | go_big_quiet_step ((intro hW; first | (go_at_call 16; refine (HF.out _ hW).mono ?_; rintro e w' ⟨rfl, hk9⟩; exact ⟨rfl, hW.trans hk9⟩) | (with_reducible rfl) | (obtain ⟨c0, c1, c2⟩ := HC.out _ hW; (try go_simp); first | done | with_reducible rfl | exact ⟨rfl, rfl⟩))) | quiet_step ((intro hW; first | (go_at_call 16; refine (HF.out _ hW).mono ?_; rintro e w' ⟨rfl, hk9⟩; exact ⟨rfl, hW.trans hk9⟩) | (with_reducible rfl) | (obtain ⟨c0, c1, c2⟩ := HC.out _ hW; (try go_simp); first | done | with_reducible rfl | exact ⟨rfl, rfl⟩))))
        refine wpQuiet_nil ?_
        intro wq hwq
        clear hInh
        clear hwn
        go_wp2_with fail
        go_roundw
        case rel => exact ⟨0 + 1, by omega, by go_num, hC6.keep hwq, hB5.keep hwq, hK5.trans hwq⟩
        case measure => simp [intOf]; omega
      · obtain ⟨b, hb⟩ : ∃ b, b = (k - 1) % n := ⟨_, rfl⟩
        have hmodb : ((k : Int) - 1) % (n : Int) = (b : Int) := by rw [hb, show (k : Int) - 1 = ((k - 1 : Nat) : Int) by omega]; norm_cast
        rw [HAq.out] at hC5
        have HE := Lib.hid (round_erase w5 g q P S n k (by omega) (by omega) (by omega) hC5)
        rw [← hb] at HE
        clear hC5 hb
        have hkp : 0 < (k : Int) := by omega
        have hk1m : 0 ≤ (k : Int) - 1 := by omega
        go_wp2_with fail
        refine (HE.out).mono ?_
        rintro e w6 ⟨rfl, hC6, m6⟩
        have hB6 := hB5.mv m6 hG9.out
        have hK6 := Mv.kp hK5 hS9.out m6
        clear hB5 hK5 m6 c0 c1 c2
        have HC := Lib.hid (fun W (kk : Kp w6 W) => (hB6.keep kk).c3g)
        have HF := Lib.hid (fun W (kk : Kp w6 W) => round_free W g q P S n k (by omega) (by omega) (hC6.keep kk))
        have hwn : IntKind.i64.wrap ((n : Int) - 1) = (n : Int) - 1 := IntWalk.i64_in _ (by omega)
        go_wp2_with fail
        have hInh := fun (x v : Value) => (⟨fun h => h _ ((Kp.refl w6).drew), fun h _ _ => h⟩ : (∀ W, (fun W => Kp w6 W) W → x = v) ↔ x = v)
        dsimp only at hInh
        refine wp_region_quietC (C := fun W => Kp w6 W) (by kernel_rfl) (by kernel_rfl) ((Kp.refl w6).drew) ?_
        repeat (first | go_big_quiet_step ((intro hW; first | (go_at_call 16; refine (HF.out _ hW).mono ?_; rintro e w' ⟨rfl, hk9⟩; exact ⟨rfl, hW.trans hk9⟩) | (with_reducible rfl) | (obtain ⟨c0, c1, c2⟩ := HC.out _ hW; (try go_simp); first | done | with_reducible rfl | exact ⟨rfl, rfl⟩))) | quiet_step ((intro hW; first | (go_at_call 16; refine (HF.out _ hW).mono ?_; rintro e w' ⟨rfl, hk9⟩; exact ⟨rfl, hW.trans hk9⟩) | (with_reducible rfl) | (obtain ⟨c0, c1, c2⟩ := HC.out _ hW; (try go_simp); first | done | with_reducible rfl | exact ⟨rfl, rfl⟩))))
        refine wpQuiet_nil ?_
        intro wq hwq
        clear hInh
        clear hwn
        go_wp2_with fail
        go_roundw
        case rel => exact ⟨k + 1, by omega, by go_num, hC6.keep hwq, hB6.keep hwq, hK6.trans hwq⟩
        case measure => simp [intOf]; omega
    · obtain rfl : k = M := by omega
      go_wp2_with fail
      refine (HPI.out _).mono ?_
      rintro e w4 ⟨rfl, rfl⟩
      go_wp2_with fail
      go_ret
      exact ⟨rfl, hK⟩
end Go.Proofs.Ytbcoghfpomnkkaa
