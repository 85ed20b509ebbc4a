/- The walk of ChartAvail. -/
import Derived.Test.YtbcoghfpomnkkaaLawChart4
import Derived.Test.YtbcoghfpomnkkaaOpenN
import Derived.Deep.CutBlock
namespace Go.Proofs.Ytbcoghfpomnkkaa
open Go.RowKit
set_option linter.unusedVariables false

/-- The first regions are taken, with these slots used. -/
def al (n : Nat) (u : Nat → Int) (k : Nat) : List (Int × Int) := (List.range n).map fun i => if i < k then ((i : Int) + 1, u i) else (0, 0)
theorem al_len (n : Nat) (u : Nat → Int) (k : Nat) : (al n u k).length = n := by simp [al]
theorem al_get (n : Nat) (u : Nat → Int) (k i : Nat) : (al n u k)[i]? = if i < n then some (if i < k then ((i : Int) + 1, u i) else (0, 0)) else none := by
  unfold al
  by_cases h : i < n <;> simp [h]
theorem al_ep (n : Nat) (u : Nat → Int) (k : Nat) (hk : k ≤ n) (i : Nat) : epo (al n u k) i = if i < k then (i : Int) + 1 else 0 := by
  unfold epo
  rw [List.getD_eq_getElem?_getD, al_get]
  by_cases h : i < n
  · rw [if_pos h]
    by_cases h1 : i < k
    · rw [if_pos h1, if_pos h1]; rfl
    · rw [if_neg h1, if_neg h1]; rfl
  · rw [if_neg h, if_neg (by omega)]; rfl
theorem al_us (n : Nat) (u : Nat → Int) (k : Nat) (hk : k ≤ n) (i : Nat) : uso (al n u k) i = if i < k then u i else 0 := by
  unfold uso
  rw [List.getD_eq_getElem?_getD, al_get]
  by_cases h : i < n
  · rw [if_pos h]
    by_cases h1 : i < k
    · rw [if_pos h1, if_pos h1]; rfl
    · rw [if_neg h1, if_neg h1]; rfl
  · rw [if_neg h, if_neg (by omega)]; rfl
theorem al_next (n : Nat) (u : Nat → Int) (k : Nat) (hk : k < n) : (al n u k).set k ((k : Int) + 1, u k) = al n u (k + 1) := by
  apply List.ext_getElem?
  intro i
  rw [List.getElem?_set, al_get, al_get, al_len]
  by_cases h : k = i
  · subst h; rw [if_pos rfl, if_pos hk, if_pos hk, if_pos (by omega)]
  · rw [if_neg h]
    by_cases h2 : i < n
    · rw [if_pos h2, if_pos h2]
      by_cases h3 : i < k
      · rw [if_pos h3, if_pos (by omega)]
      · rw [if_neg h3, if_neg (by omega)]
    · rw [if_neg h2, if_neg h2]
theorem al_zero (n : Nat) (u : Nat → Int) : List.replicate n ((0 : Int), (0 : Int)) = al n u 0 := by
  apply List.ext_getElem?
  intro i
  rw [al_get, List.getElem?_replicate]
  by_cases h : i < n
  · rw [if_pos h, if_pos h, if_neg (by omega)]
  · rw [if_neg h, if_neg h]
theorem al_frees (n : Nat) (u : Nat → Int) (k : Nat) (hk : k ≤ n) : ∀ m, frees (al n u k) m = m - k
  | 0 => by simp [frees]
  | m + 1 => by
    rw [frees, al_frees n u k hk m, al_ep n u k hk]
    by_cases h : m < k
    · rw [if_pos h, if_neg (by omega)]; omega
    · rw [if_neg h, if_pos rfl]; omega
theorem al_top (n : Nat) (u : Nat → Int) (k : Nat) (hk : k ≤ n) : ∀ m, (nwst (al n u k) m).2 ≤ (k : Int)
  | 0 => by show (0 : Int) ≤ k; omega
  | m + 1 => by
    have ih := al_top n u k hk m
    have he := al_ep n u k hk m
    unfold nwst
    split
    · show epo (al n u k) m ≤ (k : Int); rw [he]; by_cases h : m < k
      · rw [if_pos h]; omega
      · rw [if_neg h]; omega
    · exact ih
theorem al_ok (P S : Int) (n : Nat) (u : Nat → Int) (k : Nat) (o : Int) (hR : RightG P S n) (hk : k ≤ n) (hu : ∀ i, 0 ≤ u i ∧ u i ≤ S - 1) (ho : o = -1 ∨ (0 < k ∧ o = (k : Int) - 1)) : ChOk P S (al n u k) o := by
  obtain ⟨r1, r2, r3, r4, r5, r6⟩ := id hR
  refine ⟨by rw [al_len]; exact hR, fun j => ?_, fun j => ?_, fun j => ?_, fun j => ?_, ?_⟩
  · rw [al_ep _ _ _ hk]; split <;> omega
  · rw [al_ep _ _ _ hk]; split <;> omega
  · rw [al_us _ _ _ hk]; split
    · exact (hu j).1
    · omega
  · rw [al_us _ _ _ hk]; split
    · exact (hu j).2
    · omega
  · rcases ho with h | ⟨h, h2⟩
    · exact Or.inl h
    · right; exact ⟨k - 1, by rw [al_len]; omega, by omega, by rw [al_ep _ _ _ hk, if_pos (by omega)]; omega⟩

set_option maxRecDepth 20000 in
set_option maxHeartbeats 6400000 in
theorem ChartAvail_walk (w : World) (p s r : Int) (wp : (Lit.int .i64 p).wf = true) (ws : (Lit.int .i64 s).wf = true) (wr : (Lit.int .i64 r).wf = true)
    (A : Option Addr) (cp : Nat) (xs : List Int) (hX : NumsAt .i64 w A xs) (hx8 : xs.length * 8 ≤ 140737488351232) (hxw : ∀ x ∈ xs, (Lit.int .i64 x).wf = true) (opn : Int) (wo : (Lit.int .i64 opn).wf = true) :
    Calls Try.prog 5 #[geo p s r, .slice A xs.length cp, .int .i64 opn] w fun e w' => e = .returned (.bool true) ∧ Kp w w' := by
  have bp := bounds_i64 wp
  have bs := bounds_i64 ws
  have br := bounds_i64 wr
  have bo := bounds_i64 wo
  clear wp ws wr wo
  obtain ⟨P, S, n, hP, hS, hn, hR, hn7, hS6, hP64⟩ := small_geom p s r
  have HGE := Lib.hid (fun w => bgeom_any p s r bp bs br w)
  rw [hP, hS, hn] at HGE
  clear hP hS hn
  obtain ⟨r1, r2, r3, r4, r5, r6⟩ := id hR
  obtain ⟨u, hu⟩ : ∃ u : Nat → Int, u = fun i => (xs.getD i 0) % S := ⟨_, rfl⟩
  have hub : ∀ i, 0 ≤ u i ∧ u i ≤ S - 1 := by
    intro i; rw [hu]
    have := Int.emod_nonneg (xs.getD i 0) (show S ≠ 0 by omega)
    have := Int.emod_lt_of_pos (xs.getD i 0) (show 0 < S by omega)
    simp only; omega
  have HU := Lib.hid hu
  have HUB := Lib.hid hub
  clear hu hub
  go_enter Try.func5, Try.ntmps5
  go_wp2_with fail
  refine (HGE.out _).mono ?_
  rintro e w1 ⟨rfl, hk1⟩
  have hB := (Bk.new w 23 [.int .i64 p, .int .i64 s, .int .i64 r]).keep hk1
  have hK := (Kp.one w (.cells [.int .i64 p, .int .i64 s, .int .i64 r].toArray 23)).trans hk1
  clear hk1
  obtain ⟨c0, c1, c2⟩ := hB.c3g
  have f0 := hB.free 0
  have f1 := hB.free 1
  have f2 := hB.free 2
  go_wp2_with fail
  obtain ⟨hB2, hK2⟩ := put3 hB hK (Nat.le_refl _) (.int .i64 P) (.int .i64 S) (.int .i64 n)
  refine (cnew_yes P S n hR _).mono ?_
  rintro e w2 ⟨g, q, rfl, hg, hq, h0, hk2⟩
  have hB3 := hB2.keep hk2
  have hK3 := hK2.trans hk2
  have hgw : w.heap.size < g ∧ w.heap.size < q := by have := hB2.lt; omega
  obtain ⟨hg1, hq1⟩ := hgw
  clear hB hK c0 c1 c2 f0 f1 f2 hB2 hK2 hk2 hg hq
  go_wp2_with fail
  refine (alive_any _).mono ?_
  rintro e w3 ⟨rfl, hk3⟩
  have hB4 := hB3.keep hk3
  have hK4 := hK3.trans hk3
  have h4 := h0.keep hk3
  clear hB3 hK3 hk3 h0
  have hS9 := Lib.hid (fun b (hb : b ∈ [g, q]) => (by rcases mem2 hb with rfl | rfl <;> omega : w.heap.size ≤ b))
  have hG9 := Lib.hid (fun hb => (by rcases mem2 hb with h | h <;> omega) : w.heap.size ∉ [g, q])
  rw [al_zero n u] at h4
  obtain ⟨c0, c1, c2⟩ := hB4.c3g
  have HX := Lib.hid hX
  clear hX
  have hxl : xs.length ≤ 140737488351232 := by omega
  go_upto_block 0 with fail
  go_cut [8, 9] (fun cf cl wx => ∃ (k : Nat) (Lf : Int), k ≤ n ∧ (k = 0 → Lf = 0) ∧ (0 < k → Lf = S - 1 - u (k - 1)) ∧ cf = .int .i64 ((n : Int) - k) ∧ cl = .int .i64 Lf ∧
      ChAt wx g q P S (al n u k) (-1) ∧ Bk wx w.heap.size 23 [.int .i64 P, .int .i64 S, .int .i64 n] ∧ Kp w wx)
  case first =>
    go_wp2_with fail
    go_loopw [8, 9, 10] (fun cf cl ci wr => ∃ (k : Nat) (Lf : Int), k ≤ xs.length ∧ k ≤ n ∧ (k = 0 → Lf = 0) ∧ (0 < k → Lf = S - 1 - u (k - 1)) ∧ cf = .int .i64 ((n : Int) - k) ∧ cl = .int .i64 Lf ∧ ci = .int .i64 k ∧
        ChAt wr g q P S (al n u k) (-1) ∧ Bk wr w.heap.size 23 [.int .i64 P, .int .i64 S, .int .i64 n] ∧ Kp w wr) (fun _ _ i _ => 100 - (intOf i).toNat)
    case atStart => exact ⟨0, 0, by omega, by omega, fun _ => rfl, fun h => by omega, by simp, rfl, rfl, h4, hB4, hK4⟩
    case round =>
      obtain ⟨k, Lf, hk1, hk2, hL0, hL1, rfl, rfl, rfl, hC, hB, hK⟩ := hrel
      clear h4 hB4 hK4 c0 c1 c2
      obtain ⟨c0, c1, c2⟩ := hB.c3g
      by_cases hlt : k < xs.length ∧ k < n
      · obtain ⟨hlt1, hlt2⟩ := hlt
        have hX2 := HX.out.keep hK
        obtain ⟨ab, ao, rfl, hcell⟩ := hX2.2 (by omega)
        have hck := hcell k hlt1
        have HCK := Lib.hid (fun W (kk : Kp wr W) => kk.cell hck)
        clear hcell hck hX2
        have bx := bounds_i64 (hxw xs[k] (List.getElem_mem hlt1))
        have huk : u k = xs[k] % S := by rw [HU.out]; simp [List.getD_eq_getElem?_getD, hlt1]
        have HPK := Lib.hid (fun W => pick_any xs[k] S (by omega) (by omega) bx.1 bx.2 W)
        rw [← huk] at HPK
        clear huk
        have hd1 : (k : Int) < (xs.length : Int) := by omega
        have hd2 : (k : Int) < (n : Int) := by omega
        have HC := Lib.hid (fun W (kk : Kp wr W) => (hB.keep kk).c3g)
        go_wp2_with fail
        have hInh := fun (x v : Value) => (⟨fun h => h _ ((Kp.refl wr).drew), fun h _ _ => h⟩ : (∀ W, (fun W => Kp wr W) W → x = v) ↔ x = v)
        dsimp only at hInh
        refine wp_region_quietC (C := fun W => Kp wr W) (by kernel_rfl) (by kernel_rfl) ((Kp.refl wr).drew) ?_
        repeat (first | go_big_quiet_step ((intro hW; first | (go_at_call 13; refine (HPK.out _).mono ?_; rintro e w' ⟨rfl, hk9⟩; exact ⟨rfl, hk9 ▸ hW⟩) | (with_reducible rfl) | (obtain ⟨c0, c1, c2⟩ := HC.out _ hW; have x0 := HCK.out _ hW; (try go_simp); first | done | with_reducible rfl | exact ⟨rfl, rfl⟩))) | quiet_step ((intro hW; first | (go_at_call 13; refine (HPK.out _).mono ?_; rintro e w' ⟨rfl, hk9⟩; exact ⟨rfl, hk9 ▸ hW⟩) | (with_reducible rfl) | (obtain ⟨c0, c1, c2⟩ := HC.out _ hW; have x0 := HCK.out _ hW; (try go_simp); first | done | with_reducible rfl | exact ⟨rfl, rfl⟩))))
        refine wpQuiet_nil ?_
        intro wq hwq
        clear hInh
        have hC4 := hC.keep hwq
        have hB4 := hB.keep hwq
        have hK4 := hK.trans hwq
        clear hC hB hK c0 c1 c2
        have hu0 := (HUB.out k).1
        have hu1 := (HUB.out k).2
        have hep : epo (al n u k) k = 0 := by rw [al_ep n u k hk2, if_neg (by omega)]
        have HEP := Lib.hid hep
        clear hep
        go_wp2_with fail
        refine (cset_ok _ g q P S _ _ hC4 (by rw [al_len]; exact hR) k (by rw [al_len]; exact hlt2) _ _ (by omega) (by omega) hu0 hu1 HEP.out).mono ?_
        rintro e w5 ⟨rfl, hC5, m5⟩
        rw [al_next n u k hlt2] at hC5
        have hB5 := hB4.mv m5 hG9.out
        have hK5 := Mv.kp hK4 hS9.out m5
        clear hC4 hB4 hK4 m5
        go_wp2_with fail
        refine (cset_state _ g q P S _ _ hC5 (by rw [al_len]; exact hR) k (by rw [al_len]; exact hlt2) _ _ (by omega) (by omega) hu0 hu1 (by rw [al_ep n u (k + 1) (by omega), if_pos (by omega)]; omega)).mono ?_
        rintro e w6 ⟨rfl, hk6⟩
        have hC6 := hC5.keep hk6
        have hB6 := hB5.keep hk6
        have hK6 := hK5.trans hk6
        clear hC5 hB5 hK5 hk6
        obtain ⟨c0, c1, c2⟩ := hB6.c3g
        go_wp2_with fail
        refine (rslots_any P S n hR _).mono ?_
        rintro e w7 ⟨rfl, hk7⟩
        have hk7' := hk7 ▸ Kp.one w6 (gob P S n)
        clear hk7
        go_wp2_with fail
        go_roundw
        case rel => exact ⟨k + 1, S - 1 - u k, by omega, by omega, fun h => by omega, fun _ => by rw [Nat.add_sub_cancel], by go_num, rfl, by go_num, hC6.keep hk7', hB6.keep hk7', hK6.trans hk7'⟩
        case measure => simp [intOf]; omega
      · have hway : (¬ k < xs.length) ∨ (k < xs.length ∧ ¬ k < n) := by omega
        clear hlt
        rcases hway with hw1 | ⟨hw1, hw2⟩
        · have hd1 : decide ((k : Int) < (xs.length : Int)) = false := by simp; omega
          go_wp2_with fail
          go_meet
          exact ⟨k, Lf, hk2, hL0, hL1, rfl, rfl, hC, hB, hK⟩
        · have hd1 : decide ((k : Int) < (xs.length : Int)) = true := by simp; omega
          have hd2 : decide ((k : Int) < (n : Int)) = false := by simp; omega
          go_wp2_with fail
          go_meet
          exact ⟨k, Lf, hk2, hL0, hL1, rfl, rfl, hC, hB, hK⟩
  case rest =>
    clear h4 hB4 hK4 c0 c1 c2
    obtain ⟨k, Lf, hk2, hL0, hL1, rfl, rfl, hC, hB, hK⟩ := hcut
    have hu9 := HUB.out (k - 1)
    have hLb : 0 ≤ Lf ∧ Lf ≤ 10 := by rcases Nat.eq_zero_or_pos k with h | h; (have := hL0 h; omega); (have := hL1 h; omega)
    obtain ⟨hLb0, hLb1⟩ := hLb
    have hlen := al_len n u k
    have hfr : frees (al n u k) n = n - k := al_frees n u k hk2 n
    have hcs : ((n - k : Nat) : Int) = (n : Int) - k := by omega
    have HRS := Lib.hid (fun W => (rslots_any P S n hR W).mono (fun e w' hx => (⟨hx.1, hx.2 ▸ Kp.one _ _⟩ : e = .returned (.int .i64 (S - 1)) ∧ Kp W w')))
    obtain ⟨c0, c1, c2⟩ := hB.c3g
    by_cases hR9 : opn.tmod 2 = 0 ∧ 0 < k
    · obtain ⟨hm0, hk0⟩ := hR9
      have ok0 := al_ok P S n u k (-1) hR hk2 HUB.out (Or.inl rfl)
      have ok1 := al_ok P S n u k ((k : Int) - 1) hR hk2 HUB.out (Or.inr ⟨hk0, rfl⟩)
      have hkc : ((k - 1 : Nat) : Int) = (k : Int) - 1 := by omega
      have hep : epo (al n u k) (k - 1) = k := by rw [al_ep n u k hk2, if_pos (by omega)]; omega
      have H1 := cresume_ok wc g q P S _ _ hC ok0 (k - 1) (by rw [hlen]; omega) (by rw [hep]; omega) (by omega) (by rw [hlen, hep]; exact al_top n u k hk2 n)
      rw [hkc] at H1
      have HR1 := Lib.hid (fun (i : Int) (hi : i = (k : Int) - 1) => (by rw [hi]; exact H1 : Calls Try.prog 19 #[.pointer (some ⟨g, 0, none⟩), .int .i64 i] wc fun e w' => e = .returned (.int .i64 0) ∧ ChAt w' g q P S (al n u k) ((k : Int) - 1) ∧ Mv [g, q] wc w'))
      have HR2 := Lib.hid (fun W (hx : ChAt W g q P S (al n u k) ((k : Int) - 1)) (i : Int) (hi : i = (k : Int) - 1) => (hi.trans hkc.symm) ▸ cresume_state W g q P S _ _ hx ok1 (k - 1) (by rw [hlen]; omega) (Or.inr (Or.inl ⟨by rw [hep]; omega, by omega⟩)))
      have hlf : leftF S (al n u k) ((k : Int) - 1) = Lf := by
        unfold leftF; rw [if_neg (by omega), hL1 hk0, al_us n u k hk2, show ((k : Int) - 1).toNat = k - 1 by omega, if_pos (by omega)]
      have hav : availF S (al n u k) ((k : Int) - 1) = Lf + (if (n : Int) - k - 2 < 0 then 0 else (n : Int) - k - 2) * (S - 1) := by
        unfold availF; rw [hlf, hlen, hfr, hcs, Int.mul_comm]
      have hfd : decide ((n : Int) - k < (n : Int)) = true := by simp; omega
      have HLF := Lib.hid hlf
      have HAV := Lib.hid hav
      have HLEN := Lib.hid hlen
      have HFR := Lib.hid hfr
      have HCS := Lib.hid hcs
      clear hlf hav hlen hfr hcs hep hkc H1 hL0 hL1
      go_wp2_with fail
      refine (HR1.out _ (by omega)).mono ?_
      rintro e w5 ⟨rfl, hC5, m5⟩
      have hB5 := hB.mv m5 hG9.out
      have hK5 := Mv.kp hK hS9.out m5
      clear hC hB hK m5 c0 c1 c2
      obtain ⟨c0, c1, c2⟩ := hB5.c3g
      go_wp2_with fail
      refine (HR2.out _ hC5 _ (by omega)).mono ?_
      rintro e w6 ⟨rfl, hk6⟩
      have hC6 := hC5.keep hk6
      have hB6 := hB5.keep hk6
      have hK6 := hK5.trans hk6
      clear hC5 hB5 hK5 hk6 c0 c1 c2
      have hlf := HLF.out
      have hav := HAV.out
      have hlen := HLEN.out
      have hfr := HFR.out
      have hcs := HCS.out
      have HC := Lib.hid (fun W (kk : Kp w6 W) => (hB6.keep kk).c3g)
      have HF := Lib.hid (fun W (kk : Kp w6 W) => cfree_any W g q P S _ _ (hC6.keep kk) (by rw [hlen]; omega) ok1.ep0)
      have HL := Lib.hid (fun W (kk : Kp w6 W) => cleft_any W g q P S _ _ (hC6.keep kk) ok1)
      have HA := Lib.hid (fun W (kk : Kp w6 W) => cavail_any W g q P S _ _ (hC6.keep kk) ok1)
      rw [hlen, hfr, hcs] at HF
      rw [hlf] at HL
      rw [hav] at HA
      have hw1 : IntKind.i64.wrap ((n : Int) - k - 2) = (n : Int) - k - 2 := IntWalk.i64_in _ (by omega)
      clear hlf hav hlen hfr hcs
      by_cases hneg : (n : Int) - k - 2 < 0
      · rw [if_pos hneg, Int.zero_mul, Int.add_zero] at HA
        have hd : (n : Int) - k < 2 := by omega
        have hw3 : IntKind.i64.wrap Lf = Lf := IntWalk.i64_in _ (by omega)
        go_wp2_with fail
        have hInh := fun (x v : Value) => (⟨fun h => h _ ((Kp.refl w6).drew), fun h _ _ => h⟩ : (∀ W, (fun W => Kp w6 W) W → x = v) ↔ x = v)
        dsimp only at hInh
        refine wp_region_quietC (C := fun W => Kp w6 W) (by kernel_rfl) (by kernel_rfl) ((Kp.refl w6).drew) ?_
        repeat (first | go_big_quiet_step ((intro hW; first | (first | (go_at_call 18; refine (HRS.out _).mono ?_; rintro e w' ⟨rfl, hk9⟩; exact ⟨rfl, hW.trans hk9⟩) | (go_at_call 16; refine (HF.out _ hW).mono ?_; rintro e w' ⟨rfl, hk9⟩; exact ⟨rfl, hW.trans hk9⟩) | (go_at_call 20; refine (HL.out _ hW).mono ?_; rintro e w' ⟨rfl, hk9⟩; exact ⟨rfl, hW.trans hk9⟩) | (go_at_call 21; refine (HA.out _ hW).mono ?_; rintro e w' ⟨rfl, hk9⟩; exact ⟨rfl, hW.trans hk9⟩)) | (with_reducible rfl) | (obtain ⟨c0, c1, c2⟩ := HC.out _ hW; (try go_simp); first | done | with_reducible rfl | exact ⟨rfl, rfl⟩))) | quiet_step ((intro hW; first | (first | (go_at_call 18; refine (HRS.out _).mono ?_; rintro e w' ⟨rfl, hk9⟩; exact ⟨rfl, hW.trans hk9⟩) | (go_at_call 16; refine (HF.out _ hW).mono ?_; rintro e w' ⟨rfl, hk9⟩; exact ⟨rfl, hW.trans hk9⟩) | (go_at_call 20; refine (HL.out _ hW).mono ?_; rintro e w' ⟨rfl, hk9⟩; exact ⟨rfl, hW.trans hk9⟩) | (go_at_call 21; refine (HA.out _ hW).mono ?_; rintro e w' ⟨rfl, hk9⟩; exact ⟨rfl, hW.trans hk9⟩)) | (with_reducible rfl) | (obtain ⟨c0, c1, c2⟩ := HC.out _ hW; (try go_simp); first | done | with_reducible rfl | exact ⟨rfl, rfl⟩))))
        refine wpQuiet_nil ?_
        intro wq hwq
        clear hInh
        go_wp2_with fail
        go_ret
        exact ⟨rfl, hK6.trans hwq⟩
      · rw [if_neg hneg] at HA
        have hd : ¬ ((n : Int) - k < 2) := by omega
        have hmb := mul2 (a := (n : Int) - k - 2) (b := S - 1) (by omega) (by omega) (by omega) (by omega)
        have hw3 : IntKind.i64.wrap (((n : Int) - k - 2) * (S - 1)) = ((n : Int) - k - 2) * (S - 1) := IntWalk.i64_in _ (by omega)
        have hw4 : IntKind.i64.wrap (Lf + ((n : Int) - k - 2) * (S - 1)) = Lf + ((n : Int) - k - 2) * (S - 1) := IntWalk.i64_in _ (by omega)
        clear hmb
        go_wp2_with fail
        have hInh := fun (x v : Value) => (⟨fun h => h _ ((Kp.refl w6).drew), fun h _ _ => h⟩ : (∀ W, (fun W => Kp w6 W) W → x = v) ↔ x = v)
        dsimp only at hInh
        refine wp_region_quietC (C := fun W => Kp w6 W) (by kernel_rfl) (by kernel_rfl) ((Kp.refl w6).drew) ?_
        repeat (first | go_big_quiet_step ((intro hW; first | (first | (go_at_call 18; refine (HRS.out _).mono ?_; rintro e w' ⟨rfl, hk9⟩; exact ⟨rfl, hW.trans hk9⟩) | (go_at_call 16; refine (HF.out _ hW).mono ?_; rintro e w' ⟨rfl, hk9⟩; exact ⟨rfl, hW.trans hk9⟩) | (go_at_call 20; refine (HL.out _ hW).mono ?_; rintro e w' ⟨rfl, hk9⟩; exact ⟨rfl, hW.trans hk9⟩) | (go_at_call 21; refine (HA.out _ hW).mono ?_; rintro e w' ⟨rfl, hk9⟩; exact ⟨rfl, hW.trans hk9⟩)) | (with_reducible rfl) | (obtain ⟨c0, c1, c2⟩ := HC.out _ hW; (try go_simp); first | done | with_reducible rfl | exact ⟨rfl, rfl⟩))) | quiet_step ((intro hW; first | (first | (go_at_call 18; refine (HRS.out _).mono ?_; rintro e w' ⟨rfl, hk9⟩; exact ⟨rfl, hW.trans hk9⟩) | (go_at_call 16; refine (HF.out _ hW).mono ?_; rintro e w' ⟨rfl, hk9⟩; exact ⟨rfl, hW.trans hk9⟩) | (go_at_call 20; refine (HL.out _ hW).mono ?_; rintro e w' ⟨rfl, hk9⟩; exact ⟨rfl, hW.trans hk9⟩) | (go_at_call 21; refine (HA.out _ hW).mono ?_; rintro e w' ⟨rfl, hk9⟩; exact ⟨rfl, hW.trans hk9⟩)) | (with_reducible rfl) | (obtain ⟨c0, c1, c2⟩ := HC.out _ hW; (try go_simp); first | done | with_reducible rfl | exact ⟨rfl, rfl⟩))))
        refine wpQuiet_nil ?_
        intro wq hwq
        clear hInh
        go_wp2_with fail
        go_ret
        exact ⟨rfl, hK6.trans hwq⟩
    · have ok0 := al_ok P S n u k (-1) hR hk2 HUB.out (Or.inl rfl)
      have hlf : leftF S (al n u k) (-1) = 0 := by unfold leftF; rw [if_pos (by omega)]
      have hav : availF S (al n u k) (-1) = (if (n : Int) - k - 2 < 0 then 0 else (n : Int) - k - 2) * (S - 1) := by
        unfold availF; rw [hlf, hlen, hfr, hcs, Int.mul_comm, Int.zero_add]
      have HC := Lib.hid (fun W (kk : Kp wc W) => (hB.keep kk).c3g)
      have HF := Lib.hid (fun W (kk : Kp wc W) => cfree_any W g q P S _ _ (hC.keep kk) (by rw [hlen]; omega) ok0.ep0)
      have HL := Lib.hid (fun W (kk : Kp wc W) => cleft_any W g q P S _ _ (hC.keep kk) ok0)
      have HA := Lib.hid (fun W (kk : Kp wc W) => cavail_any W g q P S _ _ (hC.keep kk) ok0)
      rw [hlen, hfr, hcs] at HF
      rw [hlf] at HL
      rw [hav] at HA
      have hw1 : IntKind.i64.wrap ((n : Int) - k - 2) = (n : Int) - k - 2 := IntWalk.i64_in _ (by omega)
      clear hlf hav hlen hfr hcs hL0 hL1
      have hway : (opn.tmod 2 ≠ 0) ∨ (opn.tmod 2 = 0 ∧ k = 0) := by omega
      rcases hway with hm0 | ⟨hm0, rfl⟩
      · have hmb2 : (opn.tmod 2 == 0) = false := beq_eq_false_iff_ne.2 hm0
        clear hm0
        by_cases hneg : (n : Int) - k - 2 < 0
        · rw [if_pos hneg, Int.zero_mul] at HA
          have hd : (n : Int) - k < 2 := by omega
          go_wp2_with fail
          have hInh := fun (x v : Value) => (⟨fun h => h _ ((Kp.refl wc).drew), fun h _ _ => h⟩ : (∀ W, (fun W => Kp wc W) W → x = v) ↔ x = v)
          dsimp only at hInh
          refine wp_region_quietC (C := fun W => Kp wc W) (by kernel_rfl) (by kernel_rfl) ((Kp.refl wc).drew) ?_
          repeat (first | go_big_quiet_step ((intro hW; first | (first | (go_at_call 18; refine (HRS.out _).mono ?_; rintro e w' ⟨rfl, hk9⟩; exact ⟨rfl, hW.trans hk9⟩) | (go_at_call 16; refine (HF.out _ hW).mono ?_; rintro e w' ⟨rfl, hk9⟩; exact ⟨rfl, hW.trans hk9⟩) | (go_at_call 20; refine (HL.out _ hW).mono ?_; rintro e w' ⟨rfl, hk9⟩; exact ⟨rfl, hW.trans hk9⟩) | (go_at_call 21; refine (HA.out _ hW).mono ?_; rintro e w' ⟨rfl, hk9⟩; exact ⟨rfl, hW.trans hk9⟩)) | (with_reducible rfl) | (obtain ⟨c0, c1, c2⟩ := HC.out _ hW; (try go_simp); first | done | with_reducible rfl | exact ⟨rfl, rfl⟩))) | quiet_step ((intro hW; first | (first | (go_at_call 18; refine (HRS.out _).mono ?_; rintro e w' ⟨rfl, hk9⟩; exact ⟨rfl, hW.trans hk9⟩) | (go_at_call 16; refine (HF.out _ hW).mono ?_; rintro e w' ⟨rfl, hk9⟩; exact ⟨rfl, hW.trans hk9⟩) | (go_at_call 20; refine (HL.out _ hW).mono ?_; rintro e w' ⟨rfl, hk9⟩; exact ⟨rfl, hW.trans hk9⟩) | (go_at_call 21; refine (HA.out _ hW).mono ?_; rintro e w' ⟨rfl, hk9⟩; exact ⟨rfl, hW.trans hk9⟩)) | (with_reducible rfl) | (obtain ⟨c0, c1, c2⟩ := HC.out _ hW; (try go_simp); first | done | with_reducible rfl | exact ⟨rfl, rfl⟩))))
          refine wpQuiet_nil ?_
          intro wq hwq
          clear hInh
          go_wp2_with fail
          go_ret
          exact ⟨rfl, hK.trans hwq⟩
        · rw [if_neg hneg] at HA
          have hd : ¬ ((n : Int) - k < 2) := by omega
          have hmb := mul2 (a := (n : Int) - k - 2) (b := S - 1) (by omega) (by omega) (by omega) (by omega)
          have hw3 : IntKind.i64.wrap (((n : Int) - k - 2) * (S - 1)) = ((n : Int) - k - 2) * (S - 1) := IntWalk.i64_in _ (by omega)
          clear hmb
          go_wp2_with fail
          have hInh := fun (x v : Value) => (⟨fun h => h _ ((Kp.refl wc).drew), fun h _ _ => h⟩ : (∀ W, (fun W => Kp wc W) W → x = v) ↔ x = v)
          dsimp only at hInh
          refine wp_region_quietC (C := fun W => Kp wc W) (by kernel_rfl) (by kernel_rfl) ((Kp.refl wc).drew) ?_
          repeat (first | go_big_quiet_step ((intro hW; first | (first | (go_at_call 18; refine (HRS.out _).mono ?_; rintro e w' ⟨rfl, hk9⟩; exact ⟨rfl, hW.trans hk9⟩) | (go_at_call 16; refine (HF.out _ hW).mono ?_; rintro e w' ⟨rfl, hk9⟩; exact ⟨rfl, hW.trans hk9⟩) | (go_at_call 20; refine (HL.out _ hW).mono ?_; rintro e w' ⟨rfl, hk9⟩; exact ⟨rfl, hW.trans hk9⟩) | (go_at_call 21; refine (HA.out _ hW).mono ?_; rintro e w' ⟨rfl, hk9⟩; exact ⟨rfl, hW.trans hk9⟩)) | (with_reducible rfl) | (obtain ⟨c0, c1, c2⟩ := HC.out _ hW; (try go_simp); first | done | with_reducible rfl | exact ⟨rfl, rfl⟩))) | quiet_step ((intro hW; first | (first | (go_at_call 18; refine (HRS.out _).mono ?_; rintro e w' ⟨rfl, hk9⟩; exact ⟨rfl, hW.trans hk9⟩) | (go_at_call 16; refine (HF.out _ hW).mono ?_; rintro e w' ⟨rfl, hk9⟩; exact ⟨rfl, hW.trans hk9⟩) | (go_at_call 20; refine (HL.out _ hW).mono ?_; rintro e w' ⟨rfl, hk9⟩; exact ⟨rfl, hW.trans hk9⟩) | (go_at_call 21; refine (HA.out _ hW).mono ?_; rintro e w' ⟨rfl, hk9⟩; exact ⟨rfl, hW.trans hk9⟩)) | (with_reducible rfl) | (obtain ⟨c0, c1, c2⟩ := HC.out _ hW; (try go_simp); first | done | with_reducible rfl | exact ⟨rfl, rfl⟩))))
          refine wpQuiet_nil ?_
          intro wq hwq
          clear hInh
          go_wp2_with fail
          go_ret
          exact ⟨rfl, hK.trans hwq⟩
      · have hz0 : (n : Int) - ((0 : Nat) : Int) = (n : Int) := by omega
        rw [hz0] at HF HA hw1
        have hneg : ¬ ((n : Int) - 2 < 0) := by omega
        rw [if_neg hneg] at HA
        have hd : ¬ ((n : Int) < 2) := by omega
        have hmb := mul2 (a := (n : Int) - 2) (b := S - 1) (by omega) (by omega) (by omega) (by omega)
        have hw3 : IntKind.i64.wrap (((n : Int) - 2) * (S - 1)) = ((n : Int) - 2) * (S - 1) := IntWalk.i64_in _ (by omega)
        clear hmb hz0
        go_wp2_with fail
        have hInh := fun (x v : Value) => (⟨fun h => h _ ((Kp.refl wc).drew), fun h _ _ => h⟩ : (∀ W, (fun W => Kp wc W) W → x = v) ↔ x = v)
        dsimp only at hInh
        refine wp_region_quietC (C := fun W => Kp wc W) (by kernel_rfl) (by kernel_rfl) ((Kp.refl wc).drew) ?_
        repeat (first | go_big_quiet_step ((intro hW; first | (first | (go_at_call 18; refine (HRS.out _).mono ?_; rintro e w' ⟨rfl, hk9⟩; exact ⟨rfl, hW.trans hk9⟩) | (go_at_call 16; refine (HF.out _ hW).mono ?_; rintro e w' ⟨rfl, hk9⟩; exact ⟨rfl, hW.trans hk9⟩) | (go_at_call 20; refine (HL.out _ hW).mono ?_; rintro e w' ⟨rfl, hk9⟩; exact ⟨rfl, hW.trans hk9⟩) | (go_at_call 21; refine (HA.out _ hW).mono ?_; rintro e w' ⟨rfl, hk9⟩; exact ⟨rfl, hW.trans hk9⟩)) | (with_reducible rfl) | (obtain ⟨c0, c1, c2⟩ := HC.out _ hW; (try go_simp); first | done | with_reducible rfl | exact ⟨rfl, rfl⟩))) | quiet_step ((intro hW; first | (first | (go_at_call 18; refine (HRS.out _).mono ?_; rintro e w' ⟨rfl, hk9⟩; exact ⟨rfl, hW.trans hk9⟩) | (go_at_call 16; refine (HF.out _ hW).mono ?_; rintro e w' ⟨rfl, hk9⟩; exact ⟨rfl, hW.trans hk9⟩) | (go_at_call 20; refine (HL.out _ hW).mono ?_; rintro e w' ⟨rfl, hk9⟩; exact ⟨rfl, hW.trans hk9⟩) | (go_at_call 21; refine (HA.out _ hW).mono ?_; rintro e w' ⟨rfl, hk9⟩; exact ⟨rfl, hW.trans hk9⟩)) | (with_reducible rfl) | (obtain ⟨c0, c1, c2⟩ := HC.out _ hW; (try go_simp); first | done | with_reducible rfl | exact ⟨rfl, rfl⟩))))
        refine wpQuiet_nil ?_
        intro wq hwq
        clear hInh
        go_wp2_with fail
        go_ret
        exact ⟨rfl, hK.trans hwq⟩
end Go.Proofs.Ytbcoghfpomnkkaa
