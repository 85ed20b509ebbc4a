/- Merged texts: Tape5, Tape6. -/
import Derived.Test.YtdmkfklnnonkhaaGH
import Derived.Test.YtdmkfklnnonkhaaGI
/- Tape.Erase. -/
namespace Go.Proofs.Ytdmkfklnnonkhaa
open Go.RowKit
set_option linter.unusedVariables false
set_option maxRecDepth 20000
section
variable {X : List (Nat × Obj)} {w0 W : World} {tb g ib ic h q : Nat} {p s : Int} {d : Dev} {v : Value} {l : List (Int × Int)} {o : Int}
set_option maxHeartbeats 3200000 in
theorem terase_state (t : TpS X w0 W tb g ib ic h q p s d v l o) (k : Nat) (hk : k < l.length) (hz : epo l k = 0 ∨ (epo l k ≠ 0 ∧ o = k)) :
    Calls Try.prog 25 #[.pointer (some ⟨tb, 0, none⟩), .int .i64 k] W fun e w' => e = .returned (.int .i64 7) ∧ Kp W w' := by
  have hlen := t.cok.len
  have HC := Lib.hid (fun W' (kk : Kp W W') => (t.keep kk).c2)
  have HEP := Lib.hid (fun W' (kk : Kp W W') => cepochK W' h q p s l o (t.keep kk).ch (by omega) k hk)
  have HUS := Lib.hid (fun W' (kk : Kp W W') => cused_in W' h q p s l o (t.keep kk).ch (by omega) k hk)
  have HER := Lib.hid (fun W' (kk : Kp W W') => cerase_state W' h q p s l o (t.keep kk).ch (by omega) k hk hz)
  go_enter Try.func25, Try.ntmps25
  go_wp2_with fail
  refine (tready t).mono ?_
  rintro e w1 ⟨rfl, hk1⟩
  obtain ⟨c0, c1⟩ := HC.out _ hk1
  clear hz
  go_wp2_with fail
  have hInh := fun (x v : Value) => (⟨fun h => h _ (hk1.drew), fun h _ _ => h⟩ : (∀ Wz9, (fun W' => Kp W W') Wz9 → x = v) ↔ x = v)
  dsimp only at hInh
  refine wp_region_quietC (C := fun W' => Kp W W') (by kernel_rfl) (by kernel_rfl) (hk1.drew) ?_
  repeat (first | go_big_quiet_step ((intro hW; first | (first | (go_at_call 48; refine (HEP.out _ hW).mono ?_; rintro e w' ⟨rfl, hk9⟩; exact ⟨rfl, hW.trans hk9⟩) | (go_at_call 49; refine (HUS.out _ hW).mono ?_; rintro e w' ⟨rfl, hk9⟩; exact ⟨rfl, hW.trans hk9⟩)) | (with_reducible rfl) | (obtain ⟨c0, c1⟩ := HC.out _ hW; (try go_simp); first | done | with_reducible rfl | exact ⟨rfl, rfl⟩))) | quiet_step ((intro hW; first | (first | (go_at_call 48; refine (HEP.out _ hW).mono ?_; rintro e w' ⟨rfl, hk9⟩; exact ⟨rfl, hW.trans hk9⟩) | (go_at_call 49; refine (HUS.out _ hW).mono ?_; rintro e w' ⟨rfl, hk9⟩; exact ⟨rfl, hW.trans hk9⟩)) | (with_reducible rfl) | (obtain ⟨c0, c1⟩ := HC.out _ hW; (try go_simp); first | done | with_reducible rfl | exact ⟨rfl, rfl⟩))))
  refine wpQuiet_nil ?_
  intro wq hwq
  clear hInh
  obtain ⟨c0, c1⟩ := HC.out _ hwq
  go_wp2_with fail
  refine (HER.out _ hwq).mono ?_
  rintro e w2 ⟨rfl, hk2⟩
  go_wp2_with fail
  go_ret
  exact ⟨rfl, hwq.trans hk2⟩
set_option maxHeartbeats 3200000 in
theorem terase_go (t : TpS X w0 W tb g ib ic h q p s d v l o) (hrl : d.row.length ≤ 99990) (k : Nat) (hk : k < l.length) (hz : epo l k ≠ 0) (ho : o ≠ k) (d1 : Dev) (hd : eraseD p s (l.length : Nat) d k = (d1, 0)) :
    Calls Try.prog 25 #[.pointer (some ⟨tb, 0, none⟩), .int .i64 k] W fun e w' => e = .returned (.int .i64 0) ∧ ∃ v2, TpS X w0 w' tb g ib ic h q p s d1 v2 (l.set k (0, 0)) o := by
  have hlen := t.cok.len
  have hR := t.cok.right
  obtain ⟨r1, r2, r3, r4, r5, r6⟩ := id hR
  have hcok : ChOk p s (l.set k (0, 0)) o := ok_put t.cok k hk 0 0 (by omega) (by omega) (by omega) (by omega) o (Or.inl ⟨rfl, Or.inl ho⟩)
  have hln : (l.set k (0, 0)).length = l.length := List.length_set
  have HC := Lib.hid (fun W' (kk : Kp W W') => (t.keep kk).c2)
  have HEP := Lib.hid (fun W' (kk : Kp W W') => cepochK W' h q p s l o (t.keep kk).ch (by omega) k hk)
  have HUS := Lib.hid (fun W' (kk : Kp W W') => cused_in W' h q p s l o (t.keep kk).ch (by omega) k hk)
  have HER := Lib.hid (fun W' (kk : Kp W W') => cerase_ok W' h q p s l o (t.keep kk).ch (by omega) k hk hz ho)
  have HST := Lib.hid (fun W' (kk : Kp W W') W'' (a : ChAt W'' h q p s (l.set k (0, 0)) o) (b : Mv [h, q] W' W'') => (t.keep kk).stepC a b hln hcok)
  go_enter Try.func25, Try.ntmps25
  go_wp2_with fail
  refine (tready t).mono ?_
  rintro e w1 ⟨rfl, hk1⟩
  obtain ⟨c0, c1⟩ := HC.out _ hk1
  have HZ := Lib.hid (And.intro hz ho)
  clear hz ho hln
  go_wp2_with fail
  have hInh := fun (x v : Value) => (⟨fun h => h _ (hk1.drew), fun h _ _ => h⟩ : (∀ Wz9, (fun W' => Kp W W') Wz9 → x = v) ↔ x = v)
  dsimp only at hInh
  refine wp_region_quietC (C := fun W' => Kp W W') (by kernel_rfl) (by kernel_rfl) (hk1.drew) ?_
  repeat (first | go_big_quiet_step ((intro hW; first | (first | (go_at_call 48; refine (HEP.out _ hW).mono ?_; rintro e w' ⟨rfl, hk9⟩; exact ⟨rfl, hW.trans hk9⟩) | (go_at_call 49; refine (HUS.out _ hW).mono ?_; rintro e w' ⟨rfl, hk9⟩; exact ⟨rfl, hW.trans hk9⟩)) | (with_reducible rfl) | (obtain ⟨c0, c1⟩ := HC.out _ hW; (try go_simp); first | done | with_reducible rfl | exact ⟨rfl, rfl⟩))) | quiet_step ((intro hW; first | (first | (go_at_call 48; refine (HEP.out _ hW).mono ?_; rintro e w' ⟨rfl, hk9⟩; exact ⟨rfl, hW.trans hk9⟩) | (go_at_call 49; refine (HUS.out _ hW).mono ?_; rintro e w' ⟨rfl, hk9⟩; exact ⟨rfl, hW.trans hk9⟩)) | (with_reducible rfl) | (obtain ⟨c0, c1⟩ := HC.out _ hW; (try go_simp); first | done | with_reducible rfl | exact ⟨rfl, rfl⟩))))
  refine wpQuiet_nil ?_
  intro wq hwq
  clear hInh
  obtain ⟨c0, c1⟩ := HC.out _ hwq
  go_wp2_with fail
  refine (HER.out _ hwq).mono ?_
  rintro e w2 ⟨rfl, ha2, hm2⟩
  have t2 := HST.out _ hwq _ ha2 hm2
  obtain ⟨c0, c1⟩ := t2.c2
  have HFE := ferase t2.fl.at_ t2.fl.ok (k : Int)
  rw [List.length_set, hd] at HFE
  have HFE := Lib.hid HFE
  have hok1 : DevOk p s (l.length : Nat) d1 := by
    have := eraseD_ok t.fl.ok (k : Int) hrl
    rw [hd] at this
    exact this
  have HS2 := Lib.hid (fun W'' v2 (a : FlAt W'' g ib ic p s (l.length : Nat) d1 v2) (b : FlMv w2 W'' g ib v v2) => t2.stepF (W' := W'') (v2 := v2) (d2 := d1) (by rw [List.length_set]; exact a) b (by rw [List.length_set]; exact hok1))
  clear ha2 hm2 t2 hd hok1
  go_wp2_with fail
  refine (HFE.out).mono ?_
  rintro e w3 ⟨rfl, v2, hf2, hm2⟩
  have hres := HS2.out _ _ hf2 hm2
  go_wp2_with fail
  go_ret
  exact ⟨rfl, v2, hres⟩
end
end Go.Proofs.Ytdmkfklnnonkhaa
/- A full tape: the plain laws. -/
namespace Go.Proofs.Ytdmkfklnnonkhaa
open Go.RowKit
set_option linter.unusedVariables false
set_option maxRecDepth 20000
/-- A device with no fuse. -/
def qD (img : List Nat) (row : Rw) : Dev := ⟨img, row, false, false, 0⟩
theorem q_count (d : Dev) (h : d.set = false) : countD d = (d, false) := by unfold countD; rw [if_pos h]
theorem q_prog {p s r : Int} (img : List Nat) (row : Rw) (page : Int) (b : ByteArray) (h0 : 0 ≤ page) (h1 : page < s * r) (hb : (b.size : Int) = p) (hp : pend row page = none) (hbl : pgN img p.toNat page.toNat = List.replicate p.toNat 255) :
    programD p s r (qD img row) page b = (qD img (row ++ [(page, b)]), 0) := by
  rw [program_fresh page b rfl h0 h1 hb hp hbl, q_count _ rfl]
  rfl
theorem q_erase {p s r : Int} (img : List Nat) (k : Int) (h0 : 0 ≤ k) (h1 : k < r) : eraseD p s r (qD img []) k = (qD (doAll p img (newRows p (k * s) s.toNat)) [], 0) := by
  unfold eraseD
  rw [if_neg (by simp [qD]), if_neg (by omega), if_neg (by simp [qD]), q_count _ rfl]
  rfl
theorem q_rows {p s r : Int} (hR : RightG p s r) {img : List Nat} {P : Int} (hl : (img.length : Int) = p * s * r) (fr : Int) (h0 : 0 ≤ fr) (hP : 0 ≤ P ∧ P < s * r) : ∀ k : Nat, fr + k ≤ s * r → fr ≤ P → P < fr + k → pgN (doAll p img (newRows p fr k)) p.toNat P.toNat = List.replicate p.toNat 255
  | 0, _, h1, h2 => by omega
  | k + 1, hk, h1, h2 => by
    have hp0 : 0 ≤ p := by unfold RightG at hR; omega
    have hm := newRows_mem (p := p) (s := s) (r := r) (k := k) hp0 h0 (show fr + (k : Int) ≤ s * r by omega)
    have hl2 : ((doAll p img (newRows p fr k)).length : Int) = p * s * r := by rw [doAll_len hR _ _ hl hm]; exact hl
    have hbs : ((blankS p).size : Int) ≤ p := by rw [blankS_size]; omega
    rw [newRows_succ, doAll_app]
    by_cases he : P = fr + k
    · have := doD_same hR hl2 (fr + (k : Int)) (by omega) (by omega) (blankS p) hbs
      rw [← he] at this ⊢
      refine Eq.trans this ?_
      rw [show nb (blankS p) = List.replicate p.toNat 255 from nb_fillS p.toNat, List.drop_eq_nil_of_le, List.append_nil]
      rw [blankS_size]
      unfold pgN
      rw [List.length_take]
      exact Nat.min_le_left _ _
    · have := doD_other hR hl2 (fr + (k : Int)) (by omega) (by omega) (blankS p) hbs P.toNat (by omega)
      refine Eq.trans this ?_
      exact q_rows hR hl fr h0 hP k (by omega) h1 (by omega)
theorem q_flush (p s n : Int) (B : Nat → ByteArray) (k : Nat) : ∃ img, flushD p (runDev p s n B k none) = (qD img [], 0) := by
  refine ⟨doAll p (newD p s n ⟨#[]⟩).img (runRow B k), ?_⟩
  unfold flushD
  rw [if_neg (by simp [runDev]), q_count _ rfl, if_neg (by simp)]
  rfl
/-- The account when all is taken, and the first region is free again. -/
theorem full_frees (n m : Nat) : ∀ k, k ≤ n → frees (RL n m n m) k = 0
  | 0, _ => rfl
  | k + 1, h => by
    unfold frees
    have e : epo (RL n m n m) k = (k : Int) + 1 := by rw [RL_epo _ _ _ _ _ (by omega), if_pos (by omega)]
    rw [full_frees n m k (by omega), e, if_neg (by omega)]
theorem full_left (s : Int) (n m : Nat) (hn : 1 ≤ n) (hs : s = (m : Int) + 1) : leftF s (RL n m n m) ((n : Int) - 1) = 0 := by
  unfold leftF
  rw [if_neg (by omega), show ((n : Int) - 1).toNat = n - 1 by omega, RL_uso _ _ _ _ (by omega) (by omega)]
  omega
theorem free1_epo (n m k : Nat) (hn : 1 ≤ n) (h : k < n) : epo ((RL n m n m).set 0 (0, 0)) k = if k = 0 then 0 else (k : Int) + 1 := by
  rw [epo_set _ _ _ _ (by rw [RL_len]; omega)]
  by_cases e : k = 0
  · rw [if_pos e, if_pos e]
  · rw [if_neg e, if_neg e, RL_epo _ _ _ _ _ h, if_pos h]
theorem free1_nwst (n m : Nat) (hn : 1 ≤ n) : ∀ k, 2 ≤ k → k ≤ n → nwst ((RL n m n m).set 0 (0, 0)) k = ((k : Int) - 1, (k : Int))
  | 0, h, _ => by omega
  | 1, h, _ => by omega
  | 2, _, h => by
    have e0 := free1_epo n m 0 hn (by omega)
    have e1 := free1_epo n m 1 hn (by omega)
    rw [if_pos rfl] at e0
    rw [if_neg (by omega)] at e1
    simp [nwst, e0, e1]
  | k + 3, _, h => by
    have ih := free1_nwst n m hn (k + 2) (by omega) (by omega)
    have e : epo ((RL n m n m).set 0 (0, 0)) (k + 2) = ((k + 2 : Nat) : Int) + 1 := by rw [free1_epo _ _ _ hn (by omega), if_neg (by omega)]
    unfold nwst
    rw [ih, e, if_pos (by simp only; omega)]
    simp only [Prod.mk.injEq]
    omega
theorem free1_can (s : Int) (n m : Nat) (hn4 : 4 ≤ n) (hn : n ≤ 12) (hs : s = (m : Int) + 1) : CanOpen s ((RL n m n m).set 0 (0, 0)) ((n : Int) - 1) 0 ((n : Int) + 1) := by
  have hw := free1_nwst n m (by omega) n (by omega) (Nat.le_refl _)
  have hlen : ((RL n m n m).set 0 (0, 0)).length = n := by rw [List.length_set, RL_len]
  have h0 := free1_epo n m 0 (by omega) (by omega)
  have hnt : nth ((RL n m n m).set 0 (0, 0)) 1 = 0 := by
    unfold nth
    rw [hlen, hw]
    simp only
    rw [show (n : Int) - 1 + ((1 : Nat) : Int) = (n : Int) by omega, Int.emod_self]
    rfl
  refine ⟨?_, ?_, ?_, ⟨1, Nat.le_refl _, by omega, fun i h1 h2 => by omega, ?_, hnt⟩, by omega, ?_⟩
  · unfold leftF
    rw [if_neg (by omega), show ((n : Int) - 1).toNat = n - 1 by omega]
    have : uso ((RL n m n m).set 0 (0, 0)) (n - 1) = (m : Int) := by
      have e := RL_uso n m n m (by omega) (by omega)
      rw [← e]
      unfold uso
      rw [List.getD_eq_getElem?_getD, List.getD_eq_getElem?_getD, List.getElem?_set_ne (by omega)]
    rw [this]
    omega
  · rw [hlen]
    exact frees_pos _ 0 (by rw [h0, if_pos rfl]) n (by omega)
  · rw [hlen, hw]
    simp only
    omega
  · rw [hnt, h0, if_pos rfl]
  · rw [hlen, hw]
section
variable {X : List (Nat × Obj)} {w0 W : World} {tb g ib ic h q : Nat} {p s : Int} {v : Value} {n m i c u : Nat} {fr : Nat → Fm} {x : Fm}
theorem full_pos {m n i c u : Nat} (h : Pos m i c u) (hi : i = n * m) (hn : 1 ≤ n) (hm : 1 ≤ m) : c = n ∧ u = m := by
  have h0 : 1 * 1 ≤ n * m := Nat.mul_le_mul hn hm
  rcases h with ⟨h1, h2, h3⟩ | ⟨h1, h2, h3, h4⟩
  · omega
  · have e1 : (c - 1) * m < n * m := by omega
    have e2 := Nat.lt_of_mul_lt_mul_right e1
    have e3 : n * m ≤ c * m := by
      have := Nat.succ_mul (c - 1) m
      rw [show (c - 1).succ = c by omega] at this
      omega
    have e4 := Nat.le_of_mul_le_mul_right e3 (by omega)
    have e5 : c = n := by omega
    subst e5
    refine ⟨rfl, ?_⟩
    have := Nat.succ_mul (c - 1) m
    rw [show (c - 1).succ = c by omega] at this
    omega
/-- A full tape refuses one more. -/
theorem full_append (hR : RightG p s n) (hs : s = (m : Int) + 1) (hm : 2 ≤ m) (t : RunAt X w0 W tb g ib ic h q p s n m fr none i c u v) (hi : i = n * m) (hx : FmOk p x) :
    Calls Try.prog 12 #[.pointer (some ⟨tb, 0, none⟩), frv x.kd x.a x.b x.t] W fun e w' => e = .returned (.tuple #[.int .i64 0, .int .i64 8]) ∧ ∃ v', RunAt X w0 w' tb g ib ic h q p s n m fr none i c u v' := by
  obtain ⟨hp, t⟩ := t
  obtain ⟨r1, r2, r3, r4, r5, r6⟩ := id hR
  obtain ⟨rfl, rfl⟩ := full_pos hp hi (by omega) (by omega)
  have hsz : x.t.size ≤ 9223372036854775807 := by have := hx.room; omega
  have H := tapp_full t hsz hx.a1 hx.b1 (pageS p x.kd x.a x.b x.t) (by rw [RL_len]; exact hx.fb hR) (full_left s _ _ (by omega) hs) (Or.inl (by rw [RL_len]; exact full_frees _ _ _ (Nat.le_refl _)))
  refine H.mono ?_
  rintro e w' ⟨e1, v2, t2⟩
  exact ⟨e1, v2, hp, t2⟩
/-- A full tape that is flushed. -/
def FullT (X : List (Nat × Obj)) (w0 : World) (tb g ib ic h q : Nat) (p s : Int) (n m : Nat) (W : World) : Prop := ∃ img v, TpS X w0 W tb g ib ic h q p s (qD img []) v (RL n m n m) ((n : Int) - 1)
/-- Its first region is free again. -/
def FullU (X : List (Nat × Obj)) (w0 : World) (tb g ib ic h q : Nat) (p s : Int) (n m : Nat) (W : World) : Prop := ∃ img v, TpS X w0 W tb g ib ic h q p s (qD img []) v ((RL n m n m).set 0 (0, 0)) ((n : Int) - 1) ∧ pgN img p.toNat 0 = List.replicate p.toNat 255 ∧ pgN img p.toNat 1 = List.replicate p.toNat 255
/-- And taken once more. -/
def FullV (X : List (Nat × Obj)) (w0 : World) (tb g ib ic h q : Nat) (p s : Int) (W : World) : Prop := ∃ d v l o, TpS X w0 W tb g ib ic h q p s d v l o
theorem full_flush (hR : RightG p s n) (hs : s = (m : Int) + 1) (hm : 2 ≤ m) (t : RunAt X w0 W tb g ib ic h q p s n m fr none i c u v) (hi : i = n * m) :
    Calls Try.prog 22 #[.pointer (some ⟨tb, 0, none⟩)] W fun e w' => e = .returned (.int .i64 0) ∧ FullT X w0 tb g ib ic h q p s n m w' := by
  obtain ⟨hp, t⟩ := t
  obtain ⟨r1, r2, r3, r4, r5, r6⟩ := id hR
  obtain ⟨rfl, rfl⟩ := full_pos hp hi (by omega) (by omega)
  have H := tflush t
  obtain ⟨img, hf⟩ := q_flush p s (c : Nat) (runB p u fr) (lim u c u)
  rw [hf] at H
  refine H.mono ?_
  rintro e w' ⟨e1, v2, t2⟩
  exact ⟨e1, img, v2, t2⟩
theorem full_erase_no (hR : RightG p s n) (t : FullT X w0 tb g ib ic h q p s n m W) :
    Calls Try.prog 25 #[.pointer (some ⟨tb, 0, none⟩), .int .i64 ((n : Int) - 1)] W fun e w' => e = .returned (.int .i64 7) ∧ FullT X w0 tb g ib ic h q p s n m w' := by
  obtain ⟨img, v, t⟩ := t
  obtain ⟨r1, r2, r3, r4, r5, r6⟩ := id hR
  have H := terase_state t (n - 1) (by rw [RL_len]; omega) (Or.inr ⟨by rw [RL_epo _ _ _ _ _ (by omega), if_pos (by omega)]; omega, by omega⟩)
  rw [show ((n - 1 : Nat) : Int) = (n : Int) - 1 by omega] at H
  refine H.mono ?_
  rintro e w' ⟨e1, k⟩
  exact ⟨e1, img, v, t.keep k⟩
theorem full_erase (hR : RightG p s n) (t : FullT X w0 tb g ib ic h q p s n m W) :
    Calls Try.prog 25 #[.pointer (some ⟨tb, 0, none⟩), .int .i64 0] W fun e w' => e = .returned (.int .i64 0) ∧ FullU X w0 tb g ib ic h q p s n m w' := by
  obtain ⟨img, v, t⟩ := t
  obtain ⟨r1, r2, r3, r4, r5, r6⟩ := id hR
  have hl := t.fl.ok.len
  rw [RL_len] at hl
  have hl2 : (img.length : Int) = p * s * (n : Int) := hl
  have hsn : s * 4 ≤ s * (n : Int) := Int.mul_le_mul_of_nonneg_left r5 (by omega)
  have hz : (0 : Int) * s = 0 := Int.zero_mul s
  have H := terase_go t (by simp [qD]) 0 (by rw [RL_len]; omega) (by rw [RL_epo _ _ _ _ _ (by omega), if_pos (by omega)]; omega) (by omega) _ (by rw [RL_len]; exact q_erase img 0 (by omega) (by omega))
  refine H.mono ?_
  rintro e w' ⟨e1, v2, t2⟩
  refine ⟨e1, _, v2, t2, ?_, ?_⟩
  · exact q_rows hR (P := 0) hl2 (0 * s) (by omega) (by omega) s.toNat (by omega) (by omega) (by omega)
  · exact q_rows hR (P := 1) hl2 (0 * s) (by omega) (by omega) s.toNat (by omega) (by omega) (by omega)
theorem full_again (hR : RightG p s n) (hs : s = (m : Int) + 1) (t : FullU X w0 tb g ib ic h q p s n m W) (hx : FmOk p x) :
    Calls Try.prog 12 #[.pointer (some ⟨tb, 0, none⟩), frv x.kd x.a x.b x.t] W fun e w' => e = .returned (.tuple #[.int .i64 1, .int .i64 0]) ∧ FullV X w0 tb g ib ic h q p s w' := by
  obtain ⟨img, v, t, hb0, hb1⟩ := t
  obtain ⟨r1, r2, r3, r4, r5, r6⟩ := id hR
  have hlen : ((RL n m n m).set 0 (0, 0)).length = n := by rw [List.length_set, RL_len]
  have hsn : s * 4 ≤ s * (n : Int) := Int.mul_le_mul_of_nonneg_left r5 (by omega)
  have hz : ((0 : Nat) : Int) * s = 0 := Int.zero_mul s
  have hsz : x.t.size ≤ 9223372036854775807 := by have := hx.room; omega
  have hps := pageS_size (hx.pg hR)
  have hd : opnD p s ((RL n m n m).set 0 (0, 0)).length (qD img []) 0 ((n : Int) + 1) = (qD img ([] ++ [(((0 : Nat) : Int) * s, headP p ((n : Int) + 1) ((0 : Nat) : Int))]), 0) := by
    rw [hlen]
    unfold opnD
    exact q_prog img [] _ _ (by omega) (by omega) (headP_size hR _ _ (by omega) (by omega)) rfl (by rw [hz]; exact hb0)
  have H := tapp_open_go t (by simp [qD]) hsz hx.a1 hx.b1 (pageS p x.kd x.a x.b x.t) (by omega) (by rw [hlen]; exact hx.fb hR) 0 ((n : Int) + 1) (free1_can s n m (by omega) (by omega) hs) _ hd
  have h2 : programD p s (((RL n m n m).set 0 (0, 0)).length : Nat) (qD img ([] ++ [(((0 : Nat) : Int) * s, headP p ((n : Int) + 1) ((0 : Nat) : Int))])) (((0 : Nat) : Int) * s + 1) (pageS p x.kd x.a x.b x.t) = (qD img (([] ++ [(((0 : Nat) : Int) * s, headP p ((n : Int) + 1) ((0 : Nat) : Int))]) ++ [(((0 : Nat) : Int) * s + 1, pageS p x.kd x.a x.b x.t)]), 0) := by
    rw [hlen]
    refine q_prog img _ _ _ (by omega) (by omega) hps ?_ (by rw [hz]; exact hb1)
    rw [pend_snoc, if_neg (by simp only; omega)]
    rfl
  rw [h2] at H
  refine H.mono ?_
  rintro e w' ⟨e1, v2, t2⟩
  refine ⟨?_, _, v2, _, _, t2⟩
  rw [e1, if_pos rfl, hz]
  rfl
end
end Go.Proofs.Ytdmkfklnnonkhaa
