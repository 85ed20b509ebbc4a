/- Merged texts: TapeRun3. -/
import Derived.Test.YtecelmhiffcaeaaGH
set_option linter.unusedSimpArgs false
set_option linter.unusedVariables false
/- Append, frame by frame, on a tape over a blank device. -/
namespace Go.Proofs.Ytecelmhiffcaeaa
open Go.RowKit
set_option linter.unusedVariables false
set_option maxRecDepth 20000

/-- A frame, plainly. -/
structure Fm where
  kd : Int
  a : Int
  b : Int
  t : ByteArray
structure FmOk (p : Int) (x : Fm) : Prop where
  k1 : 1 ≤ x.kd
  k2 : x.kd ≤ 4
  a1 : 0 ≤ x.a ∧ x.a ≤ 4294967295
  b1 : 0 ≤ x.b ∧ x.b ≤ 4294967295
  room : (x.t.size : Int) + 15 ≤ p
theorem FmOk.pg {p s r : Int} {x : Fm} (h : FmOk p x) (hR : RightG p s r) : PgOk p x.kd x.a x.b x.t := by
  unfold RightG at hR
  exact ⟨by omega, by omega, h.k1, h.k2, h.a1.1, h.a1.2, h.b1.1, h.b1.2, h.room⟩
theorem FmOk.fb {p s r : Int} {x : Fm} (h : FmOk p x) (hR : RightG p s r) : fbS p s r x.kd x.a x.b x.t = (pageS p x.kd x.a x.b x.t, 0) := by
  have h1 := h.k1
  have h2 := h.k2
  have h3 := h.room
  unfold RightG at hR
  unfold fbS
  rw [if_neg (by omega), if_neg (by omega), if_neg (by omega)]
/-- What stands in page j: a region's head, or a frame. -/
def runB (p : Int) (m : Nat) (fr : Nat → Fm) (j : Nat) : ByteArray :=
  if j % (m + 1) = 0 then headP p (((j / (m + 1) : Nat) : Int) + 1) ((j / (m + 1) : Nat) : Int)
  else pageS p (fr (j / (m + 1) * m + j % (m + 1) - 1)).kd (fr (j / (m + 1) * m + j % (m + 1) - 1)).a (fr (j / (m + 1) * m + j % (m + 1) - 1)).b (fr (j / (m + 1) * m + j % (m + 1) - 1)).t
theorem divmod (c m x : Nat) (hx : x < m + 1) : (c * (m + 1) + x) / (m + 1) = c ∧ (c * (m + 1) + x) % (m + 1) = x := by
  constructor
  · rw [Nat.mul_comm, Nat.mul_add_div (by omega), Nat.div_eq_of_lt hx, Nat.add_zero]
  · rw [Nat.mul_comm, Nat.mul_add_mod, Nat.mod_eq_of_lt hx]
theorem runB_head (p : Int) (m : Nat) (fr : Nat → Fm) (c : Nat) : runB p m fr (c * (m + 1)) = headP p ((c : Int) + 1) (c : Int) := by
  obtain ⟨h1, h2⟩ := divmod c m 0 (by omega)
  rw [Nat.add_zero] at h1 h2
  unfold runB
  rw [if_pos h2, h1]
theorem runB_frame (p : Int) (m : Nat) (fr : Nat → Fm) (c x : Nat) (h0 : 0 < x) (h : x ≤ m) : runB p m fr (c * (m + 1) + x) = pageS p (fr (c * m + x - 1)).kd (fr (c * m + x - 1)).a (fr (c * m + x - 1)).b (fr (c * m + x - 1)).t := by
  obtain ⟨h1, h2⟩ := divmod c m x (by omega)
  unfold runB
  rw [if_neg (by omega), h1, h2]
/-- Behind i frames c regions are taken, the last one has u. -/
def Pos (m i c u : Nat) : Prop := (c = 0 ∧ i = 0 ∧ u = m) ∨ (1 ≤ c ∧ 1 ≤ u ∧ u ≤ m ∧ i = (c - 1) * m + u)
/-- How many pages are written. -/
def lim (m c u : Nat) : Nat := if c = 0 then 0 else (c - 1) * (m + 1) + u + 1
theorem pos_full {m i c u n : Nat} (h : Pos m i c u) (hu : u = m) (hi : i < n * m) : c < n ∧ lim m c u = c * (m + 1) ∧ i = c * m := by
  rcases h with ⟨h1, h2, h3⟩ | ⟨h1, h2, h3, h4⟩
  · subst h1 h2
    refine ⟨?_, ?_, by simp⟩
    · rcases Nat.eq_zero_or_pos n with h | h
      · subst h; simp at hi
      · exact h
    · simp [lim]
  · have e : (c - 1) * m + m = c * m := by
      obtain ⟨c', rfl⟩ : ∃ c', c = c' + 1 := ⟨c - 1, by omega⟩
      rw [Nat.add_sub_cancel, Nat.succ_mul]
    have e2 : (c - 1) * (m + 1) + m + 1 = c * (m + 1) := by
      obtain ⟨c', rfl⟩ : ∃ c', c = c' + 1 := ⟨c - 1, by omega⟩
      rw [Nat.add_sub_cancel, Nat.succ_mul]
      rfl
    subst hu
    refine ⟨?_, ?_, by omega⟩
    · rw [h4, e] at hi
      exact Nat.lt_of_mul_lt_mul_right hi
    · unfold lim
      rw [if_neg (by omega), e2]
theorem pos_next {m i c u : Nat} (h : Pos m i c u) (hm : 1 ≤ m) : (u = m ∧ Pos m (i + 1) (c + 1) 1 ∧ i = c * m) ∨ (u < m ∧ 1 ≤ c ∧ Pos m (i + 1) c (u + 1)) := by
  rcases h with ⟨h1, h2, h3⟩ | ⟨h1, h2, h3, h4⟩
  · subst h1 h2
    exact Or.inl ⟨h3, Or.inr ⟨by omega, by omega, hm, by simp⟩, by simp⟩
  · by_cases hu : u = m
    · have e : (c - 1) * m + m = c * m := by
        obtain ⟨c', rfl⟩ : ∃ c', c = c' + 1 := ⟨c - 1, by omega⟩
        rw [Nat.add_sub_cancel, Nat.succ_mul]
      exact Or.inl ⟨hu, Or.inr ⟨by omega, by omega, hm, by rw [Nat.add_sub_cancel]; omega⟩, by omega⟩
    · exact Or.inr ⟨by omega, h1, Or.inr ⟨h1, by omega, by omega, by omega⟩⟩
section
variable {X : List (Nat × Obj)} {w0 W : World} {tb g ib ic h q : Nat} {p s : Int} {v : Value} {n m i c u : Nat} {fr : Nat → Fm} {fz : Option Nat}
/-- What a tape is behind i frames. -/
def RunAt (X : List (Nat × Obj)) (w0 W : World) (tb g ib ic h q : Nat) (p s : Int) (n m : Nat) (fr : Nat → Fm) (fz : Option Nat) (i c u : Nat) (v : Value) : Prop :=
  Pos m i c u ∧ TpS X w0 W tb g ib ic h q p s (runDev p s (n : Nat) (runB p m fr) (lim m c u) fz) v (RL n m c u) ((c : Int) - 1)
/-- Where the i-th frame goes. -/
def pgOf (m i : Nat) : Nat := i / m * (m + 1) + 1 + i % m
theorem pos_pg {m i c u : Nat} (h : Pos m i c u) (hm : 1 ≤ m) : pgOf m i = (if u = m then c * (m + 1) + 1 else (c - 1) * (m + 1) + u + 1) := by
  unfold pgOf
  rcases pos_next h hm with ⟨h1, _, h3⟩ | ⟨h1, h2, h3⟩
  · rw [if_pos h1, h3, Nat.mul_div_cancel _ (by omega), Nat.mul_mod_left]
  · rw [if_neg (by omega)]
    rcases h with ⟨a1, a2, a3⟩ | ⟨a1, a2, a3, a4⟩
    · omega
    · have e1 : i / m = c - 1 := by rw [a4, Nat.mul_comm, Nat.mul_add_div (by omega), Nat.div_eq_of_lt h1, Nat.add_zero]
      have e2 : i % m = u := by rw [a4, Nat.mul_comm, Nat.mul_add_mod, Nat.mod_eq_of_lt h1]
      rw [e1, e2]
      omega
theorem run_append (hR : RightG p s n) (hs : s = (m : Int) + 1) (hm : 2 ≤ m) (t : RunAt X w0 W tb g ib ic h q p s n m fr fz i c u v) (hi : i < n * m) (hx : FmOk p (fr i)) (hf : ∀ N, fz = some N → pgOf m i + 1 ≤ N) :
    Calls Try.prog 24 #[.pointer (some ⟨tb, 0, none⟩), frv (fr i).kd (fr i).a (fr i).b (fr i).t] W fun e w' => e = .returned (.tuple #[.int .i64 ((pgOf m i : Nat) : Int), .int .i64 0]) ∧ ∃ c' u' v', RunAt X w0 w' tb g ib ic h q p s n m fr fz (i + 1) c' u' v' ∧ lim m c' u' = pgOf m i + 1 := by
  obtain ⟨hp, t⟩ := t
  obtain ⟨r1, r2, r3, r4, r5, r6⟩ := id hR
  have hn12 : n ≤ 12 := by omega
  have hm9 : m ≤ 9 := by omega
  have hpg := pos_pg hp (by omega)
  have hsz : (fr i).t.size ≤ 9223372036854775807 := by have := hx.room; omega
  have hfb := hx.fb hR
  have hps := pageS_size (hx.pg hR)
  rcases pos_next hp (by omega) with ⟨h1, h2, h3⟩ | ⟨h1, h2, h3⟩
  · obtain ⟨k1, k2, k3⟩ := pos_full hp h1 hi
    rw [if_pos h1] at hpg
    subst h1
    have hB1 : runB p u fr (c * (u + 1) + 1) = pageS p (fr i).kd (fr i).a (fr i).b (fr i).t := by rw [runB_frame p u fr c 1 (by omega) (by omega), Nat.add_sub_cancel, ← h3]
    have hH := runB_head p u fr c
    have hin : ((c * (u + 1) + 1 : Nat) : Int) < s * (n : Nat) := by
      have := slot_in (n := n) (m := u) (c := c + 1) (u := 1) hs (by omega) (by omega) (by omega)
      rw [Nat.add_sub_cancel] at this
      exact this
    have hb120 := (mul_sr hR).2.1
    rw [k2] at t
    have p1 := run_prog (p := p) (s := s) (n := (n : Nat)) (B := runB p u fr) (k := c * (u + 1)) (fz := fz) hR (by omega) (by rw [hH]; exact headP_size hR _ _ (by omega) (by omega)) (fun N hN => by have := hf N hN; omega)
    have p2 := run_prog (p := p) (s := s) (n := (n : Nat)) (B := runB p u fr) (k := c * (u + 1) + 1) (fz := fz) hR hin (by rw [hB1]; exact hps) (fun N hN => by have := hf N hN; omega)
    have H := trun_opn2 hs t k1 rfl (by omega) hsz hx.a1 hx.b1 (by rw [hB1]; exact hfb) (by rw [hB1]; exact hps) hH _ 0 p1 p2
    refine H.mono ?_
    rintro e w' ⟨e1, v2, t2⟩
    refine ⟨by rw [e1, if_pos rfl, hpg], c + 1, 1, v2, ⟨h2, ?_⟩, ?_⟩
    · have hl : lim u (c + 1) 1 = c * (u + 1) + 1 + 1 := by unfold lim; rw [if_neg (by omega), Nat.add_sub_cancel]
      rw [hl, show ((c + 1 : Nat) : Int) - 1 = ((c : Nat) : Int) by omega]
      exact t2
    · unfold lim
      rw [if_neg (by omega), Nat.add_sub_cancel, hpg]
  · rw [if_neg (by omega)] at hpg
    have hl : lim m c u = (c - 1) * (m + 1) + (u + 1) := by unfold lim; rw [if_neg (by omega)]; omega
    have hi2 : i = (c - 1) * m + u := by
      rcases hp with ⟨a1, a2, a3⟩ | ⟨a1, a2, a3, a4⟩
      · omega
      · exact a4
    have hcn : c ≤ n := by
      have : (c - 1) * m < n * m := by omega
      have := Nat.lt_of_mul_lt_mul_right this
      omega
    have hB1 : runB p m fr (lim m c u) = pageS p (fr i).kd (fr i).a (fr i).b (fr i).t := by rw [hl, runB_frame p m fr (c - 1) (u + 1) (by omega) (by omega), show (c - 1) * m + (u + 1) - 1 = i by omega]
    have hin : ((lim m c u : Nat) : Int) < s * (n : Nat) := by
      have := slot_in (n := n) (m := m) (c := c) (u := u + 1) hs h2 hcn (by omega)
      rw [hl]
      exact this
    have hb120 := (mul_sr hR).2.1
    have p1 := run_prog (p := p) (s := s) (n := (n : Nat)) (B := runB p m fr) (k := lim m c u) (fz := fz) hR hin (by rw [hB1]; exact hps) (fun N hN => by have := hf N hN; omega)
    have H := trun_go hs t h2 hcn h1 hl (by omega) hsz hx.a1 hx.b1 (by rw [hB1]; exact hfb) (by rw [hB1]; exact hps) _ 0 p1
    refine H.mono ?_
    rintro e w' ⟨e1, v2, t2⟩
    refine ⟨by rw [e1, if_pos rfl, hpg, hl]; rfl, c, u + 1, v2, ⟨h3, ?_⟩, ?_⟩
    · have hl2 : lim m c (u + 1) = lim m c u + 1 := by rw [hl]; unfold lim; rw [if_neg (by omega)]
      rw [hl2]
      exact t2
    · unfold lim
      rw [if_neg (by omega), hpg]
      omega
theorem run_appblow (hR : RightG p s n) (hs : s = (m : Int) + 1) (hm : 2 ≤ m) (N : Nat) (t : RunAt X w0 W tb g ib ic h q p s n m fr (some N) i c u v) (hi : i < n * m) (hx : FmOk p (fr i)) (hl0 : lim m c u ≤ N) (hN : N ≤ pgOf m i) :
    Calls Try.prog 24 #[.pointer (some ⟨tb, 0, none⟩), frv (fr i).kd (fr i).a (fr i).b (fr i).t] W fun e w' => e = .returned (.tuple #[.int .i64 0, .int .i64 6]) ∧ ∃ v' l' o', TpS X w0 w' tb g ib ic h q p s (blownDev p s (n : Nat) (runB p m fr) (N + 1)) v' l' o' := by
  obtain ⟨hp, t⟩ := t
  obtain ⟨r1, r2, r3, r4, r5, r6⟩ := id hR
  have hn12 : n ≤ 12 := by omega
  have hm9 : m ≤ 9 := by omega
  have hpg := pos_pg hp (by omega)
  have hsz : (fr i).t.size ≤ 9223372036854775807 := by have := hx.room; omega
  have hfb := hx.fb hR
  have hps := pageS_size (hx.pg hR)
  rcases pos_next hp (by omega) with ⟨h1, h2, h3⟩ | ⟨h1, h2, h3⟩
  · obtain ⟨k1, k2, k3⟩ := pos_full hp h1 hi
    rw [if_pos h1] at hpg
    subst h1
    have hB1 : runB p u fr (c * (u + 1) + 1) = pageS p (fr i).kd (fr i).a (fr i).b (fr i).t := by rw [runB_frame p u fr c 1 (by omega) (by omega), Nat.add_sub_cancel, ← h3]
    have hH := runB_head p u fr c
    have hin : ((c * (u + 1) + 1 : Nat) : Int) < s * (n : Nat) := by
      have := slot_in (n := n) (m := u) (c := c + 1) (u := 1) hs (by omega) (by omega) (by omega)
      rw [Nat.add_sub_cancel] at this
      exact this
    have hb120 := (mul_sr hR).2.1
    rw [k2] at t hl0
    have hHs : ((runB p u fr (c * (u + 1))).size : Int) = p := by rw [hH]; exact headP_size hR _ _ (by omega) (by omega)
    have hBs : ((runB p u fr (c * (u + 1) + 1)).size : Int) = p := by rw [hB1]; exact hps
    by_cases hN1 : N = c * (u + 1)
    · subst hN1
      have p1 := run_blow (p := p) (s := s) (n := (n : Nat)) (B := runB p u fr) (k := c * (u + 1)) hR (by omega) hHs
      have H := trun_opn1 hs t k1 rfl (by omega) hsz hx.a1 hx.b1 _ hfb hH _ 6 (by omega) p1
      refine H.mono ?_
      rintro e w' ⟨e1, v2, t2⟩
      exact ⟨e1, v2, _, _, t2⟩
    · obtain rfl : N = c * (u + 1) + 1 := by omega
      have p1 := run_prog (p := p) (s := s) (n := (n : Nat)) (B := runB p u fr) (k := c * (u + 1)) (fz := some (c * (u + 1) + 1)) hR (by omega) hHs (fun N hN => by injection hN with hN; omega)
      have p2 := run_blow (p := p) (s := s) (n := (n : Nat)) (B := runB p u fr) (k := c * (u + 1) + 1) hR hin hBs
      have H := trun_opn2 hs t k1 rfl (by omega) hsz hx.a1 hx.b1 (by rw [hB1]; exact hfb) hBs hH _ 6 p1 p2
      refine H.mono ?_
      rintro e w' ⟨e1, v2, t2⟩
      exact ⟨by rw [e1, if_neg (by omega)], v2, _, _, t2⟩
  · rw [if_neg (by omega)] at hpg
    have hl : lim m c u = (c - 1) * (m + 1) + (u + 1) := by unfold lim; rw [if_neg (by omega)]; omega
    have hi2 : i = (c - 1) * m + u := by
      rcases hp with ⟨a1, a2, a3⟩ | ⟨a1, a2, a3, a4⟩
      · omega
      · exact a4
    have hcn : c ≤ n := by
      have : (c - 1) * m < n * m := by omega
      have := Nat.lt_of_mul_lt_mul_right this
      omega
    have hB1 : runB p m fr (lim m c u) = pageS p (fr i).kd (fr i).a (fr i).b (fr i).t := by rw [hl, runB_frame p m fr (c - 1) (u + 1) (by omega) (by omega), show (c - 1) * m + (u + 1) - 1 = i by omega]
    have hin : ((lim m c u : Nat) : Int) < s * (n : Nat) := by
      have := slot_in (n := n) (m := m) (c := c) (u := u + 1) hs h2 hcn (by omega)
      rw [hl]
      exact this
    have hb120 := (mul_sr hR).2.1
    obtain rfl : N = lim m c u := by omega
    have p1 := run_blow (p := p) (s := s) (n := (n : Nat)) (B := runB p m fr) (k := lim m c u) hR hin (by rw [hB1]; exact hps)
    have H := trun_go hs t h2 hcn h1 hl (by omega) hsz hx.a1 hx.b1 (by rw [hB1]; exact hfb) (by rw [hB1]; exact hps) _ 6 p1
    refine H.mono ?_
    rintro e w' ⟨e1, v2, t2⟩
    exact ⟨by rw [e1, if_neg (by omega)], v2, _, _, t2⟩
end
end Go.Proofs.Ytecelmhiffcaeaa
