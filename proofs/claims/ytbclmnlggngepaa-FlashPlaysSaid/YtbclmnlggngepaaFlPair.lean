/- Two devices in memory, the program's and the reference's, and what their calls leave. -/
import Derived.Test.YtbclmnlggngepaaRFl8
import Derived.Test.YtbclmnlggngepaaRel3
namespace Go.Proofs.Ytbclmnlggngepaa
open Go.RowKit
set_option linter.unusedVariables false

/-! Each page is pending at most once. -/
def NdD (d : Dev) : Prop := (d.row.map (·.1)).Nodup
theorem nodup_len : ∀ (n : Nat) (l : List Int), l.Nodup → (∀ x ∈ l, 0 ≤ x ∧ x < n) → l.length ≤ n
  | 0, l, _, h => by
    rcases l with _ | ⟨x, l⟩
    · exact Nat.le_refl _
    · have := h x (List.mem_cons_self ..)
      omega
  | n + 1, l, hn, h => by
    have ih := nodup_len n (l.erase (n : Int)) (hn.erase _) (fun x hx => by
      rw [hn.mem_erase_iff] at hx
      have := h x hx.2
      have := hx.1
      omega)
    by_cases hm : (n : Int) ∈ l
    · rw [List.length_erase_of_mem hm] at ih
      omega
    · rw [List.erase_of_not_mem hm] at ih
      omega
theorem nd_len {p s r : Int} {d : Dev} (ok : DevOk p s r d) (nd : NdD d) : d.row.length ≤ 120 := by
  have h := nodup_len (s * r).toNat (d.row.map (fun x : Int × ByteArray => x.1)) nd (fun x hx => by
    obtain ⟨y, hy, rfl⟩ := List.mem_map.1 hx
    have := ok.rows y hy
    omega)
  rw [List.length_map] at h
  have := (mul_sr ok.right).2.1
  omega
theorem pend_none (page : Int) : ∀ (row : Rw), pend row page = none → ∀ x ∈ row, x.1 ≠ page := by
  have key : ∀ (l : Rw) (acc : Option ByteArray), l.foldl (fun acc x => if x.1 = page then some x.2 else acc) acc = none → acc = none ∧ ∀ x ∈ l, x.1 ≠ page := by
    intro l
    induction l with
    | nil => intro acc h; exact ⟨h, fun x hx => by cases hx⟩
    | cons x l ih =>
      intro acc h
      rw [List.foldl_cons] at h
      obtain ⟨h1, h2⟩ := ih _ h
      by_cases hx : x.1 = page
      · rw [if_pos hx] at h1; cases h1
      · rw [if_neg hx] at h1
        refine ⟨h1, fun y hy => ?_⟩
        rcases List.mem_cons.1 hy with rfl | hy
        · exact hx
        · exact h2 y hy
  exact fun row h => (key row none h).2
theorem nd_of_row {d d' : Dev} (h : d'.row = d.row) (nd : NdD d) : NdD d' := by unfold NdD; rw [h]; exact nd
theorem nd_nil {d : Dev} (h : d.row = []) : NdD d := by unfold NdD; rw [h]; exact List.nodup_nil
theorem nd_program {p s r : Int} {d : Dev} (nd : NdD d) (page : Int) (b : ByteArray) : NdD (programD p s r d page b).1 := by
  unfold programD
  split
  · exact nd
  · split
    · exact nd
    · split
      · exact nd
      · rename_i h3
        refine nd_of_row (d := { d with row := d.row ++ [(page, b)] }) (countD_same _).2 ?_
        have hp : pend d.row page = none := by
          rcases pend_or d.row page with ⟨h1, _⟩ | ⟨b', _, h2⟩
          · exact h1
          · rw [h2] at h3; exact absurd (Or.inl rfl) h3
        unfold NdD
        rw [List.map_append, List.nodup_append]
        refine ⟨nd, by simp, fun a ha c hc => ?_⟩
        obtain ⟨x, hx, rfl⟩ := List.mem_map.1 ha
        have hc : c = page := by simpa using hc
        rw [hc]
        exact pend_none page d.row hp x hx
theorem newRows_nd (p fr : Int) (k : Nat) : ((newRows p fr k).map (·.1)).Nodup := by
  induction k with
  | zero => exact List.nodup_nil
  | succ k ih =>
    rw [newRows_succ, List.map_append, List.nodup_append]
    refine ⟨ih, by simp, fun a ha c hc => ?_⟩
    have hc : c = fr + (k : Int) := by simpa using hc
    simp only [newRows, List.map_map, List.mem_map, List.mem_range] at ha
    obtain ⟨i, hi, rfl⟩ := ha
    rw [hc]
    simp only [Function.comp]
    omega
theorem nd_erase {p s r : Int} {d : Dev} (nd : NdD d) (region : Int) (hs : 0 ≤ s) : NdD (eraseD p s r d region).1 := by
  unfold eraseD
  split
  · exact nd
  · split
    · exact nd
    · split
      · exact nd
      · rename_i h3
        split
        · unfold NdD
          show (((countD d).1.row ++ newRows p (region * s) s.toNat).map (·.1)).Nodup
          rw [(countD_same d).2, List.map_append, List.nodup_append]
          refine ⟨nd, newRows_nd _ _ _, fun a ha c hc => ?_⟩
          obtain ⟨x, hx, rfl⟩ := List.mem_map.1 ha
          simp only [newRows, List.map_map, List.mem_map, List.mem_range] at hc
          obtain ⟨i, hi, rfl⟩ := hc
          intro he
          refine h3 ⟨x, hx, ?_⟩
          unfold inReg
          rw [he]
          simp only [Function.comp]
          omega
        · exact nd_of_row (countD_same d).2 nd
theorem nd_flush {p : Int} {d : Dev} (nd : NdD d) : NdD (flushD p d).1 := by
  unfold flushD
  split
  · exact nd
  · split
    · exact nd_of_row (countD_same d).2 nd
    · exact nd_nil rfl
theorem nd_rot {p s r : Int} {d : Dev} (nd : NdD d) (page a x : Int) : NdD (rotD p s r d page a x).1 := by
  unfold rotD
  split
  · exact nd
  · exact nd_of_row rfl nd

/-- Both devices: the program's at d1, the reference's standing for d2. -/
structure FPair (w0 W : World) (g ib ic h hb hc : Nat) (p s r : Int) (d1 d2 : Dev) (v v' : Value) : Prop where
  fl : FlS w0 W g ib ic p s r d1 v
  rf : RfS w0 W h hb hc p s r d2 v'
  dj : ∀ x ∈ foot g ib v, x ∉ foot h hb v'
theorem foot_new {W W' : World} {g ib : Nat} {v v1 : Value} (m : FlMv W W' g ib v v1) (x : Nat) (hx : x ∈ foot g ib v1) : x ∈ foot g ib v ∨ W.heap.size ≤ x := by
  simp only [foot, List.mem_cons, Option.mem_toList] at hx ⊢
  rcases hx with rfl | rfl | hx
  · exact Or.inl (Or.inl rfl)
  · exact Or.inl (Or.inr (Or.inl rfl))
  · rcases m.2 x (by simpa using hx) with h1 | h1
    · exact Or.inl (Or.inr (Or.inr (by simpa using h1)))
    · exact Or.inr h1
section
variable {w0 W W' : World} {g ib ic h hb hc : Nat} {p s r : Int} {d d1 d2 d3 : Dev} {v v' v1 : Value}
theorem FPair.keep (t : FPair w0 W g ib ic h hb hc p s r d1 d2 v v') (k : Kp W W') : FPair w0 W' g ib ic h hb hc p s r d1 d2 v v' := ⟨t.fl.keep k, t.rf.keep k, t.dj⟩
theorem FPair.stepF (t : FPair w0 W g ib ic h hb hc p s r d1 d2 v v') (h' : FlAt W' g ib ic p s r d3 v1) (m : FlMv W W' g ib v v1) (ok : DevOk p s r d3) : FPair w0 W' g ib ic h hb hc p s r d3 d2 v1 v' := by
  have hlt := t.rf.foot_lt
  have hdj : ∀ x ∈ foot h hb v', x ∉ foot g ib v := fun x hx hy => t.dj x hy hx
  obtain ⟨d', k1, k2⟩ := t.rf.at_
  refine ⟨t.fl.step h' m ok, ⟨⟨d', k1.mv m.1 hdj, k2⟩, t.rf.ok, (FlMv.kp t.fl.kp t.fl.new m).1, t.rf.new⟩, fun x hx hy => ?_⟩
  rcases foot_new m x hx with h1 | h1
  · exact t.dj x h1 hy
  · have := hlt x hy
    omega
theorem FPair.stepR (t : FPair w0 W g ib ic h hb hc p s r d1 d2 v v') {d' : Dev} (h' : RfX W' h hb hc p s r d' v1) (hr : DRel d3 d') (m : FlMv W W' h hb v' v1) (ok : DevOk p s r d3) : FPair w0 W' g ib ic h hb hc p s r d1 d3 v v1 := by
  have hlt := t.fl.at_.foot_lt
  refine ⟨⟨t.fl.at_.mv m.1 t.dj, t.fl.ok, (FlMv.kp t.rf.kp t.rf.new m).1, t.fl.new⟩, t.rf.step h' m hr ok, fun x hx hy => ?_⟩
  rcases foot_new m x hy with h1 | h1
  · exact t.dj x hx h1
  · have := hlt x hx
    omega
theorem prog_PF (t : FPair w0 W g ib ic h hb hc p s r d d2 v v') (hl : d.row.length < 100000) (page : Int) (b : ByteArray) (hbs : b.size ≤ 9223372036854775807) :
    Calls Try.prog 24 #[.pointer (some ⟨g, 0, none⟩), .int .i64 page, .string b] W fun e w' => e = .returned (.int .i64 (programD p s r d page b).2) ∧ ∃ v1, FPair w0 w' g ib ic h hb hc p s r (programD p s r d page b).1 d2 v1 v' ∧ FlMv W w' g ib v v1 := by
  refine (fprogram t.fl.at_ t.fl.ok page b hbs).mono ?_
  rintro e w' ⟨h1, v1, h2, h3⟩
  exact ⟨h1, v1, t.stepF h2 h3 (programD_ok t.fl.ok page b hl), h3⟩
theorem prog_PR (t : FPair w0 W g ib ic h hb hc p s r d1 d v v') (hl : d.row.length < 100000) (page : Int) (b : ByteArray) (hbs : b.size ≤ 9223372036854775807) :
    Calls Try.prog 48 #[.pointer (some ⟨h, 0, none⟩), .int .i64 page, .string b] W fun e w' => e = .returned (.int .i64 (programD p s r d page b).2) ∧ ∃ v1, FPair w0 w' g ib ic h hb hc p s r d1 (programD p s r d page b).1 v v1 := by
  obtain ⟨d', k1, k2⟩ := t.rf.at_
  refine (rprog_R k1 k2 t.rf.ok page b hbs).mono ?_
  rintro e w' ⟨h1, v1, d'', h2, h3, h4⟩
  exact ⟨h1, v1, t.stepR h2 h3 h4 (programD_ok t.rf.ok page b hl)⟩
theorem erase_PF (t : FPair w0 W g ib ic h hb hc p s r d d2 v v') (hl : d.row.length ≤ 99990) (region : Int) :
    Calls Try.prog 22 #[.pointer (some ⟨g, 0, none⟩), .int .i64 region] W fun e w' => e = .returned (.int .i64 (eraseD p s r d region).2) ∧ ∃ v1, FPair w0 w' g ib ic h hb hc p s r (eraseD p s r d region).1 d2 v1 v' ∧ FlMv W w' g ib v v1 := by
  refine (ferase t.fl.at_ t.fl.ok region).mono ?_
  rintro e w' ⟨h1, v1, h2, h3⟩
  exact ⟨h1, v1, t.stepF h2 h3 (eraseD_ok t.fl.ok region hl), h3⟩
theorem erase_PR (t : FPair w0 W g ib ic h hb hc p s r d1 d v v') (hl : d.row.length ≤ 99990) (region : Int) :
    Calls Try.prog 42 #[.pointer (some ⟨h, 0, none⟩), .int .i64 region] W fun e w' => e = .returned (.int .i64 (eraseD p s r d region).2) ∧ ∃ v1, FPair w0 w' g ib ic h hb hc p s r d1 (eraseD p s r d region).1 v v1 := by
  obtain ⟨d', k1, k2⟩ := t.rf.at_
  refine (rerase_R k1 k2 t.rf.ok region).mono ?_
  rintro e w' ⟨h1, v1, d'', h2, h3, h4⟩
  exact ⟨h1, v1, t.stepR h2 h3 h4 (eraseD_ok t.rf.ok region hl)⟩
theorem flush_PF (t : FPair w0 W g ib ic h hb hc p s r d d2 v v') :
    Calls Try.prog 25 #[.pointer (some ⟨g, 0, none⟩)] W fun e w' => e = .returned (.int .i64 (flushD p d).2) ∧ ∃ v1, FPair w0 w' g ib ic h hb hc p s r (flushD p d).1 d2 v1 v' ∧ FlMv W w' g ib v v1 := by
  refine (fflush t.fl.at_ t.fl.ok).mono ?_
  rintro e w' ⟨h1, v1, h2, h3⟩
  exact ⟨h1, v1, t.stepF h2 h3 (flushD_ok t.fl.ok), h3⟩
theorem flush_PR (t : FPair w0 W g ib ic h hb hc p s r d1 d v v') :
    Calls Try.prog 43 #[.pointer (some ⟨h, 0, none⟩)] W fun e w' => e = .returned (.int .i64 (flushD p d).2) ∧ ∃ v1, FPair w0 w' g ib ic h hb hc p s r d1 (flushD p d).1 v v1 := by
  obtain ⟨d', k1, k2⟩ := t.rf.at_
  refine (rflush_R k1 k2 t.rf.ok).mono ?_
  rintro e w' ⟨h1, v1, d'', h2, h3, h4⟩
  exact ⟨h1, v1, t.stepR h2 h3 h4 (flushD_ok t.rf.ok)⟩
theorem fuse_PF (t : FPair w0 W g ib ic h hb hc p s r d d2 v v') (n : Int) (hn : n ≤ 9223372036854775807) :
    Calls Try.prog 21 #[.pointer (some ⟨g, 0, none⟩), .int .i64 n] W fun e w' => e = .returned (.tuple #[]) ∧ FPair w0 w' g ib ic h hb hc p s r (fuseD d n) d2 v v' ∧ FlMv W w' g ib v v := by
  refine (ffuse t.fl.at_ n).mono ?_
  rintro e w' ⟨h1, h2, h3⟩
  exact ⟨h1, t.stepF h2 h3 (fuseD_ok t.fl.ok n hn), h3⟩
theorem fuse_PR (t : FPair w0 W g ib ic h hb hc p s r d1 d v v') (n : Int) (hn : n ≤ 9223372036854775807) :
    Calls Try.prog 45 #[.pointer (some ⟨h, 0, none⟩), .int .i64 n] W fun e w' => e = .returned (.tuple #[]) ∧ FPair w0 w' g ib ic h hb hc p s r d1 (fuseD d n) v v' := by
  obtain ⟨d', k1, k2⟩ := t.rf.at_
  refine (rfuse k1 n).mono ?_
  rintro e w' ⟨h1, h2, h3⟩
  exact ⟨h1, t.stepR h2 (rel_fuse k2 n hn) h3 (fuseD_ok t.rf.ok n hn)⟩
theorem crash_PF (t : FPair w0 W g ib ic h hb hc p s r d d2 v v') (A : Option Addr) (cM : Nat) (mask : List Int) (hM : NumsAt .i64 w0 A mask) (hmw : ∀ x ∈ mask, -9223372036854775808 ≤ x ∧ x ≤ 9223372036854775807) :
    Calls Try.prog 23 #[.pointer (some ⟨g, 0, none⟩), .slice A mask.length cM] W fun e w' => e = .returned (.tuple #[]) ∧ ∃ v1, FPair w0 w' g ib ic h hb hc p s r (crashD p d mask) d2 v1 v' ∧ FlMv W w' g ib v v1 := by
  have hM2 : NumsAt .i64 W A mask := hM.mv (Mv.of (S := []) t.fl.kp) (fun _ q _ hm => by cases hm)
  have hA : 0 < mask.length → ∀ q, A = some q → q.block ∉ foot g ib v := fun hn q hq hm => by
    obtain ⟨b, off, e, hc⟩ := hM.2 hn
    have h1 := World.block_lt_of_cell? _ _ (hc 0 hn)
    have h2 := t.fl.new _ hm
    rw [e] at hq
    injection hq with hq
    rw [← hq] at h2
    simp only at h1 h2
    omega
  refine (fcrash t.fl.at_ t.fl.ok A cM mask hM2 hA hmw).mono ?_
  rintro e w' ⟨h1, v1, h2, h3⟩
  exact ⟨h1, v1, t.stepF h2 h3 (crashD_ok t.fl.ok mask), h3⟩
theorem crash_PR (t : FPair w0 W g ib ic h hb hc p s r d1 d v v') (A : Option Addr) (cM : Nat) (mask : List Int) (hM : NumsAt .i64 w0 A mask) (hmw : ∀ x ∈ mask, -9223372036854775808 ≤ x ∧ x ≤ 9223372036854775807) :
    Calls Try.prog 44 #[.pointer (some ⟨h, 0, none⟩), .slice A mask.length cM] W fun e w' => e = .returned (.tuple #[]) ∧ ∃ v1, FPair w0 w' g ib ic h hb hc p s r d1 (crashD p d mask) v v1 := by
  have hM2 : NumsAt .i64 W A mask := hM.mv (Mv.of (S := []) t.fl.kp) (fun _ q _ hm => by cases hm)
  have hA : 0 < mask.length → ∀ q, A = some q → q.block ∉ foot h hb v' := fun hn q hq hm => by
    obtain ⟨b, off, e, hc⟩ := hM.2 hn
    have h1 := World.block_lt_of_cell? _ _ (hc 0 hn)
    have h2 := t.rf.new _ hm
    rw [e] at hq
    injection hq with hq
    rw [← hq] at h2
    simp only at h1 h2
    omega
  obtain ⟨d', k1, k2⟩ := t.rf.at_
  refine (rcrash k1 (k2.ok t.rf.ok) A cM mask hM2 hA hmw).mono ?_
  rintro e w' ⟨h1, v1, h2, h3⟩
  exact ⟨h1, v1, t.stepR h2 (rel_crash k2 mask) h3 (crashD_ok t.rf.ok mask)⟩
theorem rot_PF (t : FPair w0 W g ib ic h hb hc p s r d d2 v v') (page a x : Int) (hx : 0 ≤ x ∧ x ≤ 255) (ha9 : a ≤ 9223372036854775807) :
    Calls Try.prog 29 #[.pointer (some ⟨g, 0, none⟩), .int .i64 page, .int .i64 a, .int .u8 x] W fun e w' => e = .returned (.int .i64 (rotD p s r d page a x).2) ∧ FPair w0 w' g ib ic h hb hc p s r (rotD p s r d page a x).1 d2 v v' ∧ FlMv W w' g ib v v := by
  refine (frot t.fl.at_ t.fl.ok page a x hx ha9).mono ?_
  rintro e w' ⟨h1, h2, h3⟩
  exact ⟨h1, t.stepF h2 h3 (rotD_ok t.fl.ok page a x hx), h3⟩
theorem rot_PR (t : FPair w0 W g ib ic h hb hc p s r d1 d v v') (page a x : Int) (hx : 0 ≤ x ∧ x ≤ 255) (ha9 : a ≤ 9223372036854775807) :
    Calls Try.prog 46 #[.pointer (some ⟨h, 0, none⟩), .int .i64 page, .int .i64 a, .int .u8 x] W fun e w' => e = .returned (.int .i64 (rotD p s r d page a x).2) ∧ ∃ v1, FPair w0 w' g ib ic h hb hc p s r d1 (rotD p s r d page a x).1 v v1 := by
  obtain ⟨d', k1, k2⟩ := t.rf.at_
  refine (rrot_R k1 k2 t.rf.ok page a x hx ha9).mono ?_
  rintro e w' ⟨h1, v1, d'', h2, h3, h4⟩
  exact ⟨h1, v1, t.stepR h2 h3 h4 (rotD_ok t.rf.ok page a x hx)⟩
theorem read_PF (t : FPair w0 W g ib ic h hb hc p s r d d2 v v') (page : Int) :
    Calls Try.prog 26 #[.pointer (some ⟨g, 0, none⟩), .int .i64 page] W fun e w' => e = .returned (.tuple #[.string (readD p s r d page).1, .int .i64 (readD p s r d page).2]) ∧ Kp W w' :=
  fread_any t.fl.at_ t.fl.ok page
theorem read_PR (t : FPair w0 W g ib ic h hb hc p s r d1 d v v') (page : Int) :
    Calls Try.prog 47 #[.pointer (some ⟨h, 0, none⟩), .int .i64 page] W fun e w' => e = .returned (.tuple #[.string (readD p s r d page).1, .int .i64 (readD p s r d page).2]) ∧ Kp W w' := by
  obtain ⟨d', k1, k2⟩ := t.rf.at_
  have := rread k1 (k2.ok t.rf.ok) page
  rw [rel_read k2] at this
  exact this
end
end Go.Proofs.Ytbclmnlggngepaa
