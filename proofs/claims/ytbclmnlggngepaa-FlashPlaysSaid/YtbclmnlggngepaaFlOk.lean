/- What is kept by the calls of a device; the calls, as laws take them; 'tiny', 'alive'. -/
import Derived.Test.YtbclmnlggngepaaFlash9
namespace Go.Proofs.Ytbclmnlggngepaa
open Go.RowKit
set_option linter.unusedVariables false

section
variable {p s r : Int} {d : Dev}
theorem countD_ok (ok : DevOk p s r d) : DevOk p s r (countD d).1 := by
  obtain ⟨h1, h2, h3, h4, h5, h6⟩ := ok
  unfold countD
  split
  · exact ⟨h1, h2, h3, h4, h5, h6⟩
  · split
    · exact ⟨h1, h2, h3, h4, fun hx => by simp at hx, h6⟩
    · rename_i hs hz
      refine ⟨h1, h2, h3, h4, fun hx => ?_, h6⟩
      have := h5 hx
      dsimp only at hx this ⊢
      omega
theorem push_ok (ok : DevOk p s r d) (page : Int) (b : ByteArray) (h0 : 0 ≤ page) (h1 : page < s * r) (hb : (b.size : Int) = p) (hl : d.row.length < 100000) : DevOk p s r { d with row := d.row ++ [(page, b)] } := by
  refine ⟨ok.right, ok.len, ok.byt, fun x hx => ?_, ok.left, by simp; omega⟩
  simp only [List.mem_append, List.mem_singleton] at hx
  rcases hx with hx | rfl
  · exact ok.rows x hx
  · exact ⟨h0, h1, hb⟩
theorem read_ok {page : Int} (h : (readD p s r d page).2 = 0) : d.down = false ∧ 0 ≤ page ∧ page < s * r := by
  unfold readD at h
  split at h
  · simp at h
  · split at h
    · simp at h
    · rename_i h1 h2
      refine ⟨by simpa using h1, by omega, by omega⟩
theorem programD_ok (ok : DevOk p s r d) (page : Int) (b : ByteArray) (hl : d.row.length < 100000) : DevOk p s r (programD p s r d page b).1 := by
  unfold programD
  split
  · exact ok
  · rename_i h1
    split
    · exact ok
    · rename_i h2
      split
      · exact ok
      · obtain ⟨-, h3, h4⟩ := read_ok (by simpa using h1)
        exact countD_ok (push_ok ok page b h3 h4 (by simpa using h2) hl)
theorem programD_rl (page : Int) (b : ByteArray) : (programD p s r d page b).1.row.length ≤ d.row.length + 1 := by
  unfold programD
  split
  · simp
  · split
    · simp
    · split
      · simp
      · rw [(countD_same _).2]; simp
theorem flushD_ok (ok : DevOk p s r d) : DevOk p s r (flushD p d).1 := by
  have h := countD_ok ok
  unfold flushD
  split
  · exact ok
  · split
    · exact h
    · refine ⟨h.right, ?_, doAll_mem _ _ h.byt, fun x hx => absurd hx (by simp), h.left, by simp⟩
      show ((doAll p (countD d).1.img (countD d).1.row).length : Int) = _
      rw [doAll_len h.right _ _ h.len h.rows]
      exact h.len
theorem crashD_ok (ok : DevOk p s r d) (mask : List Int) : DevOk p s r (crashD p d mask) := by
  refine ⟨ok.right, ?_, crK_mem _ _ _ ok.byt _, fun x hx => absurd hx (by simp [crashD]), fun hx => by simp [crashD] at hx, by simp [crashD]⟩
  show ((crK p d.img d.row mask d.row.length).length : Int) = _
  rw [crK_len ok.right _ _ _ ok.len ok.rows]
  exact ok.len
theorem fuseD_ok (ok : DevOk p s r d) (n : Int) (hn : n ≤ 9223372036854775807) : DevOk p s r (fuseD d n) :=
  ⟨ok.right, ok.len, ok.byt, ok.rows, fun hx => by unfold fuseD at hx ⊢; simp at hx; exact ⟨hx, hn⟩, ok.rl⟩
theorem eraseD_ok (ok : DevOk p s r d) (region : Int) (hl : d.row.length ≤ 99990) : DevOk p s r (eraseD p s r d region).1 := by
  have h := countD_ok ok
  unfold eraseD
  split
  · exact ok
  · split
    · exact ok
    · rename_i h1 h2
      obtain ⟨b1, b2, b3, b4, b5⟩ := reg_bd ok.right (show 0 ≤ region by omega) (by omega)
      have hp : 0 ≤ p := by have := ok.right; unfold RightG at this; omega
      have hm := newRows_mem (k := s.toNat) hp b1 (show region * s + (s.toNat : Int) ≤ s * r by omega)
      split
      · exact ok
      · split
        · refine ⟨h.right, h.len, h.byt, fun x hx => ?_, h.left, ?_⟩
          · simp only [List.mem_append] at hx
            rcases hx with hx | hx
            · exact h.rows x hx
            · exact hm x hx
          · show ((countD d).1.row ++ newRows p (region * s) s.toNat).length ≤ _
            rw [List.length_append, newRows_len, (countD_same d).2]
            omega
        · refine ⟨h.right, ?_, doAll_mem _ _ h.byt, h.rows, h.left, h.rl⟩
          show ((doAll p (countD d).1.img (newRows p (region * s) s.toNat)).length : Int) = _
          rw [doAll_len h.right _ _ h.len hm]
          exact h.len
theorem eraseD_rl (ok : DevOk p s r d) (region : Int) : (eraseD p s r d region).1.row.length ≤ d.row.length + 10 := by
  have hs : s ≤ 10 := by have := ok.right; unfold RightG at this; omega
  unfold eraseD
  split
  · simp
  · split
    · simp
    · split
      · simp
      · split
        · show ((countD d).1.row ++ newRows p (region * s) s.toNat).length ≤ _
          rw [List.length_append, newRows_len, (countD_same d).2]
          omega
        · show ((countD d).1.row).length ≤ _
          rw [(countD_same d).2]
          omega
theorem u8_xor_lt {a b : Nat} (ha : a < 256) (hb : b < 256) : a ^^^ b < 256 := Nat.xor_lt_two_pow (n := 8) ha hb
theorem rotD_ok (ok : DevOk p s r d) (page a x : Int) (hx : 0 ≤ x ∧ x ≤ 255) : DevOk p s r (rotD p s r d page a x).1 := by
  unfold rotD
  split
  · exact ok
  · refine ⟨ok.right, by simpa using ok.len, fun n hn => ?_, ok.rows, ok.left, ok.rl⟩
    dsimp only at hn
    rcases List.mem_or_eq_of_mem_set hn with h | h
    · exact ok.byt n h
    · rw [h]
      refine u8_xor_lt ?_ (by omega)
      rw [List.getD_eq_getElem?_getD]
      cases hg : d.img[(page * p + a).toNat]? with
      | none => show (0 : Nat) < 256; omega
      | some y => exact ok.byt y (List.mem_of_getElem? hg)
end

/-- A device that a law has made: all of it is new. -/
structure FlS (w0 W : World) (g ib ic : Nat) (p s r : Int) (d : Dev) (v : Value) : Prop where
  at_ : FlAt W g ib ic p s r d v
  ok : DevOk p s r d
  kp : Kp w0 W
  new : ∀ b ∈ foot g ib v, w0.heap.size ≤ b
section
variable {w0 W W' : World} {g ib ic : Nat} {p s r : Int} {d d' : Dev} {v v' : Value}
theorem FlS.keep (h : FlS w0 W g ib ic p s r d v) (k : Kp W W') : FlS w0 W' g ib ic p s r d v := ⟨h.at_.keep k, h.ok, h.kp.trans k, h.new⟩
theorem FlS.step (h : FlS w0 W g ib ic p s r d v) (h' : FlAt W' g ib ic p s r d' v') (m : FlMv W W' g ib v v') (ok : DevOk p s r d') : FlS w0 W' g ib ic p s r d' v' := by
  obtain ⟨a, b⟩ := FlMv.kp h.kp h.new m
  exact ⟨h', ok, a, b⟩
theorem new_S (h : RightG p s r) (image : ByteArray) (hl : (image.size : Int) ≤ p * s * r) (w : World) :
    Calls Try.prog 11 #[geo p s r, .string image] w fun e w' => ∃ g ib ic v, e = .returned (.tuple #[.pointer (some ⟨g, 0, none⟩), .int .i64 0]) ∧ FlS w w' g ib ic p s r (newD p s r image) v := by
  refine (fnew_yes p s r h image hl w).mono ?_
  rintro e w' ⟨g, ib, ic, h1, h2, h3, h4, h5⟩
  refine ⟨g, ib, ic, _, h1, h4, newD_ok h image hl, h5, ?_⟩
  intro b hb
  simp [foot, Value.ownBlock] at hb
  omega
theorem prog_S (h : FlS w0 W g ib ic p s r d v) (hl : d.row.length < 100000) (page : Int) (b : ByteArray) (hb : b.size ≤ 9223372036854775807) :
    Calls Try.prog 24 #[.pointer (some ⟨g, 0, none⟩), .int .i64 page, .string b] W fun e w' => ∃ v', e = .returned (.int .i64 (programD p s r d page b).2) ∧ FlS w0 w' g ib ic p s r (programD p s r d page b).1 v' := by
  refine (fprogram h.at_ h.ok page b hb).mono ?_
  rintro e w' ⟨h1, v', h2, h3⟩
  exact ⟨v', h1, h.step h2 h3 (programD_ok h.ok page b hl)⟩
theorem flush_S (h : FlS w0 W g ib ic p s r d v) :
    Calls Try.prog 25 #[.pointer (some ⟨g, 0, none⟩)] W fun e w' => ∃ v', e = .returned (.int .i64 (flushD p d).2) ∧ FlS w0 w' g ib ic p s r (flushD p d).1 v' := by
  refine (fflush h.at_ h.ok).mono ?_
  rintro e w' ⟨h1, v', h2, h3⟩
  exact ⟨v', h1, h.step h2 h3 (flushD_ok h.ok)⟩
theorem erase_S (h : FlS w0 W g ib ic p s r d v) (hl : d.row.length ≤ 99990) (region : Int) :
    Calls Try.prog 22 #[.pointer (some ⟨g, 0, none⟩), .int .i64 region] W fun e w' => ∃ v', e = .returned (.int .i64 (eraseD p s r d region).2) ∧ FlS w0 w' g ib ic p s r (eraseD p s r d region).1 v' := by
  refine (ferase h.at_ h.ok region).mono ?_
  rintro e w' ⟨h1, v', h2, h3⟩
  exact ⟨v', h1, h.step h2 h3 (eraseD_ok h.ok region hl)⟩
theorem crash_S (h : FlS w0 W g ib ic p s r d v) (A : Option Addr) (cM : Nat) (mask : List Int) (hM : NumsAt .i64 W A mask) (hA : 0 < mask.length → ∀ q, A = some q → q.block ∉ foot g ib v) (hmw : ∀ x ∈ mask, -9223372036854775808 ≤ x ∧ x ≤ 9223372036854775807) :
    Calls Try.prog 23 #[.pointer (some ⟨g, 0, none⟩), .slice A mask.length cM] W fun e w' => ∃ v', e = .returned (.tuple #[]) ∧ FlS w0 w' g ib ic p s r (crashD p d mask) v' := by
  refine (fcrash h.at_ h.ok A cM mask hM hA hmw).mono ?_
  rintro e w' ⟨h1, v', h2, h3⟩
  exact ⟨v', h1, h.step h2 h3 (crashD_ok h.ok mask)⟩
/-- A mask of one number, made just now. -/
theorem crash1_S (h : FlS w0 W g ib ic p s r d v) (m : Int) (hm : -9223372036854775808 ≤ m ∧ m ≤ 9223372036854775807) (B : Nat) (hB : W.heap.size = B) :
    Calls Try.prog 23 #[.pointer (some ⟨g, 0, none⟩), .slice (some ⟨B, 0, none⟩) 1 1] (W.alloc (.cells #[.int .i64 m] 3)) fun e w' => ∃ v', e = .returned (.tuple #[]) ∧ FlS w0 w' g ib ic p s r (crashD p d [m]) v' := by
  subst hB
  have hb := Bk.new W 3 [.int .i64 m]
  have hlt := h.at_.foot_lt
  refine crash_S (h.keep (Kp.one _ _)) (some ⟨W.heap.size, 0, none⟩) 1 [m] ⟨by simp, fun _ => ⟨W.heap.size, 0, rfl, fun j hj => ?_⟩⟩ ?_ ?_
  · have : j = 0 := by simpa using hj
    subst this
    exact hb.cell 0
  · intro _ q hq hm
    injection hq with hq
    subst hq
    exact absurd (hlt _ hm) (by simp)
  · intro x hx
    have : x = m := by simpa using hx
    subst this
    exact hm
theorem fuse_S (h : FlS w0 W g ib ic p s r d v) (n : Int) (hn : n ≤ 9223372036854775807) :
    Calls Try.prog 21 #[.pointer (some ⟨g, 0, none⟩), .int .i64 n] W fun e w' => e = .returned (.tuple #[]) ∧ FlS w0 w' g ib ic p s r (fuseD d n) v := by
  refine (ffuse h.at_ n).mono ?_
  rintro e w' ⟨h1, h2, h3⟩
  exact ⟨h1, h.step h2 h3 (fuseD_ok h.ok n hn)⟩
theorem rot_S (h : FlS w0 W g ib ic p s r d v) (page a x : Int) (hx : 0 ≤ x ∧ x ≤ 255) (ha9 : a ≤ 9223372036854775807) :
    Calls Try.prog 29 #[.pointer (some ⟨g, 0, none⟩), .int .i64 page, .int .i64 a, .int .u8 x] W fun e w' => e = .returned (.int .i64 (rotD p s r d page a x).2) ∧ FlS w0 w' g ib ic p s r (rotD p s r d page a x).1 v := by
  refine (frot h.at_ h.ok page a x hx ha9).mono ?_
  rintro e w' ⟨h1, h2, h3⟩
  exact ⟨h1, h.step h2 h3 (rotD_ok h.ok page a x hx)⟩
theorem read_S (h : FlS w0 W g ib ic p s r d v) (page : Int) :
    Calls Try.prog 26 #[.pointer (some ⟨g, 0, none⟩), .int .i64 page] W fun e w' => e = .returned (.tuple #[.string (readD p s r d page).1, .int .i64 (readD p s r d page).2]) ∧ FlS w0 w' g ib ic p s r d v :=
  (fread_any h.at_ h.ok page).mono fun e w' ⟨h1, h2⟩ => ⟨h1, h.keep h2⟩
theorem down_S (h : FlS w0 W g ib ic p s r d v) : Calls Try.prog 17 #[.pointer (some ⟨g, 0, none⟩)] W fun e w' => e = .returned (.bool d.down) ∧ FlS w0 w' g ib ic p s r d v :=
  (fdown h.at_).mono fun e w' ⟨h1, h2⟩ => ⟨h1, h.keep h2⟩
theorem pending_S (h : FlS w0 W g ib ic p s r d v) : Calls Try.prog 18 #[.pointer (some ⟨g, 0, none⟩)] W fun e w' => e = .returned (.int .i64 d.row.length) ∧ FlS w0 w' g ib ic p s r d v :=
  (fpending h.at_).mono fun e w' ⟨h1, h2⟩ => ⟨h1, h.keep h2⟩
theorem image_S (h : FlS w0 W g ib ic p s r d v) : Calls Try.prog 15 #[.pointer (some ⟨g, 0, none⟩)] W fun e w' => e = .returned (.string (strN d.img)) ∧ FlS w0 w' g ib ic p s r d v :=
  (fimage h.at_).mono fun e w' ⟨h1, h2⟩ => ⟨h1, h.keep h2⟩
end
set_option maxHeartbeats 400000 in
theorem ftiny (w : World) : Calls Try.prog 20 #[] w fun e w' => e = .returned (geo 32 3 4) ∧ Kp w w' := by
  go_enter Try.func20, Try.ntmps20
  go_wp2_with fail
  refine bodyPost_ret (v := geo 32 3 4) (by simp [results, Try.results20, go_sem]) rfl ⟨rfl, ?_⟩
  exact Kp.one _ _
theorem tinyR : RightG 32 3 4 := by unfold RightG; omega
end Go.Proofs.Ytbclmnlggngepaa
