/- The reference's device answers as the program's does. -/
import Derived.Test.YtbclmnlggngepaaRFl7
namespace Go.Proofs.Ytbclmnlggngepaa
open Go.RowKit
set_option linter.unusedVariables false

/-- The reference's device d' stands for the program's d. -/
structure DRel (d d' : Dev) : Prop where
  img : d'.img = d.img
  row : d'.row = d.row
  down : d'.down = d.down
  fuse : d.down = false → d'.set = d.set ∧ (d.set = true → d'.left = d.left)
  lft : d'.set = true → 0 ≤ d'.left ∧ d'.left ≤ 9223372036854775807
section
variable {p s r : Int} {d d' : Dev}
theorem DRel.ok (h : DRel d d') (ok : DevOk p s r d) : DevOk p s r d' :=
  ⟨ok.right, by rw [h.img]; exact ok.len, by rw [h.img]; exact ok.byt, by rw [h.row]; exact ok.rows, h.lft, by rw [h.row]; exact ok.rl⟩
theorem rel_count (h : DRel d d') (hd : d.down = false) : (rcountD d').2 = (countD d).2 ∧ DRel (countD d).1 (rcountD d').1 := by
  obtain ⟨f1, f2⟩ := h.fuse hd
  obtain ⟨hi, hr, hn, -, hl⟩ := h
  rcases hs : d.set with _ | _
  · rw [hs] at f1
    have e1 : countD d = (d, false) := by unfold countD; rw [if_pos hs]
    have e2 : rcountD d' = (d', false) := by unfold rcountD; rw [if_pos f1]
    rw [e1, e2]
    exact ⟨rfl, ⟨hi, hr, hn, fun _ => ⟨f1.trans hs.symm, f2⟩, hl⟩⟩
  · rw [hs] at f1
    have f3 := f2 hs
    by_cases hz : d.left = 0
    · have e1 : countD d = ({ d with down := true, set := false }, true) := by unfold countD; rw [if_neg (by rw [hs]; simp), if_pos hz]
      have e2 : rcountD d' = ({ d' with down := true }, true) := by unfold rcountD; rw [if_neg (by rw [f1]; simp), if_pos (f3.trans hz)]
      rw [e1, e2]
      exact ⟨rfl, ⟨hi, hr, rfl, fun hx => (by simp at hx), hl⟩⟩
    · have e1 : countD d = ({ d with left := d.left - 1 }, false) := by unfold countD; rw [if_neg (by rw [hs]; simp), if_neg hz]
      have e2 : rcountD d' = ({ d' with left := d'.left - 1 }, false) := by unfold rcountD; rw [if_neg (by rw [f1]; simp), if_neg (by rw [f3]; exact hz)]
      rw [e1, e2]
      refine ⟨rfl, ⟨hi, hr, hn, fun _ => ⟨f1.trans hs.symm, fun _ => ?_⟩, fun hx => ?_⟩⟩
      · show d'.left - 1 = d.left - 1
        rw [f3]
      · have := hl f1
        rw [f3] at this
        show 0 ≤ d'.left - 1 ∧ d'.left - 1 ≤ _
        rw [f3]
        omega
theorem countD_row (d : Dev) (R : Rw) : countD { d with row := R } = ({ (countD d).1 with row := R }, (countD d).2) := by
  unfold countD
  dsimp only
  split
  · rfl
  · split <;> rfl
theorem rel_read (h : DRel d d') (page : Int) : readD p s r d' page = readD p s r d page := by
  have hh : heldD d' p page = heldD d p page := by unfold heldD; rw [h.row, h.img]
  unfold readD
  rw [h.down, hh]
theorem rel_row {c c' : Dev} (h : DRel c c') (x : Rw) : DRel { c with row := c.row ++ x } { c' with row := c'.row ++ x } :=
  ⟨h.img, by show c'.row ++ x = c.row ++ x; rw [h.row], h.down, h.fuse, h.lft⟩
theorem rel_program (h : DRel d d') (ok : DevOk p s r d) (page : Int) (b : ByteArray) : (rprogramD p s r d' page b).2 = (programD p s r d page b).2 ∧ DRel (programD p s r d page b).1 (rprogramD p s r d' page b).1 := by
  rcases hd : d.down with _ | _
  · have hd' : d'.down = false := h.down.trans hd
    by_cases hp : page < 0 ∨ s * r ≤ page
    · have e1 : programD p s r d page b = (d, 1) := by
        have : readD p s r d page = (⟨#[]⟩, 1) := by unfold readD; rw [if_neg (by rw [hd]; simp), if_pos hp]
        unfold programD; rw [this]; rw [if_pos (by simp)]
      have e2 : rprogramD p s r d' page b = (d', 1) := by unfold rprogramD; rw [if_neg (by rw [hd']; simp), if_pos (by omega)]
      rw [e1, e2]
      exact ⟨rfl, h⟩
    · have hr : readD p s r d page = (heldD d p page, 0) := by unfold readD; rw [if_neg (by rw [hd]; simp), if_neg hp]
      have hsz := heldD_size ok page (by omega) (by omega)
      have hh : heldD d' p page = heldD d p page := by unfold heldD; rw [h.row, h.img]
      by_cases hb : (b.size : Int) = p
      · have hbl := blankB_fill (heldD d p page) p.toNat (by omega)
        have hiff : (blankB (heldD d p page) = false) ↔ heldD d p page ≠ blankS p := by
          constructor
          · exact hbl.2
          · intro hne
            rcases hx : blankB (heldD d p page) with _ | _
            · rfl
            · exact absurd (hbl.1 hx) hne
        have e1 : programD p s r d page b = if (pendV d.row page).2 = true ∨ heldD d p page ≠ blankS p then (d, 7) else ((countD { d with row := d.row ++ [(page, b)] }).1, if (countD { d with row := d.row ++ [(page, b)] }).2 = true then 6 else 0) := by
          unfold programD; rw [hr, if_neg (by simp), if_neg (by simpa using hb)]
        have e2 : rprogramD p s r d' page b = if (pendV d.row page).2 = true ∨ heldD d p page ≠ blankS p then (d', 7) else ({ (rcountD d').1 with row := (rcountD d').1.row ++ [(page, b)] }, if (rcountD d').2 = true then 6 else 0) := by
          unfold rprogramD
          rw [if_neg (by rw [hd']; simp), if_neg (by omega), hh, h.row]
          by_cases hc : (pendV d.row page).2 = true ∨ blankB (heldD d p page) = false
          · have hc2 : (pendV d.row page).2 = true ∨ heldD d p page ≠ blankS p := hc.elim Or.inl (fun hx => Or.inr (hiff.1 hx))
            rw [if_pos hc, if_pos hc2]
          · have hc2 : ¬ ((pendV d.row page).2 = true ∨ heldD d p page ≠ blankS p) := fun hx => hc (hx.elim Or.inl (fun hy => Or.inr (hiff.2 hy)))
            rw [if_neg hc, if_neg hc2]
        rw [e1, e2]
        by_cases hc : (pendV d.row page).2 = true ∨ heldD d p page ≠ blankS p
        · rw [if_pos hc, if_pos hc]
          exact ⟨rfl, h⟩
        · rw [if_neg hc, if_neg hc, countD_row]
          obtain ⟨k1, k2⟩ := rel_count h hd
          have hrow : (countD d).1.row = d.row := (countD_same d).2
          dsimp only
          rw [k1]
          refine ⟨rfl, ?_⟩
          have := rel_row k2 [(page, b)]
          rw [hrow] at this
          exact this
      · have e1 : programD p s r d page b = (d, 1) := by unfold programD; rw [hr, if_neg (by simp), if_pos hb]
        have e2 : rprogramD p s r d' page b = (d', 1) := by unfold rprogramD; rw [if_neg (by rw [hd']; simp), if_pos (Or.inr (Or.inr hb))]
        rw [e1, e2]
        exact ⟨rfl, h⟩
  · have hd' : d'.down = true := h.down.trans hd
    have e1 : programD p s r d page b = (d, 6) := by
      have : readD p s r d page = (⟨#[]⟩, 6) := by unfold readD; rw [if_pos hd]
      unfold programD; rw [this]; rw [if_pos (by simp)]
    have e2 : rprogramD p s r d' page b = (d', 6) := by unfold rprogramD; rw [if_pos hd']
    rw [e1, e2]
    exact ⟨rfl, h⟩
theorem rel_img {c c' : Dev} (h : DRel c c') (f : List Nat → List Nat) : DRel { c with img := f c.img } { c' with img := f c'.img } :=
  ⟨by show f c'.img = f c.img; rw [h.img], h.row, h.down, h.fuse, h.lft⟩
theorem rel_erase (h : DRel d d') (region : Int) : (reraseD p s r d' region).2 = (eraseD p s r d region).2 ∧ DRel (eraseD p s r d region).1 (reraseD p s r d' region).1 := by
  rcases hd : d.down with _ | _
  · have hd' : d'.down = false := h.down.trans hd
    obtain ⟨k1, k2⟩ := rel_count h hd
    have e1 : eraseD p s r d region = if region < 0 ∨ r ≤ region then (d, 1) else if ∃ x ∈ d.row, inReg s region x then (d, 7)
        else if (countD d).2 = true then ({ (countD d).1 with row := (countD d).1.row ++ newRows p (region * s) s.toNat }, 6)
        else ({ (countD d).1 with img := doAll p (countD d).1.img (newRows p (region * s) s.toNat) }, 0) := if_neg (by rw [hd]; simp)
    have e2 : reraseD p s r d' region = if region < 0 ∨ r ≤ region then (d', 1) else if ∃ x ∈ d'.row, inReg s region x then (d', 7)
        else if (rcountD d').2 = true then ({ (rcountD d').1 with row := (rcountD d').1.row ++ newRows p (region * s) s.toNat }, 6)
        else ({ (rcountD d').1 with img := doAll p (rcountD d').1.img (newRows p (region * s) s.toNat) }, 0) := if_neg (by rw [hd']; simp)
    rw [e1, e2, h.row, k1]
    split
    · exact ⟨rfl, h⟩
    · split
      · exact ⟨rfl, h⟩
      · split
        · exact ⟨rfl, rel_row k2 _⟩
        · exact ⟨rfl, rel_img k2 (fun im => doAll p im (newRows p (region * s) s.toNat))⟩
  · have hd' : d'.down = true := h.down.trans hd
    rw [show eraseD p s r d region = (d, 6) from if_pos hd, show reraseD p s r d' region = (d', 6) from if_pos hd']
    exact ⟨rfl, h⟩
theorem rel_flush (h : DRel d d') : (rflushD p d').2 = (flushD p d).2 ∧ DRel (flushD p d).1 (rflushD p d').1 := by
  rcases hd : d.down with _ | _
  · have hd' : d'.down = false := h.down.trans hd
    obtain ⟨k1, k2⟩ := rel_count h hd
    have e1 : flushD p d = if (countD d).2 = true then ((countD d).1, 6) else ({ (countD d).1 with img := doAll p (countD d).1.img (countD d).1.row, row := [] }, 0) := if_neg (by rw [hd]; simp)
    have e2 : rflushD p d' = if (rcountD d').2 = true then ((rcountD d').1, 6) else ({ (rcountD d').1 with img := doAll p (rcountD d').1.img (rcountD d').1.row, row := [] }, 0) := if_neg (by rw [hd']; simp)
    rw [e1, e2, k1]
    split
    · exact ⟨rfl, k2⟩
    · refine ⟨rfl, ?_⟩
      refine ⟨?_, rfl, k2.down, k2.fuse, k2.lft⟩
      show doAll p _ _ = doAll p _ _
      rw [k2.img, k2.row]
  · have hd' : d'.down = true := h.down.trans hd
    rw [show flushD p d = (d, 6) from if_pos hd, show rflushD p d' = (d', 6) from if_pos hd']
    exact ⟨rfl, h⟩
theorem rel_fuse (h : DRel d d') (n : Int) (hn : n ≤ 9223372036854775807) : DRel (fuseD d n) (rfuseD d' n) := by
  refine ⟨h.img, h.row, h.down, fun _ => ⟨rfl, fun hx => ?_⟩, fun hx => ?_⟩
  · have : 0 ≤ n := by simpa [fuseD] using hx
    show max n 0 = n
    omega
  · show 0 ≤ max n 0 ∧ max n 0 ≤ _
    omega
theorem rel_crash (h : DRel d d') (mask : List Int) : DRel (crashD p d mask) (crashD p d' mask) := by
  refine ⟨?_, rfl, rfl, fun _ => ⟨rfl, fun hx => by simp [crashD] at hx⟩, fun hx => by simp [crashD] at hx⟩
  show crK p d'.img d'.row mask d'.row.length = crK p d.img d.row mask d.row.length
  rw [h.img, h.row]
theorem rel_rot (h : DRel d d') (page a x : Int) : (rotD p s r d' page a x).2 = (rotD p s r d page a x).2 ∧ DRel (rotD p s r d page a x).1 (rotD p s r d' page a x).1 := by
  unfold rotD
  split
  · exact ⟨rfl, h⟩
  · refine ⟨rfl, ?_, h.row, h.down, h.fuse, h.lft⟩
    show d'.img.set _ _ = d.img.set _ _
    rw [h.img]
end
/-- A reference's device that a law has made, standing for d. -/
structure RfS (w0 W : World) (g ib ic : Nat) (p s r : Int) (d : Dev) (v : Value) : Prop where
  at_ : ∃ d', RfX W g ib ic p s r d' v ∧ DRel d d'
  ok : DevOk p s r d
  kp : Kp w0 W
  new : ∀ b ∈ foot g ib v, w0.heap.size ≤ b
section
variable {w0 W W' : World} {g ib ic : Nat} {p s r : Int} {d d2 : Dev} {v v' : Value}
theorem RfS.keep (h : RfS w0 W g ib ic p s r d v) (k : Kp W W') : RfS w0 W' g ib ic p s r d v := by
  obtain ⟨d', h1, h2⟩ := h.at_
  exact ⟨⟨d', h1.keep k, h2⟩, h.ok, h.kp.trans k, h.new⟩
theorem RfS.step (h : RfS w0 W g ib ic p s r d v) {d2' : Dev} (h' : RfX W' g ib ic p s r d2' v') (m : FlMv W W' g ib v v') (hr : DRel d2 d2') (ok : DevOk p s r d2) : RfS w0 W' g ib ic p s r d2 v' := by
  obtain ⟨a, b⟩ := FlMv.kp h.kp h.new m
  exact ⟨⟨d2', h', hr⟩, ok, a, b⟩
theorem RfS.foot_lt (h : RfS w0 W g ib ic p s r d v) : ∀ x ∈ foot g ib v, x < W.heap.size := by
  obtain ⟨d', h1, h2⟩ := h.at_
  exact h1.foot_lt
theorem rnew_S (h : RightG p s r) (image : ByteArray) (hl : (image.size : Int) ≤ p * s * r) (w : World) :
    Calls Try.prog 31 #[geo p s r, .string image] w fun e w' => ∃ g ib ic v, e = .returned (.pointer (some ⟨g, 0, none⟩)) ∧ RfS w w' g ib ic p s r (newD p s r image) v := by
  refine (rnewf p s r h image hl w).mono ?_
  rintro e w' ⟨g, ib, ic, h1, h2, h3, h4, h5⟩
  refine ⟨g, ib, ic, _, h1, ⟨_, h4, ⟨rfl, rfl, rfl, fun _ => ⟨rfl, fun _ => rfl⟩, fun hx => by simp [newD] at hx⟩⟩, newD_ok h image hl, h5, ?_⟩
  intro b hb
  simp [foot, Value.ownBlock] at hb
  omega
/-- What a call leaves: its answer, its own blocks moved alone. -/
def RfP (W : World) (g ib ic : Nat) (p s r : Int) (v : Value) (dc : Dev × Int) (e : Ending) (w' : World) : Prop :=
  e = .returned (.int .i64 dc.2) ∧ ∃ v' d', RfX w' g ib ic p s r d' v' ∧ DRel dc.1 d' ∧ FlMv W w' g ib v v'
theorem rprog_R {d' : Dev} (h : RfX W g ib ic p s r d' v) (hr : DRel d d') (ok : DevOk p s r d) (page : Int) (b : ByteArray) (hb : b.size ≤ 9223372036854775807) :
    Calls Try.prog 48 #[.pointer (some ⟨g, 0, none⟩), .int .i64 page, .string b] W (RfP W g ib ic p s r v (programD p s r d page b)) := by
  obtain ⟨k1, k2⟩ := rel_program hr ok page b
  refine (rprogram h (hr.ok ok) page b hb).mono ?_
  rintro e w' ⟨h1, v', h2, h3⟩
  exact ⟨by rw [h1, k1], v', _, h2, k2, h3⟩
theorem rerase_R {d' : Dev} (h : RfX W g ib ic p s r d' v) (hr : DRel d d') (ok : DevOk p s r d) (region : Int) :
    Calls Try.prog 42 #[.pointer (some ⟨g, 0, none⟩), .int .i64 region] W (RfP W g ib ic p s r v (eraseD p s r d region)) := by
  obtain ⟨k1, k2⟩ := rel_erase (p := p) (s := s) (r := r) hr region
  refine (rerase h (hr.ok ok) region).mono ?_
  rintro e w' ⟨h1, v', h2, h3⟩
  exact ⟨by rw [h1, k1], v', _, h2, k2, h3⟩
theorem rflush_R {d' : Dev} (h : RfX W g ib ic p s r d' v) (hr : DRel d d') (ok : DevOk p s r d) :
    Calls Try.prog 43 #[.pointer (some ⟨g, 0, none⟩)] W (RfP W g ib ic p s r v (flushD p d)) := by
  obtain ⟨k1, k2⟩ := rel_flush (p := p) hr
  refine (rflush h (hr.ok ok)).mono ?_
  rintro e w' ⟨h1, v', h2, h3⟩
  exact ⟨by rw [h1, k1], v', _, h2, k2, h3⟩
theorem rrot_R {d' : Dev} (h : RfX W g ib ic p s r d' v) (hr : DRel d d') (ok : DevOk p s r d) (page a x : Int) (hx : 0 ≤ x ∧ x ≤ 255) (ha9 : a ≤ 9223372036854775807) :
    Calls Try.prog 46 #[.pointer (some ⟨g, 0, none⟩), .int .i64 page, .int .i64 a, .int .u8 x] W (RfP W g ib ic p s r v (rotD p s r d page a x)) := by
  obtain ⟨k1, k2⟩ := rel_rot (p := p) (s := s) (r := r) hr page a x
  refine (rrot h (hr.ok ok) page a x hx ha9).mono ?_
  rintro e w' ⟨h1, h2, h3⟩
  exact ⟨by rw [h1, k1], v, _, h2, k2, h3⟩
end
end Go.Proofs.Ytbclmnlggngepaa
