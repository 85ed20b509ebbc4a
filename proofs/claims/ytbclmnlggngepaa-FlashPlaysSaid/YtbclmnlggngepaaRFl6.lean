/- The contracts of the reference's device: Program, Erase. -/
import Derived.Test.YtbclmnlggngepaaRFl5
import Derived.Test.YtbclmnlggngepaaBlank
namespace Go.Proofs.Ytbclmnlggngepaa
open Go.RowKit
set_option linter.unusedVariables false

theorem pend_mem (page : Int) (b : ByteArray) : ∀ (row : Rw), pend row page = some b → ∃ x ∈ row, x.2 = b := by
  intro row
  have key : ∀ (l : Rw) (acc : Option ByteArray), l.foldl (fun acc x => if x.1 = page then some x.2 else acc) acc = some b → acc = some b ∨ ∃ x ∈ l, x.2 = b := by
    intro l
    induction l with
    | nil => intro acc h; exact Or.inl h
    | cons x l ih =>
      intro acc h
      rw [List.foldl_cons] at h
      rcases ih _ h with h1 | ⟨y, hy, e⟩
      · split at h1
        · injection h1 with h1
          exact Or.inr ⟨x, List.mem_cons_self .., h1⟩
        · exact Or.inl h1
      · exact Or.inr ⟨y, List.mem_cons_of_mem _ hy, e⟩
  intro h
  rcases key row none h with h1 | h1
  · cases h1
  · exact h1
theorem heldD_size {p s r : Int} {d : Dev} (ok : DevOk p s r d) (page : Int) (h0 : 0 ≤ page) (h1 : page < s * r) : ((heldD d p page).size : Int) = p := by
  unfold heldD
  cases hp : pend d.row page with
  | some b =>
    obtain ⟨x, hx, e⟩ := pend_mem page b d.row hp
    have := (ok.rows x hx).2.2
    rw [e] at this
    exact this
  | none =>
    obtain ⟨b1, b2, b3, b4, b5⟩ := page_bd ok.right h0 h1
    have hlen := ok.len
    have hp := ok.right.1
    have e1 : (page * p).toNat = page.toNat * p.toNat := by rw [Int.toNat_mul h0 (by omega)]
    show ((strN (pgN d.img p.toNat page.toNat)).size : Int) = p
    rw [strN_size, pgN_len _ _ _ (by omega)]
    omega
def rprogramD (p s r : Int) (d : Dev) (page : Int) (b : ByteArray) : Dev × Int :=
  if d.down = true then (d, 6)
  else if page < 0 ∨ s * r ≤ page ∨ (b.size : Int) ≠ p then (d, 1)
  else if (pendV d.row page).2 = true ∨ blankB (heldD d p page) = false then (d, 7)
  else ({ (rcountD d).1 with row := (rcountD d).1.row ++ [(page, b)] }, if (rcountD d).2 = true then 6 else 0)
theorem info_wait : (Try.prog.info? 86).map (fun i => (i.zero, i.size, i.bytes)) = some (some (.agg #[.int .i64 0, .string ⟨#[]⟩]), 2, 24) := by kernel_rfl
section
variable {W : World} {g ib ic : Nat} {p s r : Int} {d : Dev} {v : Value}
set_option maxRecDepth 20000 in
set_option maxHeartbeats 3200000 in
theorem rprogram (h : RfX W g ib ic p s r d v) (ok : DevOk p s r d) (page : Int) (b : ByteArray) (hb : b.size ≤ 9223372036854775807) :
    Calls Try.prog 48 #[.pointer (some ⟨g, 0, none⟩), .int .i64 page, .string b] W (RfPost W g ib ic p s r v (rprogramD p s r d page b)) := by
  have HPP := Lib.hid (rpages h ok.right)
  have HC := Lib.hid (fun W' (k : Kp W W') => (h.keep k).c8)
  have HWT := Lib.hid (fun W' (k : Kp W W') => rwaits (h.keep k) (by have := ok.rl; omega) page)
  have HCT := Lib.hid (fun W' (k : Kp W W') => rcount (h.keep k) ok.left)
  have hrl := ok.rl
  obtain ⟨c0, c1, c2, c3, c4, c5, c6, c7⟩ := h.c8
  rcases hdn : d.down with _ | _
  · rw [hdn] at c7
    have hcases : page < 0 ∨ (0 ≤ page ∧ s * r ≤ page) ∨ (0 ≤ page ∧ page < s * r ∧ (b.size : Int) ≠ p) ∨ (0 ≤ page ∧ page < s * r ∧ (b.size : Int) = p) := by omega
    rcases hcases with hc | ⟨hc1, hc⟩ | ⟨hc1, hc2, hc⟩ | ⟨hc1, hc2, hc⟩
    · have e1 : rprogramD p s r d page b = (d, 1) := by unfold rprogramD; rw [if_neg (by rw [hdn]; simp), if_pos (Or.inl hc)]
      rw [e1]
      clear e1 hdn
      go_enter Try.func48, Try.ntmps48
      go_wp2_with fail
      go_ret
      exact ⟨rfl, v, h, FlMv.refl _ _ _ _⟩
    · have e1 : rprogramD p s r d page b = (d, 1) := by unfold rprogramD; rw [if_neg (by rw [hdn]; simp), if_pos (Or.inr (Or.inl hc))]
      rw [e1]
      have hd : decide (s * r ≤ page) = true := by simpa using hc
      clear e1 hdn
      go_enter Try.func48, Try.ntmps48
      go_wp2_with fail
      refine (HPP.out).mono ?_
      rintro e w1 ⟨rfl, hk1⟩
      go_wp2_with fail
      go_ret
      exact ⟨rfl, v, h.keep hk1, FlMv.of hk1⟩
    · have e1 : rprogramD p s r d page b = (d, 1) := by unfold rprogramD; rw [if_neg (by rw [hdn]; simp), if_pos (Or.inr (Or.inr hc))]
      rw [e1]
      have hd : decide (s * r ≤ page) = false := by simp; omega
      have hd2 : ((b.size : Int) != p) = true := by simp [hc]
      clear e1 hdn hc
      go_enter Try.func48, Try.ntmps48
      go_wp2_with fail
      refine (HPP.out).mono ?_
      rintro e w1 ⟨rfl, hk1⟩
      clear c0 c1 c2 c3 c4 c5 c6 c7
      obtain ⟨c0, c1, c2, c3, c4, c5, c6, c7⟩ := HC.out _ hk1
      go_wp2_with fail
      go_ret
      exact ⟨rfl, v, h.keep hk1, FlMv.of hk1⟩
    · have e1 : rprogramD p s r d page b = if (pendV d.row page).2 = true ∨ blankB (heldD d p page) = false then (d, 7) else ({ (rcountD d).1 with row := (rcountD d).1.row ++ [(page, b)] }, if (rcountD d).2 = true then 6 else 0) := by
        unfold rprogramD; rw [if_neg (by rw [hdn]; simp), if_neg (by omega)]
      rw [e1]
      have HHE := Lib.hid (fun W' (k : Kp W W') => rheld (h.keep k) ok page hc1 hc2)
      have hhs := heldD_size ok page hc1 hc2
      have hp9 := ok.right
      unfold RightG at hp9
      have HBL := Lib.hid (fun W => rblank_any (heldD d p page) (by omega) W)
      have hd : decide (s * r ≤ page) = false := by simp; omega
      have hd2 : ((b.size : Int) != p) = false := by simp [hc]
      obtain ⟨si, sr⟩ := rcountD_same d
      unfold RCountPost at HCT
      generalize rcountD d = cd at *
      obtain ⟨cd, cb⟩ := cd
      dsimp only at si sr HCT ⊢
      generalize heldD d p page = old at *
      generalize (pendV d.row page).2 = pf at *
      have hcr : cd.row.length ≤ 100000 := by rw [sr]; exact hrl
      clear e1 hdn hc hhs hp9 si sr
      rcases pf with _ | _
      · generalize hbb : blankB old = bb at *
        have HBB := Lib.hid hbb
        clear hbb
        rcases bb with _ | _
        · rw [if_pos (Or.inr rfl)]
          go_enter Try.func48, Try.ntmps48
          go_wp2_with fail
          refine (HPP.out).mono ?_
          rintro e w1 ⟨rfl, hk1⟩
          clear c0 c1 c2 c3 c4 c5 c6 c7
          obtain ⟨c0, c1, c2, c3, c4, c5, c6, c7⟩ := HC.out _ hk1
          go_wp2_with fail
          refine (HWT.out _ hk1).mono ?_
          rintro e w2 ⟨rfl, hk2⟩
          go_wp2_with fail
          refine (HHE.out _ (hk1.trans hk2)).mono ?_
          rintro e w3 ⟨rfl, hk3⟩
          go_wp2_with fail
          refine (HBL.out _).mono ?_
          rintro e w4 ⟨rfl, rfl⟩
          have hK := (hk1.trans hk2).trans hk3
          go_wp2_with fail
          go_ret
          exact ⟨rfl, v, h.keep hK, FlMv.of hK⟩
        · rw [if_neg (by simp)]
          generalize hcode : (if cb = true then (6 : Int) else 0) = code
          have HCO := Lib.hid hcode
          clear hcode
          go_enter Try.func48, Try.ntmps48
          go_wp2_with fail
          refine (HPP.out).mono ?_
          rintro e w1 ⟨rfl, hk1⟩
          clear c0 c1 c2 c3 c4 c5 c6 c7
          obtain ⟨c0, c1, c2, c3, c4, c5, c6, c7⟩ := HC.out _ hk1
          go_wp2_with fail
          refine (HWT.out _ hk1).mono ?_
          rintro e w2 ⟨rfl, hk2⟩
          go_wp2_with fail
          refine (HHE.out _ (hk1.trans hk2)).mono ?_
          rintro e w3 ⟨rfl, hk3⟩
          go_wp2_with fail
          refine (HBL.out _).mono ?_
          rintro e w4 ⟨rfl, rfl⟩
          have hK := (hk1.trans hk2).trans hk3
          go_wp2_with fail
          refine (HCT.out _ hK).mono ?_
          rintro e w5 ⟨rfl, hf5, hm5⟩
          have hM5 := (FlMv.of (v := v) (g := g) (ib := ib) hK).trans hm5
          clear c0 c1 c2 c3 c4 c5 c6 c7
          have c4 := hf5.c8.2.2.2.2.1
          have hown5 := own_keep hf5.own (Kp.one w5 (.cells #[.int .i64 page, .string b] 86))
          have HPU := Lib.hid (fun w' v' a1 a2 a3 => hf5.push (Kp.one w5 (.cells #[.int .i64 page, .string b] 86)) (x := (page, b)) (w' := w') (v' := v') a1 a2 a3)
          have hco := HCO.out
          rcases cb with _ | _
          · have : code = 0 := by rw [← hco]; rfl
            subst this
            clear hco
            go_wp2_with (at_builtin; refine wpList_app0 rfl _ _ _ rfl (.agg #[.int .i64 0, .string ⟨#[]⟩]) 24 Try.underlying71 info_wait rfl (by decide) (by decide) rfl hown5 (some ⟨w5.heap.size, 0, none⟩) 1 1 [.int .i64 page, .string b] rfl rfl (src_two _ _ _ _ _ rfl) (by simp [Value.oneCell']) (by omega) ?_; intro v1 w6 hown1 hg1 hat1; obtain ⟨A1, c1, rfl⟩ := own_slice hown1; obtain ⟨z1, z2, z3, z4⟩ := HPU.out w6 _ hown1 hg1 hat1; have f4 := z1 4; have HZ3 := Lib.hid z3; have HZ4 := Lib.hid z4; clear z1 z3 z4 hg1 hat1 hown1 HPU HC)
            go_ret
            exact ⟨rfl, _, HZ3.out, hM5.trans HZ4.out⟩
          · have : code = 6 := by rw [← hco]; rfl
            subst this
            clear hco
            go_wp2_with (at_builtin; refine wpList_app0 rfl _ _ _ rfl (.agg #[.int .i64 0, .string ⟨#[]⟩]) 24 Try.underlying71 info_wait rfl (by decide) (by decide) rfl hown5 (some ⟨w5.heap.size, 0, none⟩) 1 1 [.int .i64 page, .string b] rfl rfl (src_two _ _ _ _ _ rfl) (by simp [Value.oneCell']) (by omega) ?_; intro v1 w6 hown1 hg1 hat1; obtain ⟨A1, c1, rfl⟩ := own_slice hown1; obtain ⟨z1, z2, z3, z4⟩ := HPU.out w6 _ hown1 hg1 hat1; have f4 := z1 4; have HZ3 := Lib.hid z3; have HZ4 := Lib.hid z4; clear z1 z3 z4 hg1 hat1 hown1 HPU HC)
            go_ret
            exact ⟨rfl, _, HZ3.out, hM5.trans HZ4.out⟩
      · rw [if_pos (Or.inl rfl)]
        go_enter Try.func48, Try.ntmps48
        go_wp2_with fail
        refine (HPP.out).mono ?_
        rintro e w1 ⟨rfl, hk1⟩
        clear c0 c1 c2 c3 c4 c5 c6 c7
        obtain ⟨c0, c1, c2, c3, c4, c5, c6, c7⟩ := HC.out _ hk1
        go_wp2_with fail
        refine (HWT.out _ hk1).mono ?_
        rintro e w2 ⟨rfl, hk2⟩
        go_wp2_with fail
        go_ret
        exact ⟨rfl, v, h.keep (hk1.trans hk2), FlMv.of (hk1.trans hk2)⟩
  · rw [hdn] at c7
    have e1 : rprogramD p s r d page b = (d, 6) := by unfold rprogramD; rw [if_pos hdn]
    rw [e1]
    clear e1 hdn
    go_enter Try.func48, Try.ntmps48
    go_wp2_with fail
    go_ret
    exact ⟨rfl, v, h, FlMv.refl _ _ _ _⟩
end
end Go.Proofs.Ytbclmnlggngepaa
