/- The walks of the statements of chapter 23: ValidClashes, ValidSame, ValidForgets. -/
import Derived.Test.YtfhkkelhhjbbpaaLawValid
import Derived.Laws.BitsAllLaws
namespace Go.Proofs.Ytfhkkelhhjbbpaa
open Go.RowKit
set_option linter.unusedVariables false

/-- The numbers of a read fit their kinds. -/
def RdOk (rs : List Rd) : Prop := ∀ r ∈ rs, 0 ≤ r.fr ∧ r.fr ≤ 4294967295 ∧ 0 ≤ r.fg ∧ r.fg ≤ 4294967295
/-- A slice of bools, nil let in. -/
def BoolsAt (w : World) (A : Option Addr) (xs : List Bool) : Prop :=
  xs.length ≤ 9223372036854775807 ∧ (0 < xs.length → ∃ b off, A = some ⟨b, off, none⟩ ∧ ∀ j (h : j < xs.length), w.cell? ⟨b, off + j, none⟩ = some (.bool xs[j]))

theorem src_one (W : World) (u : Value) (t : TypeId) {B : Nat} (hB : W.heap.size = B) : Src (W.alloc (.cells #[u] t)) (some ⟨B, 0, none⟩) [u] := fun _ => ⟨B, 0, rfl, fun j hj => by
  obtain rfl : j = 0 := by simp at hj; omega
  subst hB
  rw [World.cell?_alloc_at _ _ _ _ rfl]; rfl⟩
abbrev u32s (xs : List Int) : List Value := xs.map (Value.int .u32)

set_option maxHeartbeats 1600000 in
theorem ValidClashes_walk (w : World) (A : Option Addr) (c : Nat) (rs : List Rd) (hR : RdsAt w A rs) (hr24 : rs.length * 24 ≤ 140737488351232) (hok : RdOk rs) (B : Option Addr) (d : Nat) (xs : List Int) (hX : NumsAt .u32 w B xs) (hx4 : xs.length * 4 ≤ 140737488351232) (hxw : ∀ x ∈ xs, (Lit.int .u32 x).wf = true) (f : Int) (wf : (Lit.int .u32 f).wf = true) (S : Option Addr) (sc : Nat) (bs : List Bool) (hS : BoolsAt w S bs) :
    Calls Try.prog 3 #[.slice A rs.length c, .slice B xs.length d, .int .u32 f, .slice S bs.length sc] w fun e w' => e = .returned (.bool true) ∧ Kp w w' := by
  go_enter Try.func3, Try.ntmps3
  go_wp2_with (at_builtin; refine wpList_app (w0 := w) rfl _ _ _ rfl (.int .u32 0) 4 Try.underlying23 info_u32 rfl (by decide) (by decide) rfl (World.ownsRow_nil _ _ _ _) B xs.length d (u32s xs) rfl (by simp) hX.src (nums_one _ _) (by omega) (Kp.refl _) ?_; intro v1 w1 hown1 hk1 hg1 hat1; simp only [Nat.zero_add, List.nil_append] at hown1; obtain ⟨A1, c1, rfl⟩ := own_slice hown1)
  clear hg1 hat1
  have z1 := hR.1
  have z2 := hX.1
  have z3 := hS.1
  go_loopw [10] (fun i wr => ∃ k : Nat, k ≤ xs.length ∧ i = .int .i64 k ∧ Kp w wr ∧ ∃ ys : List Int, ys.length = xs.length ∧ wr.ownsRow w.heap.size 24 1 (.slice A1 xs.length c1) xs.length (u32s ys)) (fun i _ => xs.length - (intOf i).toNat)
  case atStart => exact ⟨0, by omega, rfl, hk1, xs, rfl, hown1⟩
  case round =>
    obtain ⟨k, hk, rfl, hK, ys, hy, hown⟩ := hrel
    have HY := Lib.hid hy
    clear hown1 hk1 hy
    by_cases hall : k < xs.length ∧ k < rs.length ∧ k < bs.length
    · obtain ⟨k1, k2, k3⟩ := hall
      obtain ⟨bb, bo, rfl, hbc⟩ := hS.2 (by omega)
      have cb := hK.cell (hbc k k3)
      clear hbc
      obtain ⟨rb, ro, rfl, hrc⟩ := hR.2 (by omega)
      have cr := hK.cell (hrc k k2).2.1
      clear hrc
      obtain ⟨g, c2, hv, hg, hgl⟩ := own_at hown (by omega)
      simp only [Value.slice.injEq] at hv
      obtain ⟨rfl, _, rfl⟩ := hv
      have cx := hown.cellAt k (by omega)
      rw [List.getElem?_eq_getElem (by simp [HY.out]; exact k1)] at cx
      have fx := hown.frozenAt k
      generalize (u32s ys)[k]'_ = old at cx
      generalize rs[k].fr = r at *
      generalize bs[k] = b at *
      cases b
      · go_wp2_with fail
        go_roundw
        case rel => exact ⟨k + 1, by omega, by go_num, hK, ys, HY.out, hown⟩
        case measure => simp [intOf]; omega
      · go_wp2_with fail
        have hst := (hown.stored k (.int .u32 r)).1
        have es : (u32s ys).set k (.int .u32 r) = u32s (ys.set k r) := by simp [List.map_set]
        rw [es] at hst
        go_roundw
        case rel => exact ⟨k + 1, by omega, by go_num, hK.set hg _, ys.set k r, by rw [List.length_set]; exact HY.out, hst⟩
        case measure => simp [intOf]; omega
    · obtain ⟨A2, c2, hv, hsrc⟩ := own_src hown
      simp only [Value.slice.injEq] at hv
      obtain ⟨rfl, _, rfl⟩ := hv
      have hN : NumsAt .u32 wr A1 ys := hsrc.nums (by rw [HY.out]; omega)
      have hRr := hR.keep hK
      have hc1 := clash_any rs A c ys A1 c1 f wr hRr hN
      rw [HY.out] at hc1
      have hc2 := fun W (k : Kp wr W) => rclash_any rs A c ys A1 c1 f W (hRr.keep k) (hN.keep k)
      rw [HY.out] at hc2
      generalize clash rs ys f = o at *
      have hout : ¬ (k < xs.length) ∨ (k < xs.length ∧ ¬ (k < rs.length)) ∨ (k < xs.length ∧ k < rs.length ∧ ¬ (k < bs.length)) := by omega
      clear hall
      have HC1 := Lib.hid hc1
      have HC2 := Lib.hid hc2
      clear hc1 hc2 hsrc hown
      rcases hout with k1 | ⟨k1, k2⟩ | ⟨k1, k2, k3⟩
      all_goals
        rcases o with _ | q
        all_goals
          go_wp2_with fail
          refine HC1.out.mono ?_
          rintro e w2 ⟨rfl, hk2⟩
          simp only [clashV]
          go_wp2_with fail
          refine (HC2.out _ hk2).mono ?_
          rintro e w3 ⟨rfl, hk3⟩
          simp only [clashV]
          go_wp2_with fail
          refine (alive_any _).mono ?_
          rintro e w4 ⟨rfl, hk4⟩
          go_wp2_with fail
          go_ret
          exact ⟨rfl, ((hK.trans hk2).trans hk3).trans hk4⟩

theorem froms_len (rs : List Rd) : (froms rs).length = rs.length := by simp [froms]
theorem nowAt_froms (rs : List Rd) (j : Nat) (h : j < rs.length) : nowAt (froms rs) j = rs[j].fr := by
  unfold nowAt froms
  simp [List.getD_eq_getElem?_getD, h]
theorem same_ok (f : Int) (rs : List Rd) (j : Nat) (h : j < rs.length) : badAt (setF f rs rs.length) (froms rs) f j = false := by
  rw [badAt_eq (by rw [setF_len]; exact h), nowAt_froms rs j h]
  have e := setF_get f rs rs.length j h
  rw [if_pos h] at e
  rw [e]
  simp
theorem same_none (f : Int) (rs : List Rd) : clash (setF f rs rs.length) (froms rs) f = none :=
  clash_none fun j hj => same_ok f rs j (by rw [setF_len] at hj; exact hj)
theorem xor_ne (a b : Int) (ha : 0 ≤ a) (ha2 : a ≤ 4294967295) (hb : 0 < b) (hb2 : b ≤ 4294967295) : bits .xor .u32 a b ≠ a := by
  obtain ⟨x, rfl⟩ : ∃ x : Nat, a = x := ⟨a.toNat, by omega⟩
  obtain ⟨y, rfl⟩ : ∃ y : Nat, b = y := ⟨b.toNat, by omega⟩
  rw [u32_xor_nat x y (by omega) (by omega)]
  intro e
  have e' : x ^^^ y = x := by omega
  have := congrArg (x ^^^ ·) e'
  simp only [← Nat.xor_assoc, Nat.xor_self, Nat.zero_xor] at this
  omega
theorem same_some (f : Int) (rs : List Rd) (m : Nat) (h : m < rs.length) (x : Int) (hx : x ≠ rs[m].fr) : clash (setF f rs rs.length) ((froms rs).set m x) f = some m := by
  refine clash_some (by rw [setF_len]; exact h) ?_ fun j hj => ?_
  · rw [badAt_eq (by rw [setF_len]; exact h)]
    have e := setF_get f rs rs.length m h
    rw [if_pos h] at e
    rw [e]
    have : nowAt ((froms rs).set m x) m = x := by unfold nowAt; simp [List.getD_eq_getElem?_getD, froms_len, h]
    rw [this]
    have hd : decide (({ rs[m] with fg := f } : Rd).fr ≠ x) = true := by
      rw [decide_eq_true_iff]; exact fun e => hx e.symm
    rw [hd]; rfl
  · have := same_ok f rs j (by omega)
    rw [badAt_eq (by rw [setF_len]; omega)] at this ⊢
    have e2 : nowAt ((froms rs).set m x) j = nowAt (froms rs) j := by unfold nowAt; simp [List.getD_eq_getElem?_getD, show m ≠ j by omega]
    rw [e2]
    exact this

/-- The two rows of the call's own: the reads, and their numbers. -/
def TwoRows (w wr : World) (A1 : Option Addr) (c1 : Nat) (v : Value) (f : Int) (rs : List Rd) (k : Nat) : Prop :=
  wr.ownsRow w.heap.size 27 3 (.slice A1 rs.length c1) rs.length (flat (setF f rs k)) ∧ wr.ownsRow w.heap.size 24 1 v k (u32s ((froms rs).take k))

theorem own_set_far {wr : World} {base g : Nat} {e : TypeId} {size n : Nat} {v : Value} {xs : List Value} {e' : TypeId} {s' n' c' : Nat} {xs' : List Value} (h : wr.ownsRow base e size v n xs) (h' : wr.ownsRow base e' s' (.slice (some ⟨g, 0, none⟩) n' c') n' xs') (hne : e ≠ e') (j : Nat) (u : Value) :
    (wr.setCell ⟨g, j, none⟩ u).ownsRow base e size v n xs := own_other h (h'.stored j u).2 (own_type_ne h h' hne)

theorem take_froms (rs : List Rd) (k : Nat) (h : k < rs.length) : (froms rs).take (k + 1) = (froms rs).take k ++ [rs[k].fr] := by
  rw [List.take_succ_eq_append_getElem (by rw [froms_len]; exact h)]
  simp [froms]

set_option maxHeartbeats 1600000 in
theorem ValidSame_walk (w : World) (A : Option Addr) (c : Nat) (rs : List Rd) (hR : RdsAt w A rs) (hr24 : rs.length * 24 ≤ 140737488351232) (hok : RdOk rs) (f : Int) (wf : (Lit.int .u32 f).wf = true) (a : Int) (wa : (Lit.int .i64 a).wf = true) (by_ : Int) (wb : (Lit.int .u32 by_).wf = true) :
    Calls Try.prog 4 #[.slice A rs.length c, .int .u32 f, .int .i64 a, .int .u32 by_] w fun e w' => e = .returned (.bool true) ∧ Kp w w' := by
  have z1 := hR.1
  go_enter Try.func4, Try.ntmps4
  go_wp2_with (at_builtin; refine wpList_app (w0 := w) rfl _ _ _ rfl (.agg #[.string ⟨#[]⟩, .int .u32 0, .int .u32 0]) 24 Try.underlying22 info_rd rfl (by decide) (by decide) rfl (World.ownsRow_nil _ _ _ _) A rs.length c (flat rs) rfl (flat_len rs) hR.src (flat_one rs) (by omega) (Kp.refl _) ?_; intro v1 w1 hown1 hk1 hg1 hat1; simp only [Nat.zero_add, List.nil_append] at hown1; obtain ⟨A1, c1, rfl⟩ := own_slice hown1)
  clear hg1 hat1
  go_loopw [10, 11] (fun v i wr => ∃ k : Nat, k ≤ rs.length ∧ i = .int .i64 k ∧ Kp w wr ∧ TwoRows w wr A1 c1 v f rs k) (fun _ i _ => rs.length - (intOf i).toNat)
  case atStart => exact ⟨0, by omega, rfl, hk1, by rw [setF_zero]; exact hown1, World.ownsRow_nil _ _ _ _⟩
  case round =>
    obtain ⟨k, hk, rfl, hK, hx, hn⟩ := hrel
    clear hown1 hk1
    by_cases hlt : k < rs.length
    · obtain ⟨g, c2, hv, hg, hgl⟩ := own_at hx (by omega)
      simp only [Value.slice.injEq] at hv
      obtain ⟨rfl, _, rfl⟩ := hv
      have hl : k < (setF f rs k).length := by rw [setF_len]; exact hlt
      obtain ⟨d0, d1, d2⟩ := flat_at (setF f rs k) k hl
      have cx1 := hx.cellAt (k * 3 + 1) (by omega)
      have cx2 := hx.cellAt (k * 3 + 2) (by omega)
      rw [d1] at cx1
      rw [d2] at cx2
      have fx := hx.frozenAt (k * 3 + 2)
      have hst := (hx.stored (k * 3 + 2) (.int .u32 f)).1
      rw [flat_set _ f k hl, setF_step f rs k hlt] at hst
      have hn2 := own_set_far hn hx (by decide) (k * 3 + 2) (.int .u32 f)
      have hfr : (setF f rs k)[k].fr = rs[k].fr := by rw [setF_get f rs k k hlt]; simp
      rw [hfr] at cx1
      have HT := Lib.hid (take_froms rs k hlt)
      clear hfr d0 d1 d2 hx hn
      generalize (setF f rs k)[k].fg = old at *
      generalize rs[k].fr = r at *
      have hKs := hK.set hg (p := ⟨g, k * 3 + 2, none⟩) (.int .u32 f)
      go_wp2_with (at_builtin; refine wpList_app (w0 := w) rfl _ _ _ rfl (.int .u32 0) 4 Try.underlying23 info_u32 rfl (by decide) (by decide) rfl (own_keep hn2 (Kp.one _ _)) (some ⟨wr.heap.size, 0, none⟩) 1 1 [.int .u32 r] rfl rfl (src_one _ _ _ (by simp)) (by intro u hu; simp at hu; subst hu; rfl) (by omega) (hKs.alloc _) ?_; intro v1 w1 hown1 hk1 hg1 hat1)
      have hst2 := own_keep hst (Kp.one (wr.setCell ⟨g, k * 3 + 2, none⟩ (.int .u32 f)) (.cells #[.int .u32 r] 24))
      have hx1 := own_other hst2 hg1 (own_type_ne hst2 (own_keep hn2 (Kp.one _ _)) (by decide))
      have hn1 : w1.ownsRow w.heap.size 24 1 v1 (k + 1) (u32s ((froms rs).take (k + 1))) := by
        rw [HT.out]; simp only [u32s, List.map_append]; exact hown1
      go_roundw
      case rel => exact ⟨k + 1, by omega, by go_num, hk1, hx1, hn1⟩
      case measure => simp [intOf]; omega
    · obtain rfl : k = rs.length := by omega
      have e : (froms rs).take rs.length = froms rs := by rw [← froms_len rs, List.take_length]
      rw [e] at hn
      clear e
      have hn0 := hn
      obtain ⟨A2, c2, rfl⟩ := own_slice hn0
      obtain ⟨_, _, hv, hs1⟩ := own_src hx
      simp only [Value.slice.injEq] at hv
      obtain ⟨rfl, _, rfl⟩ := hv
      obtain ⟨_, _, hv, hs2⟩ := own_src hn0
      simp only [Value.slice.injEq] at hv
      obtain ⟨rfl, _, rfl⟩ := hv
      have hR1 : RdsAt wr A1 (setF f rs rs.length) := hs1.rds (by rw [setF_len]; exact z1)
      have hN1 : NumsAt .u32 wr A2 (froms rs) := hs2.nums (by rw [froms_len]; exact z1)
      have hc1 := clash_any (setF f rs rs.length) A1 c1 (froms rs) A2 c2 f wr hR1 hN1
      rw [setF_len, froms_len, same_none] at hc1
      have HC1 := Lib.hid hc1
      clear hc1 hs1 hs2 hN1 hn
      go_wp2_with fail
      refine HC1.out.mono ?_
      rintro e w2 ⟨rfl, hk2⟩
      simp only [clashV]
      go_wp2_with fail
      refine (alive_any _).mono ?_
      rintro e w3 ⟨rfl, hk3⟩
      have hK3 := (hK.trans hk2).trans hk3
      have hn3 := own_keep hn0 (hk2.trans hk3)
      have hx3 := own_keep hx (hk2.trans hk3)
      clear hx hn0 hR1 hk2 hk3 hK HC1
      have bf := bounds_u32 wf
      have ba := bounds_i64 wa
      have bb := bounds_u32 wb
      clear wf wa wb
      by_cases e0 : rs.length = 0
      · have x0 : ((rs.length : Int) == 0) = true := by simp [e0]
        clear e0
        go_wp2_with fail
        go_ret
        exact ⟨rfl, hK3⟩
      · have x0 : ((rs.length : Int) == 0) = false := by simp [e0]
        by_cases e1 : a < 0
        · go_wp2_with fail
          go_ret
          exact ⟨rfl, hK3⟩
        · by_cases e2 : by_ = 0
          · have x2 : (by_ == 0) = true := by simp [e2]
            clear e2
            go_wp2_with fail
            go_ret
            exact ⟨rfl, hK3⟩
          · have x2 : (by_ == 0) = false := by simp [e2]
            obtain ⟨m, hm⟩ : ∃ m : Nat, a % (rs.length : Int) = m := ⟨(a % (rs.length : Int)).toNat, by have := Int.emod_nonneg a (show (rs.length : Int) ≠ 0 by omega); omega⟩
            have hml : m < rs.length := by have := Int.emod_lt_of_pos a (show (0 : Int) < rs.length by omega); omega
            have hmr := hok rs[m] (List.getElem_mem hml)
            have hxn := xor_ne rs[m].fr by_ hmr.1 hmr.2.1 (by omega) bb.2
            obtain ⟨g, c3, hv, hg, hgl⟩ := own_at hn3 (by omega)
            simp only [Value.slice.injEq] at hv
            obtain ⟨rfl, _, rfl⟩ := hv
            have cx := hn3.cellAt m (by omega)
            have e5 : (u32s (froms rs))[m]? = some (.int .u32 rs[m].fr) := by simp [froms, hml]
            rw [e5] at cx
            have fx := hn3.frozenAt m
            have hst := (hn3.stored m (.int .u32 (bits .xor .u32 rs[m].fr by_))).1
            have e6 : (u32s (froms rs)).set m (.int .u32 (bits .xor .u32 rs[m].fr by_)) = u32s ((froms rs).set m (bits .xor .u32 rs[m].fr by_)) := by simp [List.map_set]
            rw [e6] at hst
            have hK4 := hK3.set hg (p := ⟨g, m, none⟩) (.int .u32 (bits .xor .u32 rs[m].fr by_))
            have hcs := same_some f rs m hml _ hxn
            generalize rs[m].fr = r at *
            have hx4 := own_set_far hx3 hn3 (by decide) m (.int .u32 (bits .xor .u32 r by_))
            clear hn3 e5 e6 hmr hxn hok
            go_wp2_with fail
            have hR4 : RdsAt (w3.setCell ⟨g, m, none⟩ (.int .u32 (bits .xor .u32 r by_))) A1 (setF f rs rs.length) := by
              obtain ⟨_, _, hv, hs5⟩ := own_src hx4
              simp only [Value.slice.injEq] at hv
              obtain ⟨rfl, _, rfl⟩ := hv
              exact hs5.rds (by rw [setF_len]; exact z1)
            obtain ⟨_, _, hv, hs4⟩ := own_src hst
            simp only [Value.slice.injEq] at hv
            obtain ⟨rfl, _, rfl⟩ := hv
            have hN4 : NumsAt .u32 (w3.setCell ⟨g, m, none⟩ (.int .u32 (bits .xor .u32 r by_))) (some ⟨g, 0, none⟩) ((froms rs).set m (bits .xor .u32 r by_)) := hs4.nums (by rw [List.length_set, froms_len]; exact z1)
            have hc4 := clash_any (setF f rs rs.length) A1 c1 ((froms rs).set m (bits .xor .u32 r by_)) (some ⟨g, 0, none⟩) c2 f _ hR4 hN4
            rw [setF_len, List.length_set, froms_len, hcs] at hc4
            refine hc4.mono ?_
            rintro e w5 ⟨rfl, hk5⟩
            simp only [clashV]
            go_wp2_with fail
            go_ret
            exact ⟨by simp, hK4.trans hk5⟩
end Go.Proofs.Ytfhkkelhhjbbpaa
