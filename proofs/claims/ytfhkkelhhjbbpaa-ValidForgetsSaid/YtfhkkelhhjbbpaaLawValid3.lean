/- The walk of the statement ValidForgets of chapter 23. -/
import Derived.Test.YtfhkkelhhjbbpaaLawValid2
namespace Go.Proofs.Ytfhkkelhhjbbpaa
open Go.RowKit
set_option linter.unusedVariables false

/-- Where the first read that found nothing stands, of the first k: -1, if there is none. -/
def FirstIs (rs : List Rd) (k : Nat) (x : Int) : Prop :=
  (x = -1 ∧ ∀ j (h : j < rs.length), j < k → rs[j].fr ≠ 0) ∨ ∃ q : Nat, ∃ hq : q < rs.length, q < k ∧ x = q ∧ rs[q].fr = 0 ∧ ∀ j (h : j < rs.length), j < q → rs[j].fr ≠ 0
theorem FirstIs.bd {rs : List Rd} {k : Nat} {x : Int} (h : FirstIs rs k x) : -1 ≤ x ∧ x < k ∨ x = -1 := by
  rcases h with ⟨rfl, _⟩ | ⟨q, _, h1, rfl, _⟩
  · right; rfl
  · left; omega
theorem FirstIs.keep {rs : List Rd} {k : Nat} {x : Int} (h : FirstIs rs k x) (hk : k < rs.length) (h0 : rs[k].fr ≠ 0 ∨ 0 ≤ x) : FirstIs rs (k + 1) x := by
  rcases h with ⟨rfl, h1⟩ | ⟨q, hq, h1, rfl, h2, h3⟩
  · refine .inl ⟨rfl, fun j hj hjk => ?_⟩
    by_cases e : j = k
    · subst e
      rcases h0 with h0 | h0
      · exact h0
      · omega
    · exact h1 j hj (by omega)
  · exact .inr ⟨q, hq, by omega, rfl, h2, h3⟩
theorem FirstIs.set {rs : List Rd} {k : Nat} {x : Int} (h : FirstIs rs k x) (hk : k < rs.length) (h0 : rs[k].fr = 0) (hx : x < 0) : FirstIs rs (k + 1) (k : Int) := by
  rcases h with ⟨rfl, h1⟩ | ⟨q, hq, h1, rfl, h2, h3⟩
  · exact .inr ⟨k, hk, by omega, rfl, h0, fun j hj hjk => h1 j hj hjk⟩
  · omega
theorem forget_bad (f : Int) (rs : List Rd) (f' : Int) (hf : f' ≠ f) (j : Nat) (h : j < rs.length) : badAt (setF f rs rs.length) (froms rs) f' j = decide (rs[j].fr = 0) := by
  rw [badAt_eq (by rw [setF_len]; exact h), nowAt_froms rs j h]
  have e := setF_get f rs rs.length j h
  rw [if_pos h] at e
  rw [e]
  have : decide (({ rs[j] with fg := f } : Rd).fg ≠ f') = true := by rw [decide_eq_true_iff]; exact fun e => hf e.symm
  rw [this]
  simp
/-- What Clash tells, by the first read that found nothing. -/
theorem forget_clash (f : Int) (rs : List Rd) (f' : Int) (hf : f' ≠ f) (x : Int) (h : FirstIs rs rs.length x) :
    clash (setF f rs rs.length) (froms rs) f' = if x < 0 then none else some x.toNat := by
  rcases h with ⟨rfl, h1⟩ | ⟨q, hq, h1, rfl, h2, h3⟩
  · rw [if_pos (by omega)]
    exact clash_none fun j hj => by
      have hj' : j < rs.length := by rw [setF_len] at hj; exact hj
      rw [forget_bad f rs f' hf j hj']
      simpa using h1 j hj' hj'
  · rw [if_neg (by omega)]
    refine clash_some (by rw [setF_len]; simpa using hq) ?_ fun j hj => ?_
    · rw [show (q : Int).toNat = q by simp, forget_bad f rs f' hf q hq]
      simpa using h2
    · have hj' : j < rs.length := by simp at hj; omega
      rw [forget_bad f rs f' hf j hj']
      simpa using h3 j hj' (by simpa using hj)
theorem missN_setF (f : Int) (rs : List Rd) (k : Nat) : missN (setF f rs k) = missN rs := by
  have e : ∀ l : List Rd, missN l = ((froms l).filter fun x => decide (x = 0)).length := by
    intro l
    unfold missN froms
    rw [List.filter_map, List.length_map]
    rfl
  rw [e, e, froms_setF]

set_option maxHeartbeats 3200000 in
theorem ValidForgets_walk (w : World) (A : Option Addr) (c : Nat) (rs : List Rd) (hR : RdsAt w A rs) (hr24 : rs.length * 24 ≤ 140737488351232) (hok : RdOk rs) (f : Int) (wf : (Lit.int .u32 f).wf = true) :
    Calls Try.prog 5 #[.slice A rs.length c, .int .u32 f] w fun e w' => e = .returned (.bool true) ∧ Kp w w' := by
  have z1 := hR.1
  have bf := bounds_u32 wf
  clear wf
  go_enter Try.func5, Try.ntmps5
  go_wp2_with (at_builtin; refine wpList_app (w0 := w) rfl _ _ _ rfl (.agg #[.string ⟨#[]⟩, .int .u32 0, .int .u32 0]) 24 Try.underlying22 info_rd rfl (by decide) (by decide) rfl (World.ownsRow_nil _ _ _ _) A rs.length c (flat rs) rfl (flat_len rs) hR.src (flat_one rs) (by omega) (Kp.refl _) ?_; intro v1 w1 hown1 hk1 hg1 hat1; simp only [Nat.zero_add, List.nil_append] at hown1; obtain ⟨A1, c1, rfl⟩ := own_slice hown1)
  clear hg1 hat1
  go_loopw [6, 7, 8, 9] (fun v x n i wr => ∃ (k : Nat) (fi : Int), k ≤ rs.length ∧ i = .int .i64 k ∧ x = .int .i64 fi ∧ FirstIs rs k fi ∧ n = .int .i64 (missN (rs.take k) : Nat) ∧ Kp w wr ∧ TwoRows w wr A1 c1 v f rs k) (fun _ _ _ i _ => rs.length - (intOf i).toNat)
  case atStart => exact ⟨0, -1, by omega, rfl, rfl, .inl ⟨rfl, fun j h hj => by omega⟩, rfl, hk1, by rw [setF_zero]; exact hown1, World.ownsRow_nil _ _ _ _⟩
  case round =>
    obtain ⟨k, fi, hk, rfl, rfl, hfi, rfl, hK, hx, hn⟩ := hrel
    clear hown1 hk1
    have HFI := Lib.hid hfi
    have hfb := hfi.bd
    clear hfi
    by_cases hlt : k < rs.length
    · obtain ⟨g, c2, hv, hg, hgl⟩ := own_at hx (by omega)
      simp only [Value.slice.injEq] at hv
      obtain ⟨rfl, _, rfl⟩ := hv
      have hl : k < (setF f rs k).length := by rw [setF_len]; exact hlt
      obtain ⟨d0, d1, d2⟩ := flat_at (setF f rs k) k hl
      have cx1 := hx.cellAt (k * 3 + 1) (by omega)
      have cx2 := hx.cellAt (k * 3 + 2) (by omega)
      rw [d1] at cx1
      rw [d2] at cx2
      have fx := hx.frozenAt (k * 3 + 2)
      have hst := (hx.stored (k * 3 + 2) (.int .u32 f)).1
      rw [flat_set _ f k hl, setF_step f rs k hlt] at hst
      have hn2 := own_set_far hn hx (by decide) (k * 3 + 2) (.int .u32 f)
      have hfr : (setF f rs k)[k].fr = rs[k].fr := by rw [setF_get f rs k k hlt]; simp
      rw [hfr] at cx1
      have HT := Lib.hid (take_froms rs k hlt)
      clear hfr d0 d1 d2 hx hn
      generalize (setF f rs k)[k].fg = old at *
      have HM := Lib.hid (missN_take rs k hlt)
      have hmb := missN_le (rs.take k)
      have hmb2 : (rs.take k).length ≤ k := List.length_take_le _ _
      generalize missN (rs.take k) = N at *
      have HR0 : Hid (rs[k].fr = rs[k].fr) := rfl
      obtain ⟨r, hr⟩ : ∃ r, rs[k].fr = r := ⟨_, rfl⟩
      rw [hr] at cx1 HT HM
      have HR := Lib.hid hr
      clear hr HR0
      have hfr2 : (setF f rs (k + 1))[k]'(by rw [setF_len]; exact hlt) = { rs[k] with fg := f } := by rw [setF_get f rs (k + 1) k hlt]; simp
      have HFR : Hid (((setF f rs (k + 1))[k]'(by rw [setF_len]; exact hlt)).fr = r) := by show ((setF f rs (k + 1))[k]'(by rw [setF_len]; exact hlt)).fr = r; rw [hfr2]; exact HR.out
      clear hfr2
      have HD := Lib.hid ((flat_at (setF f rs (k + 1)) k (by rw [setF_len]; exact hlt)).2.1)
      have hKs := hK.set hg (p := ⟨g, k * 3 + 2, none⟩) (.int .u32 f)
      have hst2 := own_keep hst (Kp.one (wr.setCell ⟨g, k * 3 + 2, none⟩ (.int .u32 f)) (.cells #[.int .u32 r] 24))
      have h3 : r = 0 ∧ fi < 0 ∨ r = 0 ∧ 0 ≤ fi ∨ ¬ r = 0 := by omega
      have hfree0 : ∀ (v1 : Value) (w1 : World), w1.ownsRow w.heap.size 27 3 (.slice (some ⟨g, 0, none⟩) rs.length c1) rs.length (flat (setF f rs (k + 1))) → w1.cell? ⟨g, k * 3 + 1, none⟩ = some (.int .u32 r) := fun v1 w1 hx1 => by
        have := hx1.cellAt (k * 3 + 1) (by omega)
        rw [HD.out, HFR.out] at this
        exact this
      rcases h3 with ⟨hr0, hf0⟩ | ⟨hr0, hf0⟩ | hr0
      all_goals
        have HZ := Lib.hid hr0
        first
        | (have hb0 : (r == 0) = true := by simp [hr0])
        | (have hb0 : (r == 0) = false := by simp [hr0])
        clear hr0
        go_wp2_with (at_builtin; refine wpList_app (w0 := w) rfl _ _ _ rfl (.int .u32 0) 4 Try.underlying23 info_u32 rfl (by decide) (by decide) rfl (own_keep hn2 (Kp.one _ _)) (some ⟨wr.heap.size, 0, none⟩) 1 1 [.int .u32 r] rfl rfl (src_one _ _ _ (by simp)) (by intro u hu; simp at hu; subst hu; rfl) (by omega) (hKs.alloc _) ?_; intro v1 w1 hown1 hk1 hg1 hat1; have hx1 := own_other hst2 hg1 (own_type_ne hst2 (own_keep hn2 (Kp.one _ _)) (by decide)); have cx3 := hfree0 v1 w1 hx1)
        have hn1 : w1.ownsRow w.heap.size 24 1 v1 (k + 1) (u32s ((froms rs).take (k + 1))) := by
          rw [HT.out]; simp only [u32s, List.map_append]; exact hown1
        go_roundw
        case rel =>
          first
          | exact ⟨k + 1, (k : Int), by omega, by go_num, rfl, HFI.out.set hlt (HR.out.trans HZ.out) (by omega), by rw [HM.out, if_pos HZ.out]; go_num, hk1, hx1, hn1⟩
          | exact ⟨k + 1, fi, by omega, by go_num, rfl, HFI.out.keep hlt (.inr (by omega)), by rw [HM.out, if_pos HZ.out]; go_num, hk1, hx1, hn1⟩
          | exact ⟨k + 1, fi, by omega, by go_num, rfl, HFI.out.keep hlt (.inl (by rw [HR.out]; exact HZ.out)), by rw [HM.out, if_neg HZ.out]; go_num, hk1, hx1, hn1⟩
        case measure => simp [intOf]; omega
    · obtain rfl : k = rs.length := by omega
      have e : (froms rs).take rs.length = froms rs := by rw [← froms_len rs, List.take_length]
      rw [e] at hn
      rw [List.take_length]
      clear e
      obtain ⟨A2, c2, rfl⟩ := own_slice hn
      obtain ⟨_, _, hv, hs1⟩ := own_src hx
      simp only [Value.slice.injEq] at hv
      obtain ⟨rfl, _, rfl⟩ := hv
      obtain ⟨_, _, hv, hs2⟩ := own_src hn
      simp only [Value.slice.injEq] at hv
      obtain ⟨rfl, _, rfl⟩ := hv
      have hR1 : RdsAt wr A1 (setF f rs rs.length) := hs1.rds (by rw [setF_len]; exact z1)
      have hN1 : NumsAt .u32 wr A2 (froms rs) := hs2.nums (by rw [froms_len]; exact z1)
      have hc1 : ∀ f', f' ≠ f → Calls Try.prog 8 #[.slice A1 rs.length c1, .slice A2 rs.length c2, .int .u32 f'] wr fun e w' => e = .returned (clashV (if fi < 0 then none else some fi.toNat)) ∧ Kp wr w' := fun f' hf => by
        have := clash_any (setF f rs rs.length) A1 c1 (froms rs) A2 c2 f' wr hR1 hN1
        rw [setF_len, froms_len, forget_clash f rs f' hf fi HFI.out] at this
        exact this
      have hm1 := fun W (k : Kp wr W) => misses_any (setF f rs rs.length) A1 c1 W (hR1.keep k)
      rw [setF_len, missN_setF] at hm1
      have hmb := missN_le rs
      generalize missN rs = M at *
      have HC1 := Lib.hid hc1
      have HM1 := Lib.hid hm1
      clear hc1 hm1 hs1 hs2 hx hn hN1 hR1
      rcases Int.lt_or_le fi 0 with hneg | hpos
      · have hfi : fi = -1 := by omega
        subst hfi
        go_wp2_with fail
        refine (HC1.out _ ?_).mono ?_
        · omega
        rintro e w2 ⟨rfl, hk2⟩
        rw [if_pos (by omega)]
        simp only [clashV]
        go_wp2_with fail
        refine (alive_any _).mono ?_
        rintro e w3 ⟨rfl, hk3⟩
        go_wp2_with fail
        refine (HM1.out _ (hk2.trans hk3)).mono ?_
        rintro e w4 ⟨rfl, hk4⟩
        go_wp2_with fail
        go_ret
        exact ⟨by simp, ((hK.trans hk2).trans hk3).trans hk4⟩
      · obtain ⟨q, rfl⟩ : ∃ q : Nat, fi = q := ⟨fi.toNat, by omega⟩
        go_wp2_with fail
        refine (HC1.out _ ?_).mono ?_
        · omega
        rintro e w2 ⟨rfl, hk2⟩
        rw [if_neg (by omega)]
        simp only [clashV, Int.toNat_natCast]
        go_wp2_with fail
        refine (alive_any _).mono ?_
        rintro e w3 ⟨rfl, hk3⟩
        go_wp2_with fail
        refine (HM1.out _ (hk2.trans hk3)).mono ?_
        rintro e w4 ⟨rfl, hk4⟩
        go_wp2_with fail
        go_ret
        exact ⟨by simp, ((hK.trans hk2).trans hk3).trans hk4⟩
end Go.Proofs.Ytfhkkelhhjbbpaa
