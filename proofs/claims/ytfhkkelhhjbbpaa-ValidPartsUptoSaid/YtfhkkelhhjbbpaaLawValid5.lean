/- The walk of the statement ValidParts of chapter 23. -/
import Derived.Test.YtfhkkelhhjbbpaaLawValid2
namespace Go.Proofs.Ytfhkkelhhjbbpaa
open Go.RowKit
set_option linter.unusedVariables false

theorem now_right (xs ys : List Int) (j : Nat) : nowAt (xs ++ ys) (xs.length + j) = nowAt ys j := by
  unfold nowAt
  rw [List.getD_eq_getElem?_getD, List.getD_eq_getElem?_getD, List.getElem?_append_right (by omega), Nat.add_sub_cancel_left]
theorem now_left' (xs ys : List Int) (j : Nat) (h : j < xs.length) : nowAt (xs ++ ys) j = nowAt xs j := by
  unfold nowAt
  simp [List.getD_eq_getElem?_getD, List.getElem?_append_left h]
theorem bad_left (rs ms : List Rd) (xs ys : List Int) (f : Int) (h : xs.length = rs.length) (j : Nat) (hj : j < rs.length) : badAt (rs ++ ms) (xs ++ ys) f j = badAt rs xs f j := by
  unfold badAt
  rw [List.getElem?_append_left hj, now_left' _ _ _ (by omega)]
theorem bad_right (rs ms : List Rd) (xs ys : List Int) (f : Int) (h : xs.length = rs.length) (j : Nat) : badAt (rs ++ ms) (xs ++ ys) f (rs.length + j) = badAt ms ys f j := by
  unfold badAt
  rw [List.getElem?_append_right (by omega), Nat.add_sub_cancel_left, ← h, now_right]
theorem clash_at {rs : List Rd} {xs : List Int} {f : Int} {q : Nat} (h : clash rs xs f = some q) : q < rs.length ∧ badAt rs xs f q = true ∧ ∀ j, j < q → badAt rs xs f j = false := by
  unfold clash at h
  rw [List.find?_range_eq_some] at h
  exact ⟨by simpa using h.2.1, h.1, fun j hj => by simpa using h.2.2 j hj⟩
theorem clash_no {rs : List Rd} {xs : List Int} {f : Int} (h : clash rs xs f = none) : ∀ j, j < rs.length → badAt rs xs f j = false := by
  unfold clash at h
  rw [List.find?_range_eq_none] at h
  exact fun j hj => by simpa using h j hj
theorem parts_clash (rs ms : List Rd) (xs ys : List Int) (f : Int) (h : xs.length = rs.length) (h0 : clash rs xs f = none) : clash (rs ++ ms) (xs ++ ys) f = (clash ms ys f).map (rs.length + ·) := by
  have hl : ∀ j, j < rs.length → badAt (rs ++ ms) (xs ++ ys) f j = false := fun j hj => by rw [bad_left rs ms xs ys f h j hj]; exact clash_no h0 j hj
  cases hc : clash ms ys f with
  | none =>
    refine clash_none fun j hj => ?_
    by_cases e : j < rs.length
    · exact hl j e
    · obtain ⟨i, rfl⟩ : ∃ i, j = rs.length + i := ⟨j - rs.length, by omega⟩
      rw [bad_right rs ms xs ys f h]
      exact clash_no hc i (by rw [List.length_append] at hj; omega)
  | some q =>
    obtain ⟨h1, h2, h3⟩ := clash_at hc
    show _ = some (rs.length + q)
    refine clash_some (by rw [List.length_append]; omega) (by rw [bad_right rs ms xs ys f h]; exact h2) fun j hj => ?_
    by_cases e : j < rs.length
    · exact hl j e
    · obtain ⟨i, rfl⟩ : ∃ i, j = rs.length + i := ⟨j - rs.length, by omega⟩
      rw [bad_right rs ms xs ys f h]
      exact h3 i (by omega)
theorem missN_append (rs ms : List Rd) : missN (rs ++ ms) = missN rs + missN ms := by
  unfold missN
  rw [List.filter_append, List.length_append]

set_option maxHeartbeats 3200000 in
theorem ValidParts_walk (w : World) (A : Option Addr) (c : Nat) (rs : List Rd) (hR : RdsAt w A rs) (hr24 : rs.length * 24 ≤ 140737488351232) (hok : RdOk rs) (br : rs.length ≤ 1048576) (D : Option Addr) (dc : Nat) (ms : List Rd) (hM : RdsAt w D ms) (hm24 : ms.length * 24 ≤ 140737488351232) (hokm : RdOk ms) (bm : ms.length ≤ 1048576) (B : Option Addr) (d : Nat) (xs : List Int) (hX : NumsAt .u32 w B xs) (hx4 : xs.length * 4 ≤ 140737488351232) (hxw : ∀ x ∈ xs, (Lit.int .u32 x).wf = true) (bx : xs.length ≤ 1048576) (f : Int) (wf : (Lit.int .u32 f).wf = true) :
    Calls Try.prog 7 #[.slice A rs.length c, .slice D ms.length dc, .slice B xs.length d, .int .u32 f] w fun e w' => e = .returned (.bool true) ∧ Kp w w' := by
  go_enter Try.func7, Try.ntmps7
  go_wp2_with fail
  go_loopw [9, 10] (fun v i wr => ∃ k : Nat, k ≤ rs.length ∧ i = .int .i64 k ∧ Kp w wr ∧ wr.ownsRow w.heap.size 24 1 v k (u32s ((froms rs).take k))) (fun _ i _ => rs.length - (intOf i).toNat)
  case atStart => exact ⟨0, by omega, rfl, Kp.refl _, World.ownsRow_nil _ _ _ _⟩
  case round =>
    obtain ⟨k, hk, rfl, hK, hown⟩ := hrel
    by_cases hlt : k < rs.length
    · obtain ⟨b, off, rfl, hc⟩ := hR.2 (by omega)
      have c1 := hK.cell (hc k hlt).2.1
      have HT := Lib.hid (take_froms rs k hlt)
      clear hc
      generalize rs[k].fr = r at *
      go_wp2_with (at_builtin; refine wpList_app (w0 := w) rfl _ _ _ rfl (.int .u32 0) 4 Try.underlying23 info_u32 rfl (by decide) (by decide) rfl (own_keep hown (Kp.one _ _)) (some ⟨wr.heap.size, 0, none⟩) 1 1 [.int .u32 r] rfl rfl (src_one _ _ _ (by simp)) (by intro u hu; simp at hu; subst hu; rfl) (by omega) (hK.alloc _) ?_; intro v1 w1 hown1 hk1 hg1 hat1)
      have hn1 : w1.ownsRow w.heap.size 24 1 v1 (k + 1) (u32s ((froms rs).take (k + 1))) := by
        rw [HT.out]; simp only [u32s, List.map_append]; exact hown1
      go_roundw
      case rel => exact ⟨k + 1, by omega, by go_num, hk1, hn1⟩
      case measure => simp [intOf]; omega
    · obtain rfl : k = rs.length := by omega
      have e : (froms rs).take rs.length = froms rs := by rw [← froms_len rs, List.take_length]
      rw [e] at hown
      clear e
      obtain ⟨A2, c2, rfl⟩ := own_slice hown
      obtain ⟨_, _, hv, hsrc⟩ := own_src hown
      simp only [Value.slice.injEq] at hv
      obtain ⟨rfl, _, rfl⟩ := hv
      have hN1 : NumsAt .u32 wr A2 (froms rs) := hsrc.nums (by rw [froms_len]; omega)
      have hc1 := clash_any rs A c (froms rs) A2 c2 f wr (hR.keep hK) hN1
      rw [froms_len] at hc1
      have HC1 := Lib.hid hc1
      have HFL := Lib.hid (froms_len rs)
      have HP := Lib.hid (parts_clash rs ms (froms rs) xs f (froms_len rs))
      have HMN := Lib.hid (missN_append rs ms)
      have mn1 := missN_le rs
      have mn2 := missN_le ms
      clear hc1 hsrc hN1
      go_wp2_with fail
      refine HC1.out.mono ?_
      rintro e w2 ⟨rfl, hk2⟩
      generalize clash rs (froms rs) f = o at *
      have hown2 := own_keep hown hk2
      have hKK := hK.trans hk2
      clear HC1 hown hK hk2
      rcases o with _ | q
      · have HP' := Lib.hid (HP.out rfl)
        clear HP
        simp only [clashV]
        go_wp2_with fail
        refine (alive_any _).mono ?_
        rintro e w3 ⟨rfl, hk3⟩
        have hown3 := own_keep hown2 hk3
        have hK3 := hKK.trans hk3
        clear hown2 hk3 hKK
        go_wp2_with
          (first
            | (at_builtin; refine wpList_app (w0 := w) rfl _ _ _ rfl (.agg #[.string ⟨#[]⟩, .int .u32 0, .int .u32 0]) 24 Try.underlying22 info_rd rfl (by decide) (by decide) rfl (World.ownsRow_nil _ _ _ _) A rs.length c (flat rs) rfl (flat_len rs) (hR.keep hK3).src (flat_one rs) (by omega) hK3 ?_; intro v5 w5 hown5 hk5 hg5 hat5; simp only [Nat.zero_add, List.nil_append] at hown5; have hx5 := own_other hown3 hg5 (Classical.em _))
            | (at_builtin; refine wpList_app (w0 := w) rfl _ _ _ rfl (.agg #[.string ⟨#[]⟩, .int .u32 0, .int .u32 0]) 24 Try.underlying22 info_rd rfl (by decide) (by decide) rfl hown5 D ms.length dc (flat ms) rfl (flat_len ms) (hM.keep hk5).src (flat_one ms) (by omega) hk5 ?_; intro v6 w6 hown6 hk6 hg6 hat6; have hx6 := own_other hx5 hg6 (own_type_ne hx5 hown5 (by decide)))
            | (at_builtin; refine wpList_app (w0 := w) rfl _ _ _ rfl (.int .u32 0) 4 Try.underlying23 info_u32 rfl (by decide) (by decide) rfl hx6 B xs.length d (u32s xs) rfl (by simp) (hX.keep hk6).src (nums_one _ _) (by omega) hk6 ?_; intro v7 w7 hown7 hk7 hg7 hat7; have hx7 := own_other hown6 hg7 (own_type_ne hown6 hx6 (by decide))))
        obtain ⟨A6, c6, rfl⟩ := own_slice hx7
        obtain ⟨A7, c7, rfl⟩ := own_slice hown7
        obtain ⟨_, _, hv, hs6⟩ := own_src hx7
        simp only [Value.slice.injEq] at hv
        obtain ⟨rfl, _, rfl⟩ := hv
        obtain ⟨_, _, hv, hs7⟩ := own_src hown7
        simp only [Value.slice.injEq] at hv
        obtain ⟨rfl, _, rfl⟩ := hv
        rw [← flat_append] at hs6
        have e7 : u32s (froms rs) ++ u32s xs = u32s (froms rs ++ xs) := by simp [u32s]
        rw [e7] at hs7
        have hR6 : RdsAt w7 A6 (rs ++ ms) := hs6.rds (by rw [List.length_append]; omega)
        have hN7 : NumsAt .u32 w7 A7 (froms rs ++ xs) := hs7.nums (by rw [List.length_append, froms_len]; omega)
        have hc6 := clash_any (rs ++ ms) A6 c6 (froms rs ++ xs) A7 c7 f w7 hR6 hN7
        rw [HP'.out, List.length_append, List.length_append, froms_len] at hc6
        have HC6 := Lib.hid hc6
        have hc8 := fun W (q : Kp w7 W) => clash_any ms D dc xs B d f W ((hM.keep hk7).keep q) ((hX.keep hk7).keep q)
        have HC8 := Lib.hid hc8
        clear hc6 hc8 hs6 hs7 hR6 hN7 e7 hx5 hx6 hx7 hown3 hown5 hown6 hown7 hg5 hg6 hg7 hat5 hat6 hat7
        have hq := Lib.hid (show ∀ q, clash ms xs f = some q → q < ms.length from fun q h => (clash_at h).1)
        refine HC6.out.mono ?_
        rintro e w8 ⟨rfl, hk8⟩
        rcases hcm : clash ms xs f with _ | q
        · have HM := Lib.hid hcm
          clear hcm hq
          simp only [clashV, Option.map_none]
          go_wp2_with fail
          refine (HC8.out _ hk8).mono ?_
          rintro e w9 ⟨rfl, hk9⟩
          rw [HM.out]
          simp only [clashV]
          have hK9 := (hk7.trans hk8).trans hk9
          go_wp2_with
            (first
              | (at_builtin; refine wpList_appG (w0 := w) (by rfl) _ _ _ rfl (.agg #[.string ⟨#[]⟩, .int .u32 0, .int .u32 0]) 24 Try.underlying22 info_rd rfl (by decide) (by decide) rfl (World.ownsRow_nil _ _ _ _) A rs.length c (flat rs) rfl (flat_len rs) (hR.keep hK9).src (flat_one rs) (by omega) hK9 ?_; intro v5 w5 hown5 hk5 hg5 hat5; simp only [Nat.zero_add, List.nil_append] at hown5)
              | (at_builtin; refine wpList_appG (w0 := w) (by rfl) _ _ _ rfl (.agg #[.string ⟨#[]⟩, .int .u32 0, .int .u32 0]) 24 Try.underlying22 info_rd rfl (by decide) (by decide) rfl hown5 D ms.length dc (flat ms) rfl (flat_len ms) (hM.keep hk5).src (flat_one ms) (by omega) hk5 ?_; intro v6 w6 hown6 hk6 hg6 hat6))
          obtain ⟨A9, c9, rfl⟩ := own_slice hown6
          obtain ⟨_, _, hv, hs9⟩ := own_src hown6
          simp only [Value.slice.injEq] at hv
          obtain ⟨rfl, _, rfl⟩ := hv
          rw [← flat_append] at hs9
          have hc9 := misses_any (rs ++ ms) A9 c9 w6 (hs9.rds (by rw [List.length_append]; omega))
          rw [HMN.out, List.length_append] at hc9
          have hm1 := fun W (q : Kp w6 W) => misses_any rs A c W ((hR.keep hk6).keep q)
          have hm2 := fun W (q : Kp w6 W) => misses_any ms D dc W ((hM.keep hk6).keep q)
          have HC9 := Lib.hid hc9
          have HM1 := Lib.hid hm1
          have HM2 := Lib.hid hm2
          clear hc9 hm1 hm2 hs9 hown5 hown6 hg5 hg6 hat5 hat6 HM HMN
          generalize missN rs = n1 at *
          generalize missN ms = n2 at *
          refine HC9.out.mono ?_
          rintro e w10 ⟨rfl, hk10⟩
          go_wp2_with fail
          refine (HM1.out _ hk10).mono ?_
          rintro e w11 ⟨rfl, hk11⟩
          go_wp2_with fail
          refine (HM2.out _ (hk10.trans hk11)).mono ?_
          rintro e w12 ⟨rfl, hk12⟩
          have ew : IntKind.i64.wrap ((n1 : Int) + (n2 : Int)) = (n1 : Int) + (n2 : Int) := IntWalk.i64_in _ (by omega)
          go_wp2_with fail
          go_ret
          exact ⟨by simp, ((hk6.trans hk10).trans hk11).trans hk12⟩
        · have HM := Lib.hid hcm
          have hql := hq.out q hcm
          clear hcm hq
          have ew2 : IntKind.i64.wrap ((rs.length : Int) + (q : Int)) = (rs.length : Int) + (q : Int) := IntWalk.i64_in _ (by omega)
          simp only [clashV, Option.map_some, Int.natCast_add]
          go_wp2_with fail
          refine (HC8.out _ hk8).mono ?_
          rintro e w9 ⟨rfl, hk9⟩
          rw [HM.out]
          simp only [clashV]
          have hK9 := (hk7.trans hk8).trans hk9
          go_wp2_with
            (first
              | (at_builtin; refine wpList_appG (w0 := w) (by rfl) _ _ _ rfl (.agg #[.string ⟨#[]⟩, .int .u32 0, .int .u32 0]) 24 Try.underlying22 info_rd rfl (by decide) (by decide) rfl (World.ownsRow_nil _ _ _ _) A rs.length c (flat rs) rfl (flat_len rs) (hR.keep hK9).src (flat_one rs) (by omega) hK9 ?_; intro v5 w5 hown5 hk5 hg5 hat5; simp only [Nat.zero_add, List.nil_append] at hown5)
              | (at_builtin; refine wpList_appG (w0 := w) (by rfl) _ _ _ rfl (.agg #[.string ⟨#[]⟩, .int .u32 0, .int .u32 0]) 24 Try.underlying22 info_rd rfl (by decide) (by decide) rfl hown5 D ms.length dc (flat ms) rfl (flat_len ms) (hM.keep hk5).src (flat_one ms) (by omega) hk5 ?_; intro v6 w6 hown6 hk6 hg6 hat6))
          obtain ⟨A9, c9, rfl⟩ := own_slice hown6
          obtain ⟨_, _, hv, hs9⟩ := own_src hown6
          simp only [Value.slice.injEq] at hv
          obtain ⟨rfl, _, rfl⟩ := hv
          rw [← flat_append] at hs9
          have hc9 := misses_any (rs ++ ms) A9 c9 w6 (hs9.rds (by rw [List.length_append]; omega))
          rw [HMN.out, List.length_append] at hc9
          have hm1 := fun W (q : Kp w6 W) => misses_any rs A c W ((hR.keep hk6).keep q)
          have hm2 := fun W (q : Kp w6 W) => misses_any ms D dc W ((hM.keep hk6).keep q)
          have HC9 := Lib.hid hc9
          have HM1 := Lib.hid hm1
          have HM2 := Lib.hid hm2
          clear hc9 hm1 hm2 hs9 hown5 hown6 hg5 hg6 hat5 hat6 HM HMN
          generalize missN rs = n1 at *
          generalize missN ms = n2 at *
          refine HC9.out.mono ?_
          rintro e w10 ⟨rfl, hk10⟩
          go_wp2_with fail
          refine (HM1.out _ hk10).mono ?_
          rintro e w11 ⟨rfl, hk11⟩
          go_wp2_with fail
          refine (HM2.out _ (hk10.trans hk11)).mono ?_
          rintro e w12 ⟨rfl, hk12⟩
          have ew : IntKind.i64.wrap ((n1 : Int) + (n2 : Int)) = (n1 : Int) + (n2 : Int) := IntWalk.i64_in _ (by omega)
          go_wp2_with fail
          go_ret
          exact ⟨by simp, ((hk6.trans hk10).trans hk11).trans hk12⟩
      · simp only [clashV]
        go_wp2_with fail
        refine (alive_any _).mono ?_
        rintro e w3 ⟨rfl, hk3⟩
        go_wp2_with fail
        refine (alive_any _).mono ?_
        rintro e w4 ⟨rfl, hk4⟩
        go_wp2_with fail
        go_ret
        exact ⟨rfl, (hKK.trans hk3).trans hk4⟩
end Go.Proofs.Ytfhkkelhhjbbpaa
