/- The walk of the statement ValidShort of chapter 23. -/
import Derived.Test.YtfhkkelhhjbbpaaLawValid2
namespace Go.Proofs.Ytfhkkelhhjbbpaa
open Go.RowKit
set_option linter.unusedVariables false

theorem clash_congr {rs : List Rd} {xs ys : List Int} {f : Int} (h : ∀ j, j < rs.length → nowAt xs j = nowAt ys j) : clash rs xs f = clash rs ys f := by
  have hb : ∀ j, badAt rs xs f j = badAt rs ys f j := fun j => by
    by_cases hj : j < rs.length
    · rw [badAt_eq hj, badAt_eq hj, h j hj]
    · unfold badAt; rw [List.getElem?_eq_none (by omega)]
  unfold clash
  rw [show badAt rs xs f = badAt rs ys f from funext hb]
theorem now_left (xs ys : List Int) (j : Nat) (h : j < xs.length) : nowAt (xs ++ ys) j = nowAt xs j := by
  unfold nowAt
  simp [List.getD_eq_getElem?_getD, List.getElem?_append_left h]
theorem now_zeros (xs : List Int) (k j : Nat) : nowAt (xs ++ List.replicate k 0) j = nowAt xs j := by
  unfold nowAt
  by_cases h : j < xs.length
  · simp [List.getD_eq_getElem?_getD, List.getElem?_append_left h]
  · rw [List.getD_eq_getElem?_getD, List.getD_eq_getElem?_getD, List.getElem?_append_right (by omega), List.getElem?_eq_none (l := xs) (by omega), List.getElem?_replicate]
    split <;> rfl
theorem short_same (rs : List Rd) (xs ys : List Int) (k : Nat) (f : Int) (h : rs.length ≤ xs.length + k) : clash rs ((xs ++ List.replicate k 0) ++ ys) f = clash rs xs f :=
  clash_congr fun j hj => by rw [now_left _ _ _ (by simp; omega), now_zeros]

set_option maxHeartbeats 1600000 in
theorem ValidShort_walk (w : World) (A : Option Addr) (c : Nat) (rs : List Rd) (hR : RdsAt w A rs) (hr24 : rs.length * 24 ≤ 140737488351232) (hok : RdOk rs) (br : rs.length ≤ 1048576) (B : Option Addr) (d : Nat) (xs : List Int) (hX : NumsAt .u32 w B xs) (hx4 : xs.length * 4 ≤ 140737488351232) (hxw : ∀ x ∈ xs, (Lit.int .u32 x).wf = true) (bx : xs.length ≤ 1048576) (f : Int) (wf : (Lit.int .u32 f).wf = true) (D : Option Addr) (dc : Nat) (ys : List Int) (hY : NumsAt .u32 w D ys) (hy4 : ys.length * 4 ≤ 140737488351232) (hyw : ∀ x ∈ ys, (Lit.int .u32 x).wf = true) (by1 : ys.length ≤ 1048576) :
    Calls Try.prog 6 #[.slice A rs.length c, .slice B xs.length d, .int .u32 f, .slice D ys.length dc] w fun e w' => e = .returned (.bool true) ∧ Kp w w' := by
  go_enter Try.func6, Try.ntmps6
  go_wp2_with (at_builtin; refine wpList_app (w0 := w) rfl _ _ _ rfl (.int .u32 0) 4 Try.underlying23 info_u32 rfl (by decide) (by decide) rfl (World.ownsRow_nil _ _ _ _) B xs.length d (u32s xs) rfl (by simp) hX.src (nums_one _ _) (by omega) (Kp.refl _) ?_; intro v1 w1 hown1 hk1 hg1 hat1; simp only [Nat.zero_add, List.nil_append] at hown1; obtain ⟨A1, c1, rfl⟩ := own_slice hown1)
  clear hg1 hat1
  go_loopw [9, 10] (fun v i wr => ∃ k : Nat, (k = 0 ∨ xs.length + k ≤ rs.length) ∧ i = .int .i64 ((xs.length + k : Nat) : Int) ∧ Kp w wr ∧ wr.ownsRow w.heap.size 24 1 v (xs.length + k) (u32s (xs ++ List.replicate k 0))) (fun _ i _ => rs.length - (intOf i).toNat)
  case atStart => exact ⟨0, .inl rfl, rfl, hk1, by simpa using hown1⟩
  case round =>
    obtain ⟨k, hk, rfl, hK, hown⟩ := hrel
    clear hown1 hk1
    obtain ⟨A2, c2, rfl⟩ := own_slice hown
    by_cases hlt : xs.length + k < rs.length
    · go_wp2_with (at_builtin; refine wpList_app (w0 := w) rfl _ _ _ rfl (.int .u32 0) 4 Try.underlying23 info_u32 rfl (by decide) (by decide) rfl (own_keep hown (Kp.one _ _)) (some ⟨wr.heap.size, 0, none⟩) 1 1 [.int .u32 0] rfl rfl (src_one _ _ _ (by simp)) (by intro u hu; simp at hu; subst hu; rfl) (by omega) (hK.alloc _) ?_; intro v3 w3 hown3 hk3 hg3 hat3)
      have hn3 : w3.ownsRow w.heap.size 24 1 v3 (xs.length + (k + 1)) (u32s (xs ++ List.replicate (k + 1) 0)) := by
        have e : u32s (xs ++ List.replicate (k + 1) 0) = u32s (xs ++ List.replicate k 0) ++ [.int .u32 0] := by
          rw [List.replicate_succ']; simp [u32s]
        rw [e, ← Nat.add_assoc]; exact hown3
      go_roundw
      case rel => exact ⟨k + 1, .inr (by omega), by go_num, hk3, hn3⟩
      case measure => simp [intOf]; omega
    · obtain ⟨_, _, hv, hsrc⟩ := own_src hown
      simp only [Value.slice.injEq] at hv
      obtain ⟨rfl, _, rfl⟩ := hv
      have HS := Lib.hid (short_same rs xs ys k f (by omega))
      have hc1 := fun W (q : Kp wr W) => clash_any rs A c xs B d f W ((hR.keep hK).keep q) ((hX.keep hK).keep q)
      have HC1 := Lib.hid hc1
      clear hc1
      have hb : xs.length + k ≤ 2097152 := by omega
      have hz : (u32s (xs ++ List.replicate k 0)).length = (xs.length + k) * 1 := by simp
      generalize xs ++ List.replicate k 0 = zs at *
      have hzl : zs.length = xs.length + k := by simpa using hz
      generalize xs.length + k = n at *
      go_wp2_with fail
      refine (HC1.out _ (Kp.refl _)).mono ?_
      rintro e w2 ⟨rfl, hk2⟩
      generalize clash rs xs f = o at *
      have hS2 := hsrc.keep hk2
      have hKK := hK.trans hk2
      have HO := Lib.hid (show clashV o = .tuple #[(match o with | none => .int .i64 0 | some i => .int .i64 i), .bool o.isSome] by cases o <;> rfl)
      rcases o with _ | q
      all_goals
        simp only [clashV]
        go_wp2_with
          (first
            | (at_builtin; refine wpList_app (w0 := w) rfl _ _ _ rfl (.int .u32 0) 4 Try.underlying23 info_u32 rfl (by decide) (by decide) rfl (World.ownsRow_nil _ _ _ _) A2 n c2 (u32s zs) rfl hz hS2 (nums_one _ _) (by omega) hKK ?_; intro v5 w5 hown5 hk5 hg5 hat5; simp only [Nat.zero_add, List.nil_append] at hown5)
            | (at_builtin; refine wpList_app (w0 := w) rfl _ _ _ rfl (.int .u32 0) 4 Try.underlying23 info_u32 rfl (by decide) (by decide) rfl hown5 D ys.length dc (u32s ys) rfl (by simp) (hY.keep hk5).src (nums_one _ _) (by omega) hk5 ?_; intro v6 w6 hown6 hk6 hg6 hat6; obtain ⟨A6, c6, rfl⟩ := own_slice hown6))
        obtain ⟨_, _, hv, hs6⟩ := own_src hown6
        simp only [Value.slice.injEq] at hv
        obtain ⟨rfl, _, rfl⟩ := hv
        have e6 : u32s zs ++ u32s ys = u32s (zs ++ ys) := by simp [u32s]
        rw [e6] at hs6
        have hl6 : n + ys.length = (zs ++ ys).length := by simp [hzl]
        have hN6 : NumsAt .u32 w6 A6 (zs ++ ys) := hs6.nums (by rw [← hl6]; omega)
        have hc2 := clash_any rs A c (zs ++ ys) A6 c6 f w6 (hR.keep hk6) hN6
        rw [HS.out, ← hl6] at hc2
        clear hl6 e6 hz hzl hs6 hN6 hg6 hat6 hg5 hat5 HO
        refine hc2.mono ?_
        rintro e w7 ⟨rfl, hk7⟩
        simp only [clashV]
        go_wp2_with fail
        refine (alive_any _).mono ?_
        rintro e w8 ⟨rfl, hk8⟩
        go_wp2_with fail
        go_ret
        exact ⟨rfl, (hk6.trans hk7).trans hk8⟩
end Go.Proofs.Ytfhkkelhhjbbpaa
