/- Both accounts, call by call. -/
import Derived.Test.YtbcoghfpomnkkaaRChart7
namespace Go.Proofs.Ytbcoghfpomnkkaa
open Go.RowKit
set_option linter.unusedVariables false

theorem ChAt.mv {W W' : World} {S : List Nat} {g q : Nat} {p s : Int} {l : List (Int × Int)} {o : Int} (h : ChAt W g q p s l o) (k : Mv S W W') (hg : g ∉ S) (hq : q ∉ S) : ChAt W' g q p s l o :=
  ⟨h.box.mv k hg, h.row.mv k hq, h.ne⟩
set_option maxHeartbeats 400000 in
theorem cused_in (W : World) (g q : Nat) (p s : Int) (l : List (Int × Int)) (o : Int) (h : ChAt W g q p s l o) (hl : l.length ≤ 100) (i : Nat) (hi : i < l.length) :
    Calls Try.prog 31 #[.pointer (some ⟨g, 0, none⟩), .int .i64 i] W fun e w' => e = .returned (.int .i64 (uso l i)) ∧ Kp W w' := by
  obtain ⟨c0, c1, c2, c3, c4⟩ := h.c5
  obtain ⟨e0, e1⟩ := h.eu i hi
  have hi2 : (i : Int) < (l.length : Int) := by omega
  go_enter Try.func31, Try.ntmps31
  go_wp2_with fail
  refine (chas_yes W g q p s l o h _ (by omega) (by omega)).mono ?_
  rintro e w' ⟨rfl, rfl⟩
  go_wp2_with fail
  go_ret
  exact ⟨rfl, Kp.refl _⟩
theorem cepochK (W : World) (g q : Nat) (p s : Int) (l : List (Int × Int)) (o : Int) (h : ChAt W g q p s l o) (hl : l.length ≤ 100) (i : Nat) (hi : i < l.length) :
    Calls Try.prog 30 #[.pointer (some ⟨g, 0, none⟩), .int .i64 i] W fun e w' => e = .returned (.int .u32 (epo l i)) ∧ Kp W w' :=
  (cepoch_in W g q p s l o h hl i hi).mono fun e w' ⟨h1, h2⟩ => ⟨by rw [h1, ep_in], h2 ▸ Kp.refl _⟩
set_option maxHeartbeats 400000 in
theorem cused_out (W : World) (g q : Nat) (p s : Int) (l : List (Int × Int)) (o : Int) (h : ChAt W g q p s l o) (i : Int) (hi : i < 0 ∨ (l.length : Int) ≤ i) :
    Calls Try.prog 31 #[.pointer (some ⟨g, 0, none⟩), .int .i64 i] W fun e w' => e = .returned (.int .i64 0) ∧ Kp W w' := by
  go_enter Try.func31, Try.ntmps31
  go_wp2_with fail
  refine (chas_no W g q p s l o h i hi).mono ?_
  rintro e w' ⟨rfl, rfl⟩
  go_wp2_with fail
  go_ret
  exact ⟨rfl, Kp.refl _⟩
set_option maxHeartbeats 400000 in
theorem cepoch_out (W : World) (g q : Nat) (p s : Int) (l : List (Int × Int)) (o : Int) (h : ChAt W g q p s l o) (i : Int) (hi : i < 0 ∨ (l.length : Int) ≤ i) :
    Calls Try.prog 30 #[.pointer (some ⟨g, 0, none⟩), .int .i64 i] W fun e w' => e = .returned (.int .u32 0) ∧ Kp W w' := by
  go_enter Try.func30, Try.ntmps30
  go_wp2_with fail
  refine (chas_no W g q p s l o h i hi).mono ?_
  rintro e w' ⟨rfl, rfl⟩
  go_wp2_with fail
  go_ret
  exact ⟨rfl, Kp.refl _⟩
set_option maxHeartbeats 400000 in
theorem cgeom_any (W : World) (g q : Nat) (p s : Int) (l : List (Int × Int)) (o : Int) (h : ChAt W g q p s l o) :
    Calls Try.prog 26 #[.pointer (some ⟨g, 0, none⟩)] W fun e w' => e = .returned (geo p s (l.length : Nat)) ∧ Kp W w' := by
  have c0 := fun O => ((h.keep (Kp.one W O)).c5).1
  have c1 := fun O => ((h.keep (Kp.one W O)).c5).2.1
  have c2 := fun O => ((h.keep (Kp.one W O)).c5).2.2.1
  go_enter Try.func26, Try.ntmps26
  go_wp2_with fail
  refine bodyPost_ret (v := geo p s (l.length : Nat)) (by simp [results, Try.results26, go_sem]) rfl ⟨rfl, ?_⟩
  (repeat (first | with_reducible exact Kp.refl _ | with_reducible assumption | with_reducible refine Kp.alloc ?_ _ | with_reducible refine Kp.drew ?_ | with_reducible refine Kp.drewN ?_ _ | exact Kp.refl _ | assumption | refine Kp.alloc ?_ _ | refine Kp.drew ?_ | refine Kp.drewN ?_ _ | refine Kp.trans ?_ (by assumption)))

theorem ok_put {p s : Int} {l : List (Int × Int)} {o : Int} (ok : ChOk p s l o) (k : Nat) (hk : k < l.length) (a b : Int) (a0 : 0 ≤ a) (a1 : a ≤ 2147483647) (b0 : 0 ≤ b) (b1 : b ≤ s - 1) (o' : Int) (ho : (o' = o ∧ (o ≠ k ∨ 0 < a)) ∨ (o' = k ∧ 0 < a)) : ChOk p s (l.set k (a, b)) o' := by
  refine ⟨by rw [List.length_set]; exact ok.right, fun j => ?_, fun j => ?_, fun j => ?_, fun j => ?_, ?_⟩
  · rw [epo_set _ _ _ _ hk]; split; exact a0; exact ok.ep0 j
  · rw [epo_set _ _ _ _ hk]; split; exact a1; exact ok.ep1 j
  · rw [uso_set _ _ _ _ hk]; split; exact b0; exact ok.us0 j
  · rw [uso_set _ _ _ _ hk]; split; exact b1; exact ok.us1 j
  · rw [List.length_set]
    rcases ho with ⟨rfl, h1⟩ | ⟨rfl, h1⟩
    · rcases ok.op with h2 | ⟨m, hm, rfl, h3⟩
      · exact Or.inl h2
      · refine Or.inr ⟨m, hm, rfl, ?_⟩
        rw [epo_set _ _ _ _ hk]
        split
        · subst_vars; rcases h1 with h1 | h1
          · exact absurd rfl h1
          · exact h1
        · exact h3
    · exact Or.inr ⟨k, hk, rfl, by rw [epo_set _ _ _ _ hk, if_pos rfl]; exact h1⟩

/-- A call of both accounts: one answer, one account behind it. -/
def Both (f f' : Nat) (args : List Value) (p s : Int) (l : List (Int × Int)) (o : Int) (v : Value) (l' : List (Int × Int)) (o' : Int) : Prop :=
  l'.length = l.length ∧ ChOk p s l' o' ∧
  (∀ (W : World) (g q : Nat), ChAt W g q p s l o → Calls Try.prog f (Value.pointer (some ⟨g, 0, none⟩) :: args).toArray W fun e w' => e = .returned v ∧ ChAt w' g q p s l' o' ∧ Mv [g, q] W w') ∧
  (∀ (W : World) (g b u : Nat), RcAt W g b u p s l o → Calls Try.prog f' (Value.pointer (some ⟨g, 0, none⟩) :: args).toArray W fun e w' => e = .returned v ∧ RcAt w' g b u p s l' o' ∧ Mv [g, b, u] W w')
theorem both_same {f f' : Nat} {args : List Value} {p s : Int} {l : List (Int × Int)} {o : Int} {v : Value} (ok : ChOk p s l o)
    (h1 : ∀ (W : World) (g q : Nat), ChAt W g q p s l o → Calls Try.prog f (Value.pointer (some ⟨g, 0, none⟩) :: args).toArray W fun e w' => e = .returned v ∧ Kp W w')
    (h2 : ∀ (W : World) (g b u : Nat), RcAt W g b u p s l o → Calls Try.prog f' (Value.pointer (some ⟨g, 0, none⟩) :: args).toArray W fun e w' => e = .returned v ∧ Kp W w') : Both f f' args p s l o v l o :=
  ⟨rfl, ok, fun W g q h => (h1 W g q h).mono fun e w' ⟨a, b⟩ => ⟨a, h.keep b, Mv.of b⟩, fun W g b u h => (h2 W g b u h).mono fun e w' ⟨a, b⟩ => ⟨a, h.keep b, Mv.of b⟩⟩

theorem both_set {p s : Int} {l : List (Int × Int)} {o : Int} (ok : ChOk p s l o) (i e v : Int) (e0 : 0 ≤ e) : ∃ c l', Both 17 38 [.int .i64 i, .int .u32 e, .int .i64 v] p s l o (.int .i64 c) l' o := by
  have hR := ok.right
  by_cases hbad : (i < 0 ∨ (l.length : Int) ≤ i) ∨ (0 ≤ i ∧ i < (l.length : Int) ∧ e < 1) ∨ (0 ≤ i ∧ i < (l.length : Int) ∧ 1 ≤ e ∧ 2147483647 < e) ∨ (0 ≤ i ∧ i < (l.length : Int) ∧ 1 ≤ e ∧ e ≤ 2147483647 ∧ v < 0) ∨ (0 ≤ i ∧ i < (l.length : Int) ∧ 1 ≤ e ∧ e ≤ 2147483647 ∧ 0 ≤ v ∧ s - 1 < v)
  · exact ⟨1, l, both_same ok (fun W g q h => cset_arg W g q p s l o h hR i e v hbad) (fun W g b u h => rset_arg W g b u p s l o h hR i e v hbad)⟩
  · obtain ⟨k, rfl⟩ : ∃ k : Nat, i = k := ⟨i.toNat, by omega⟩
    have hk : k < l.length := by omega
    by_cases hz : epo l k = 0
    · refine ⟨0, l.set k (e, v), List.length_set, ok_put ok k hk e v e0 (by omega) (by omega) (by omega) o (Or.inl ⟨rfl, Or.inr (by omega)⟩), fun W g q h => ?_, fun W g b u h => ?_⟩
      · exact cset_ok W g q p s l o h hR k hk e v (by omega) (by omega) (by omega) (by omega) hz
      · exact rset_ok W g b u p s l o h hR k hk e v (by omega) (by omega) (by omega) (by omega) hz
    · have := ok.ep0 k
      exact ⟨7, l, both_same ok (fun W g q h => cset_state W g q p s l o h hR k hk e v (by omega) (by omega) (by omega) (by omega) (by omega)) (fun W g b u h => rset_state W g b u p s l o h hR k hk e v (by omega) (by omega) (by omega) (by omega) (by omega))⟩
theorem both_resume {p s : Int} {l : List (Int × Int)} {o : Int} (ok : ChOk p s l o) (i : Int) : ∃ c o', Both 19 39 [.int .i64 i] p s l o (.int .i64 c) l o' := by
  by_cases hbad : i < 0 ∨ (l.length : Int) ≤ i
  · exact ⟨1, o, both_same ok (fun W g q h => cresume_arg W g q p s l o h i hbad) (fun W g b u h => rresume_arg W g b u p s l o h i hbad)⟩
  · obtain ⟨k, rfl⟩ : ∃ k : Nat, i = k := ⟨i.toNat, by omega⟩
    have hk : k < l.length := by omega
    by_cases hz : epo l k = 0 ∨ (epo l k ≠ 0 ∧ 0 ≤ o) ∨ (epo l k ≠ 0 ∧ o < 0 ∧ epo l k < (nwst l l.length).2)
    · exact ⟨7, o, both_same ok (fun W g q h => cresume_state W g q p s l o h ok k hk hz) (fun W g b u h => rresume_state W g b u p s l o h ok k hk hz)⟩
    · have h0 := ok.ep0 k
      refine ⟨0, k, rfl, ⟨ok.right, ok.ep0, ok.ep1, ok.us0, ok.us1, Or.inr ⟨k, hk, rfl, by omega⟩⟩, fun W g q h => ?_, fun W g b u h => ?_⟩
      · exact cresume_ok W g q p s l o h ok k hk (by omega) (by omega) (by omega)
      · exact rresume_ok W g b u p s l o h ok k hk (by omega) (by omega) (by omega)
theorem both_open {p s : Int} {l : List (Int × Int)} {o : Int} (ok : ChOk p s l o) : ∃ (a e : Int) (d : Bool), ∃ l' o', Both 14 40 [] p s l o (.tuple #[.int .i64 a, .int .u32 e, .bool d]) l' o' := by
  have hl := ok.len
  by_cases hz : frees l l.length = 0 ∨ (0 < frees l l.length ∧ 2147483647 ≤ (nwst l l.length).2)
  · exact ⟨0, 0, false, l, o, both_same ok (fun W g q h => copen_no W g q p s l o h (by omega) ok.ep0 hz) (fun W g b u h => ropen_no W g b u p s l o h ok hz)⟩
  · obtain ⟨j, h1, h2, h3, h4⟩ := first_ex l (by omega)
    have hk := nth_lt l (by omega) j
    have ht := nwst_top l l.length
    obtain ⟨r1, r2, r3, r4, r5, r6⟩ := ok.right
    refine ⟨(nth l j : Nat), (nwst l l.length).2 + 1, true, l.set (nth l j) ((nwst l l.length).2 + 1, 0), (nth l j : Nat), List.length_set, ok_put ok (nth l j) hk ((nwst l l.length).2 + 1) 0 (by omega) (by omega) (by omega) (by omega) (nth l j : Nat) (Or.inr ⟨rfl, by omega⟩), fun W g q h => ?_, fun W g b u h => ?_⟩
    · exact copen_yes W g q p s l o h (by omega) (by omega) ok.ep0 (by omega) (by omega) j h1 h2 h3 h4
    · exact ropen_yes W g b u p s l o h ok (by omega) (by omega) j h1 h2 h3 h4
theorem both_take {p s : Int} {l : List (Int × Int)} {o : Int} (ok : ChOk p s l o) : ∃ (a : Int) (d : Bool), ∃ l', Both 22 42 [] p s l o (.tuple #[.int .i64 a, .bool d]) l' o := by
  by_cases hz : leftF s l o ≤ 0
  · exact ⟨0, false, l, both_same ok (fun W g q h => ctake_no W g q p s l o h ok hz) (fun W g b u h => rtake_no W g b u p s l o h ok hz)⟩
  · rcases ok.op with rfl | ⟨k, hk, rfl, he⟩
    · exact absurd (Int.le_refl 0) hz
    · have hu : uso l k < s - 1 := by unfold leftF at hz; rw [if_neg (by omega)] at hz; simp at hz; omega
      have := ok.ep1 k
      have := ok.us0 k
      refine ⟨(k : Int) * s + (uso l k + 1), true, l.set k (epo l k, uso l k + 1), List.length_set, ok_put ok k hk (epo l k) (uso l k + 1) (by omega) (by omega) (by omega) (by omega) (k : Int) (Or.inr ⟨rfl, he⟩), fun W g q h => ?_, fun W g b u h => ?_⟩
      · exact ctake_yes W g q p s l k h ok hk hu
      · exact rtake_yes W g b u p s l k h ok hk hu
theorem both_erase {p s : Int} {l : List (Int × Int)} {o : Int} (ok : ChOk p s l o) (i : Int) : ∃ c l', Both 15 41 [.int .i64 i] p s l o (.int .i64 c) l' o := by
  have hl := ok.len
  by_cases hbad : i < 0 ∨ (l.length : Int) ≤ i
  · exact ⟨1, l, both_same ok (fun W g q h => cerase_arg W g q p s l o h i hbad) (fun W g b u h => rerase_arg W g b u p s l o h i hbad)⟩
  · obtain ⟨k, rfl⟩ : ∃ k : Nat, i = k := ⟨i.toNat, by omega⟩
    have hk : k < l.length := by omega
    by_cases hz : epo l k = 0 ∨ (epo l k ≠ 0 ∧ o = k)
    · exact ⟨7, l, both_same ok (fun W g q h => cerase_state W g q p s l o h (by omega) k hk hz) (fun W g b u h => rerase_state W g b u p s l o h (by omega) k hk hz)⟩
    · have h0 := ok.ep0 k
      obtain ⟨r1, r2, r3, r4, r5, r6⟩ := ok.right
      refine ⟨0, l.set k (0, 0), List.length_set, ok_put ok k hk 0 0 (by omega) (by omega) (by omega) (by omega) o (Or.inl ⟨rfl, Or.inl (by omega)⟩), fun W g q h => ?_, fun W g b u h => ?_⟩
      · exact cerase_ok W g q p s l o h (by omega) k hk (by omega) (by omega)
      · exact rerase_ok W g b u p s l o h (by omega) k hk (by omega) (by omega)
end Go.Proofs.Ytbcoghfpomnkkaa
