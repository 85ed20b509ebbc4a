/- The contracts of the reference's account: Resume, Oldest, Open. -/
import Derived.Test.YtbcoghfpomnkkaaRChart3
import Derived.Deep.DeepCutAuto
import Derived.Deep.CutBlock
namespace Go.Proofs.Ytbcoghfpomnkkaa
open Go.RowKit
set_option linter.unusedVariables false

theorem nwst_is (l : List (Int × Int)) : ∀ m : Nat, ((nwst l m).1 = -1 ∧ (nwst l m).2 = 0) ∨ ∃ k : Nat, k < m ∧ (nwst l m).1 = k ∧ (nwst l m).2 = epo l k ∧ 0 < epo l k
  | 0 => Or.inl ⟨rfl, rfl⟩
  | m + 1 => by
    have h1 := nwst_is l m
    have h0 := nwst_top l m
    rw [nwst]
    by_cases h : (nwst l m).2 < epo l m
    · rw [if_pos h]; exact Or.inr ⟨m, by omega, rfl, rfl, by omega⟩
    · rw [if_neg h]
      rcases h1 with h1 | ⟨k, hk, h1⟩
      · exact Or.inl h1
      · exact Or.inr ⟨k, by omega, h1⟩

set_option maxHeartbeats 800000 in
theorem rresume_arg (W0 : World) (g b u : Nat) (p s : Int) (l : List (Int × Int)) (o : Int) (h : RcAt W0 g b u p s l o) (i : Int) (hi : i < 0 ∨ (l.length : Int) ≤ i) :
    Calls Try.prog 39 #[.pointer (some ⟨g, 0, none⟩), .int .i64 i] W0 fun e w' => e = .returned (.int .i64 1) ∧ Kp W0 w' := by
  go_enter Try.func39, Try.ntmps39
  go_wp2_with fail
  refine (ris_no W0 g b u p s l o h i hi).mono ?_
  rintro e w1 ⟨rfl, rfl⟩
  go_wp2_with fail
  go_ret
  exact ⟨rfl, Kp.refl _⟩
set_option maxHeartbeats 1600000 in
theorem rresume_state (W0 : World) (g b u : Nat) (p s : Int) (l : List (Int × Int)) (o : Int) (h : RcAt W0 g b u p s l o) (ok : ChOk p s l o) (k : Nat) (hk : k < l.length) (hz : epo l k = 0 ∨ (epo l k ≠ 0 ∧ 0 ≤ o) ∨ (epo l k ≠ 0 ∧ o < 0 ∧ epo l k < (nwst l l.length).2)) :
    Calls Try.prog 39 #[.pointer (some ⟨g, 0, none⟩), .int .i64 k] W0 fun e w' => e = .returned (.int .i64 7) ∧ Kp W0 w' := by
  have hlen := ok.len
  have hk2 : (k : Int) < (l.length : Int) := by omega
  rcases hz with hz | ⟨hz, ho⟩ | ⟨hz, ho, ht⟩
  · obtain ⟨c0, c1, c2, c3, c4, c5⟩ := h.c6
    obtain ⟨e0, e1⟩ := h.c2 k hk
    rw [hz] at e0
    clear hz
    go_enter Try.func39, Try.ntmps39
    go_wp2_with fail
    refine (ris_yes W0 g b u p s l o h _ (by omega) (by omega)).mono ?_
    rintro e w1 ⟨rfl, rfl⟩
    go_wp2_with fail
    go_ret
    exact ⟨rfl, Kp.refl _⟩
  · have hb : (epo l k == 0) = false := by simpa using hz
    obtain ⟨c0, c1, c2, c3, c4, c5⟩ := h.c6
    obtain ⟨e0, e1⟩ := h.c2 k hk
    have hd : decide (0 ≤ o) = true := by simpa using ho
    clear hz
    go_enter Try.func39, Try.ntmps39
    go_wp2_with fail
    refine (ris_yes W0 g b u p s l o h _ (by omega) (by omega)).mono ?_
    rintro e w1 ⟨rfl, rfl⟩
    go_wp2_with fail
    go_ret
    exact ⟨rfl, Kp.refl _⟩
  · have hb : (epo l k == 0) = false := by simpa using hz
    obtain ⟨c0, c1, c2, c3, c4, c5⟩ := h.c6
    obtain ⟨e0, e1⟩ := h.c2 k hk
    have hd : decide (0 ≤ o) = false := by simp; omega
    have hex : ∃ m : Nat, m < l.length ∧ epo l k < epo l m := by
      rcases nwst_is l l.length with ⟨_, h2⟩ | ⟨m, hm, _, h2, h3⟩
      · have := ok.ep0 k; omega
      · exact ⟨m, hm, by omega⟩
    obtain ⟨m, hm, hmk⟩ := hex
    clear hz
    go_enter Try.func39, Try.ntmps39
    go_wp2_with fail
    refine (ris_yes W0 g b u p s l o h _ (by omega) (by omega)).mono ?_
    rintro e w1 ⟨rfl, rfl⟩
    go_wp2_with fail
    go_loopw [5] (fun i wr => ∃ j : Nat, j ≤ m ∧ i = .int .i64 j ∧ Kp W0 wr) (fun i _ => l.length - (intOf i).toNat)
    case atStart => exact ⟨0, by omega, rfl, Kp.refl W0⟩
    case round =>
      obtain ⟨j, hj, rfl, hKr⟩ := hrel
      clear c0 c1 c2 c3 c4 c5 e0 e1
      have hr := h.keep hKr
      have hjl : j < l.length := by omega
      have hjl2 : (j : Int) < (l.length : Int) := by omega
      obtain ⟨c0, c1, c2, c3, c4, c5⟩ := hr.c6
      have HC := Lib.hid (fun W (k9 : Kp wr W) => (hr.keep k9).c6)
      have HE := Lib.hid (fun W (k9 : Kp wr W) => (hr.keep k9).c2 k hk)
      have HE2 := Lib.hid (fun W (k9 : Kp wr W) => (hr.keep k9).c2 j hjl)
      by_cases hc : epo l k < epo l j
      · have hcd : decide (epo l k < epo l j) = true := by simpa using hc
        go_wp2_with fail
        have hInh := fun (x v : Value) => (⟨fun h => h _ ((Kp.refl wr).drew), fun h _ _ => h⟩ : (∀ W, (fun W => Kp wr W) W → x = v) ↔ x = v)
        dsimp only at hInh
        refine wp_region_quietC (C := fun W => Kp wr W) (by kernel_rfl) (by kernel_rfl) ((Kp.refl wr).drew) ?_
        repeat (first | go_big_quiet_step ((intro hW; first | fail | (with_reducible rfl) | (obtain ⟨c0, c1, c2, c3, c4, c5⟩ := HC.out _ hW; obtain ⟨e0, e1⟩ := HE.out _ hW; obtain ⟨e2, e3⟩ := HE2.out _ hW; (try go_simp); first | done | with_reducible rfl | exact ⟨rfl, rfl⟩))) | quiet_step ((intro hW; first | fail | (with_reducible rfl) | (obtain ⟨c0, c1, c2, c3, c4, c5⟩ := HC.out _ hW; obtain ⟨e0, e1⟩ := HE.out _ hW; obtain ⟨e2, e3⟩ := HE2.out _ hW; (try go_simp); first | done | with_reducible rfl | exact ⟨rfl, rfl⟩))))
        refine wpQuiet_nil ?_
        intro wq hwq
        clear hInh
        go_wp2_with fail
        go_ret
        exact ⟨rfl, hKr.trans hwq⟩
      · have hcd : decide (epo l k < epo l j) = false := by simpa using hc
        have hjm : j ≠ m := fun hx => hc (hx ▸ hmk)
        go_wp2_with fail
        have hInh := fun (x v : Value) => (⟨fun h => h _ ((Kp.refl wr).drew), fun h _ _ => h⟩ : (∀ W, (fun W => Kp wr W) W → x = v) ↔ x = v)
        dsimp only at hInh
        refine wp_region_quietC (C := fun W => Kp wr W) (by kernel_rfl) (by kernel_rfl) ((Kp.refl wr).drew) ?_
        repeat (first | go_big_quiet_step ((intro hW; first | fail | (with_reducible rfl) | (obtain ⟨c0, c1, c2, c3, c4, c5⟩ := HC.out _ hW; obtain ⟨e0, e1⟩ := HE.out _ hW; obtain ⟨e2, e3⟩ := HE2.out _ hW; (try go_simp); first | done | with_reducible rfl | exact ⟨rfl, rfl⟩))) | quiet_step ((intro hW; first | fail | (with_reducible rfl) | (obtain ⟨c0, c1, c2, c3, c4, c5⟩ := HC.out _ hW; obtain ⟨e0, e1⟩ := HE.out _ hW; obtain ⟨e2, e3⟩ := HE2.out _ hW; (try go_simp); first | done | with_reducible rfl | exact ⟨rfl, rfl⟩))))
        refine wpQuiet_nil ?_
        intro wq hwq
        clear hInh
        go_wp2_with fail
        go_roundw
        case rel => exact ⟨j + 1, by omega, by go_num, hKr.trans hwq⟩
        case measure => simp [intOf]; omega
set_option maxHeartbeats 1600000 in
theorem rresume_ok (W0 : World) (g b u : Nat) (p s : Int) (l : List (Int × Int)) (o : Int) (h : RcAt W0 g b u p s l o) (ok : ChOk p s l o) (k : Nat) (hk : k < l.length) (hz : epo l k ≠ 0) (ho : o < 0) (ht : (nwst l l.length).2 ≤ epo l k) :
    Calls Try.prog 39 #[.pointer (some ⟨g, 0, none⟩), .int .i64 k] W0 fun e w' => e = .returned (.int .i64 0) ∧ RcAt w' g b u p s l k ∧ Mv [g, b, u] W0 w' := by
  have hlen := ok.len
  have hk2 : (k : Int) < (l.length : Int) := by omega
  have hb : (epo l k == 0) = false := by simpa using hz
  obtain ⟨c0, c1, c2, c3, c4, c5⟩ := h.c6
  obtain ⟨e0, e1⟩ := h.c2 k hk
  have hd : decide (0 ≤ o) = false := by simp; omega
  have HT := Lib.hid ht
  clear hz ht
  go_enter Try.func39, Try.ntmps39
  go_wp2_with fail
  refine (ris_yes W0 g b u p s l o h _ (by omega) (by omega)).mono ?_
  rintro e w1 ⟨rfl, rfl⟩
  go_wp2_with fail
  go_loopw [5] (fun i wr => ∃ j : Nat, j ≤ l.length ∧ i = .int .i64 j ∧ Kp W0 wr) (fun i _ => l.length - (intOf i).toNat)
  case atStart => exact ⟨0, by omega, rfl, Kp.refl W0⟩
  case round =>
    obtain ⟨j, hj, rfl, hKr⟩ := hrel
    clear c0 c1 c2 c3 c4 c5 e0 e1
    have hr := h.keep hKr
    obtain ⟨c0, c1, c2, c3, c4, c5⟩ := hr.c6
    by_cases hjl : j < l.length
    · have hjl2 : (j : Int) < (l.length : Int) := by omega
      have HC := Lib.hid (fun W (k9 : Kp wr W) => (hr.keep k9).c6)
      have HE := Lib.hid (fun W (k9 : Kp wr W) => (hr.keep k9).c2 k hk)
      have HE2 := Lib.hid (fun W (k9 : Kp wr W) => (hr.keep k9).c2 j hjl)
      have hcd : decide (epo l k < epo l j) = false := by have := nwst_ge l l.length j hjl; have := HT.out; simp; omega
      go_wp2_with fail
      have hInh := fun (x v : Value) => (⟨fun h => h _ ((Kp.refl wr).drew), fun h _ _ => h⟩ : (∀ W, (fun W => Kp wr W) W → x = v) ↔ x = v)
      dsimp only at hInh
      refine wp_region_quietC (C := fun W => Kp wr W) (by kernel_rfl) (by kernel_rfl) ((Kp.refl wr).drew) ?_
      repeat (first | go_big_quiet_step ((intro hW; first | fail | (with_reducible rfl) | (obtain ⟨c0, c1, c2, c3, c4, c5⟩ := HC.out _ hW; obtain ⟨e0, e1⟩ := HE.out _ hW; obtain ⟨e2, e3⟩ := HE2.out _ hW; (try go_simp); first | done | with_reducible rfl | exact ⟨rfl, rfl⟩))) | quiet_step ((intro hW; first | fail | (with_reducible rfl) | (obtain ⟨c0, c1, c2, c3, c4, c5⟩ := HC.out _ hW; obtain ⟨e0, e1⟩ := HE.out _ hW; obtain ⟨e2, e3⟩ := HE2.out _ hW; (try go_simp); first | done | with_reducible rfl | exact ⟨rfl, rfl⟩))))
      refine wpQuiet_nil ?_
      intro wq hwq
      clear hInh
      go_wp2_with fail
      go_roundw
      case rel => exact ⟨j + 1, by omega, by go_num, hKr.trans hwq⟩
      case measure => simp [intOf]; omega
    · obtain rfl : j = l.length := by omega
      have f5 := hr.box.free 5
      go_wp2_with fail
      go_ret
      exact ⟨rfl, hr.opn k, (Mv.of hKr).set (by simp) _⟩
end Go.Proofs.Ytbcoghfpomnkkaa
