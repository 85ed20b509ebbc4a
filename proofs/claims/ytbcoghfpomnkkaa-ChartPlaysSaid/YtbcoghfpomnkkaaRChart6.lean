/- The contracts of the reference's account: Open. -/
import Derived.Test.YtbcoghfpomnkkaaRChart5
namespace Go.Proofs.Ytbcoghfpomnkkaa
open Go.RowKit
set_option linter.unusedVariables false

/-- The reference's 'top'. -/
def rtop (l : List (Int × Int)) (k : Nat) : Nat := (nwst l k).1.toNat
theorem rtop_ep (l : List (Int × Int)) (h0 : ∀ k, 0 ≤ epo l k) (k : Nat) (hk : 0 < k) : epo l (rtop l k) = (nwst l k).2 := by
  unfold rtop
  rcases nwst_is l k with ⟨h1, h2⟩ | ⟨m, hm, h1, h2, h3⟩
  · have := nwst_ge l k 0 hk
    have := h0 0
    rw [h1]
    show epo l 0 = _
    omega
  · rw [h1, h2]; rfl
theorem rtop_step (l : List (Int × Int)) (h0 : ∀ k, 0 ≤ epo l k) (k : Nat) : rtop l (k + 1) = if epo l (rtop l k) < epo l k then k else rtop l k := by
  rcases Nat.eq_zero_or_pos k with rfl | hk
  · have : rtop l 0 = 0 := rfl
    rw [this, if_neg (by omega)]
    unfold rtop nwst
    split <;> rfl
  · rw [rtop_ep l h0 k hk]
    unfold rtop
    rw [nwst]
    split <;> rfl
theorem rtop_lt (l : List (Int × Int)) (k n : Nat) (hk : k ≤ n) (hn : 0 < n) : rtop l k < n := by
  have := nwst_at l k
  unfold rtop
  omega
theorem nth_cast (l : List (Int × Int)) (hl : 0 < l.length) (j : Nat) : ((nth l j : Nat) : Int) = ((nwst l l.length).1 + (j : Int)) % (l.length : Int) := by
  unfold nth
  have := Int.emod_nonneg ((nwst l l.length).1 + (j : Int)) (show (l.length : Int) ≠ 0 by omega)
  omega
theorem nth_lt (l : List (Int × Int)) (hl : 0 < l.length) (j : Nat) : nth l j < l.length := by
  have h1 := nth_cast l hl j
  have := Int.emod_lt_of_pos ((nwst l l.length).1 + (j : Int)) (show 0 < (l.length : Int) by omega)
  omega
theorem nth_step (l : List (Int × Int)) (hl : 0 < l.length) (j : Nat) : (((nth l j : Nat) : Int) + 1) % (l.length : Int) = (nth l (j + 1) : Nat) := by
  rw [nth_cast l hl, nth_cast l hl, Int.emod_add_emod]
  congr 1
  omega
/-- How far from the newest. -/
def idx (a n m : Int) : Nat := ((m - a - 1) % n).toNat + 1
theorem idx_emod (a n j : Int) (h1 : 1 ≤ j) (h2 : j ≤ n) : idx a n ((a + j) % n) = j.toNat := by
  unfold idx
  have e : ((a + j) % n - a - 1) % n = (j - 1) % n := by
    rw [show (a + j) % n - a - 1 = (a + j) % n - (a + 1) by omega, Int.emod_sub_emod]
    congr 1; omega
  rw [e, Int.emod_eq_of_lt (by omega) (by omega)]
  omega
theorem idx_nth (l : List (Int × Int)) (j : Nat) (h1 : 1 ≤ j) (h2 : j ≤ l.length) : idx (nwst l l.length).1 l.length (nth l j : Nat) = j := by
  rw [nth_cast l (by omega), idx_emod _ _ _ (by omega) (by omega)]
  omega
theorem nth_idx (l : List (Int × Int)) (k : Nat) (hk : k < l.length) : nth l (idx (nwst l l.length).1 l.length k) = k ∧ 1 ≤ idx (nwst l l.length).1 l.length k ∧ idx (nwst l l.length).1 l.length k ≤ l.length := by
  have h1 := Int.emod_nonneg ((k : Int) - (nwst l l.length).1 - 1) (show (l.length : Int) ≠ 0 by omega)
  have h2 := Int.emod_lt_of_pos ((k : Int) - (nwst l l.length).1 - 1) (show 0 < (l.length : Int) by omega)
  refine ⟨?_, by unfold idx; omega, by unfold idx; omega⟩
  have h3 := nth_cast l (by omega) (idx (nwst l l.length).1 l.length k)
  have h4 : ((idx (nwst l l.length).1 l.length k : Nat) : Int) = ((k : Int) - (nwst l l.length).1 - 1) % (l.length : Int) + 1 := by unfold idx; omega
  rw [h4] at h3
  have h5 : ((nwst l l.length).1 + (((k : Int) - (nwst l l.length).1 - 1) % (l.length : Int) + 1)) % (l.length : Int) = k := by
    rw [show (nwst l l.length).1 + (((k : Int) - (nwst l l.length).1 - 1) % (l.length : Int) + 1) = ((k : Int) - (nwst l l.length).1 - 1) % (l.length : Int) + ((nwst l l.length).1 + 1) by omega, Int.emod_add_emod]
    rw [show (k : Int) - (nwst l l.length).1 - 1 + ((nwst l l.length).1 + 1) = k by omega]
    exact Int.emod_eq_of_lt (by omega) (by omega)
  rw [h5] at h3
  omega
theorem frees_ex (l : List (Int × Int)) : ∀ m, 0 < frees l m → ∃ k, k < m ∧ epo l k = 0
  | 0, h => by simp [frees] at h
  | m + 1, h => by
    by_cases e : epo l m = 0
    · exact ⟨m, by omega, e⟩
    · rw [frees, if_neg e] at h
      obtain ⟨k, hk, hz⟩ := frees_ex l m (by omega)
      exact ⟨k, by omega, hz⟩
theorem least_ex (p : Nat → Prop) : ∀ n, p n → ∃ j, j ≤ n ∧ p j ∧ ∀ i, i < j → ¬ p i := by
  intro n
  induction n using Nat.strongRecOn with
  | _ n ih =>
    intro h
    by_cases e : ∃ i, i < n ∧ p i
    · obtain ⟨i, hi, hp⟩ := e
      obtain ⟨j, h1, h2, h3⟩ := ih i hi hp
      exact ⟨j, by omega, h2, h3⟩
    · exact ⟨n, Nat.le_refl _, h, fun i hi hp => e ⟨i, hi, hp⟩⟩
theorem first_ex (l : List (Int × Int)) (hf : 0 < frees l l.length) : ∃ j, 1 ≤ j ∧ j ≤ l.length ∧ (∀ i, 1 ≤ i → i < j → epo l (nth l i) ≠ 0) ∧ epo l (nth l j) = 0 := by
  obtain ⟨k, hk, hz⟩ := frees_ex l _ hf
  obtain ⟨e1, e2, e3⟩ := nth_idx l k hk
  obtain ⟨j, h1, h2, h3⟩ := least_ex (fun j => 1 ≤ j ∧ epo l (nth l j) = 0) (idx (nwst l l.length).1 l.length k) ⟨e2, by rw [e1]; exact hz⟩
  exact ⟨j, h2.1, by omega, fun i hi hij hx => h3 i hij ⟨hi, hx⟩, h2.2⟩

set_option maxHeartbeats 1600000 in
theorem ropen_no (W0 : World) (g b u : Nat) (p s : Int) (l : List (Int × Int)) (o : Int) (h : RcAt W0 g b u p s l o) (ok : ChOk p s l o) (hz : frees l l.length = 0 ∨ (0 < frees l l.length ∧ 2147483647 ≤ (nwst l l.length).2)) :
    Calls Try.prog 40 #[.pointer (some ⟨g, 0, none⟩)] W0 fun e w' => e = .returned (.tuple #[.int .i64 0, .int .u32 0, .bool false]) ∧ Kp W0 w' := by
  have hlen := ok.len
  have h00 := ok.ep0
  have HST := Lib.hid (rtop_step l h00)
  have HEP := Lib.hid (rtop_ep l h00 l.length (by omega))
  have HLT := Lib.hid (fun k (hk : k ≤ l.length) => rtop_lt l k l.length hk (by omega))
  have HF := Lib.hid (fun W (k : Kp W0 W) => rfree_any W g b u p s l o (h.keep k) (by omega))
  have HZ := Lib.hid hz
  have h10 := ok.ep1
  clear hz
  obtain ⟨c0, c1, c2, c3, c4, c5⟩ := h.c6
  go_enter Try.func40, Try.ntmps40
  go_wp2_with fail
  go_loopw [5, 6] (fun a i wr => ∃ k : Nat, k ≤ l.length ∧ i = .int .i64 k ∧ a = .int .i64 (rtop l k : Nat) ∧ Kp W0 wr) (fun _ i _ => l.length - (intOf i).toNat)
  case atStart => exact ⟨0, by omega, rfl, rfl, Kp.refl W0⟩
  case round =>
    obtain ⟨k, hk, rfl, rfl, hKr⟩ := hrel
    clear c0 c1 c2 c3 c4 c5
    have hr := h.keep hKr
    obtain ⟨c0, c1, c2, c3, c4, c5⟩ := hr.c6
    have htl := HLT.out k hk
    have htl2 : ((rtop l k : Nat) : Int) < (l.length : Int) := by omega
    by_cases hlt : k < l.length
    · have hlt2 : (k : Int) < (l.length : Int) := by omega
      have HC := Lib.hid (fun W (k9 : Kp wr W) => (hr.keep k9).c6)
      have HE := Lib.hid (fun W (k9 : Kp wr W) => (hr.keep k9).c2 k hlt)
      have HE2 := Lib.hid (fun W (k9 : Kp wr W) => (hr.keep k9).c2 (rtop l k) htl)
      have hs := HST.out k
      by_cases hc : epo l (rtop l k) < epo l k
      · rw [if_pos hc] at hs
        have HS := Lib.hid hs
        have hcd : decide (epo l (rtop l k) < epo l k) = true := by simpa using hc
        clear hs
        generalize rtop l k = t at *
        go_wp2_with fail
        have hInh := fun (x v : Value) => (⟨fun h => h _ ((Kp.refl wr).drew), fun h _ _ => h⟩ : (∀ W, (fun W => Kp wr W) W → x = v) ↔ x = v)
        dsimp only at hInh
        refine wp_region_quietC (C := fun W => Kp wr W) (by kernel_rfl) (by kernel_rfl) ((Kp.refl wr).drew) ?_
        repeat (first | go_big_quiet_step ((intro hW; first | fail | (with_reducible rfl) | (obtain ⟨c0, c1, c2, c3, c4, c5⟩ := HC.out _ hW; obtain ⟨e0, e1⟩ := HE.out _ hW; obtain ⟨e2, e3⟩ := HE2.out _ hW; (try go_simp); first | done | with_reducible rfl | exact ⟨rfl, rfl⟩))) | quiet_step ((intro hW; first | fail | (with_reducible rfl) | (obtain ⟨c0, c1, c2, c3, c4, c5⟩ := HC.out _ hW; obtain ⟨e0, e1⟩ := HE.out _ hW; obtain ⟨e2, e3⟩ := HE2.out _ hW; (try go_simp); first | done | with_reducible rfl | exact ⟨rfl, rfl⟩))))
        refine wpQuiet_nil ?_
        intro wq hwq
        clear hInh
        go_wp2_with fail
        go_roundw
        case rel => exact ⟨k + 1, by omega, by go_num, by rw [HS.out], hKr.trans hwq⟩
        case measure => simp [intOf]; omega
      · rw [if_neg hc] at hs
        have HS := Lib.hid hs
        have hcd : decide (epo l (rtop l k) < epo l k) = false := by simpa using hc
        clear hs
        generalize rtop l k = t at *
        go_wp2_with fail
        have hInh := fun (x v : Value) => (⟨fun h => h _ ((Kp.refl wr).drew), fun h _ _ => h⟩ : (∀ W, (fun W => Kp wr W) W → x = v) ↔ x = v)
        dsimp only at hInh
        refine wp_region_quietC (C := fun W => Kp wr W) (by kernel_rfl) (by kernel_rfl) ((Kp.refl wr).drew) ?_
        repeat (first | go_big_quiet_step ((intro hW; first | fail | (with_reducible rfl) | (obtain ⟨c0, c1, c2, c3, c4, c5⟩ := HC.out _ hW; obtain ⟨e0, e1⟩ := HE.out _ hW; obtain ⟨e2, e3⟩ := HE2.out _ hW; (try go_simp); first | done | with_reducible rfl | exact ⟨rfl, rfl⟩))) | quiet_step ((intro hW; first | fail | (with_reducible rfl) | (obtain ⟨c0, c1, c2, c3, c4, c5⟩ := HC.out _ hW; obtain ⟨e0, e1⟩ := HE.out _ hW; obtain ⟨e2, e3⟩ := HE2.out _ hW; (try go_simp); first | done | with_reducible rfl | exact ⟨rfl, rfl⟩))))
        refine wpQuiet_nil ?_
        intro wq hwq
        clear hInh
        go_wp2_with fail
        go_roundw
        case rel => exact ⟨k + 1, by omega, by go_num, by rw [HS.out], hKr.trans hwq⟩
        case measure => simp [intOf]; omega
    · obtain rfl : k = l.length := by omega
      obtain ⟨e0, e1⟩ := hr.c2 (rtop l l.length) htl
      have hep := HEP.out
      have h0 := h00 (rtop l l.length)
      have h1 := h10 (rtop l l.length)
      generalize rtop l l.length = t at *
      rw [hep] at e0 h0 h1
      clear hep HEP h00 h10
      generalize (nwst l l.length).2 = z at *
      have hw1 : IntKind.u32.wrap (z + 1) = z + 1 := by simp [IntKind.wrap, IntKind.bits, IntKind.signed]; omega
      have hz := HZ.out
      rcases hz with hz | ⟨hz, hz2⟩
      · rw [hz] at HF
        clear HZ hz
        go_wp2_with fail
        refine (HF.out _ hKr).mono ?_
        rintro e w2 ⟨rfl, hk2⟩
        go_wp2_with fail
        go_ret3
        exact ⟨rfl, hKr.trans hk2⟩
      · clear HZ
        have hb : ((frees l l.length : Int) == 0) = false := by simp; omega
        generalize frees l l.length = f at *
        go_wp2_with fail
        refine (HF.out _ hKr).mono ?_
        rintro e w2 ⟨rfl, hk2⟩
        go_wp2_with fail
        go_ret3
        exact ⟨rfl, hKr.trans hk2⟩
end Go.Proofs.Ytbcoghfpomnkkaa
