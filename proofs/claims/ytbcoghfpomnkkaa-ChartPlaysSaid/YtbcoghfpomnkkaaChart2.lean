/- The contracts of package chart: what reads. -/
import Derived.Test.YtbcoghfpomnkkaaChart
namespace Go.Proofs.Ytbcoghfpomnkkaa
open Go.RowKit
set_option linter.unusedVariables false

/-- The epoch of a region, the used slots. -/
def epo (l : List (Int × Int)) (k : Nat) : Int := (l.getD k (0, 0)).1
def uso (l : List (Int × Int)) (k : Nat) : Int := (l.getD k (0, 0)).2
theorem ep_in (l : List (Int × Int)) (k : Nat) (h : k < l.length) : l[k].1 = epo l k := by unfold epo; simp [h]
theorem us_in (l : List (Int × Int)) (k : Nat) (h : k < l.length) : l[k].2 = uso l k := by unfold uso; simp [h]
theorem ChAt.eu {W : World} {g q : Nat} {p s : Int} {l : List (Int × Int)} {o : Int} (h : ChAt W g q p s l o) (i : Nat) (hi : i < l.length) :
    W.cell? ⟨q, i * 2, none⟩ = some (.int .u32 (epo l i)) ∧ W.cell? ⟨q, i * 2 + 1, none⟩ = some (.int .i64 (uso l i)) := by
  have := h.ep i hi
  rwa [ep_in, us_in] at this
/-- What holds of every account. -/
structure ChOk (p s : Int) (l : List (Int × Int)) (o : Int) : Prop where
  right : RightG p s (l.length : Nat)
  ep0 : ∀ k, 0 ≤ epo l k
  ep1 : ∀ k, epo l k ≤ 2147483647
  us0 : ∀ k, 0 ≤ uso l k
  us1 : ∀ k, uso l k ≤ s - 1
  op : o = -1 ∨ ∃ k : Nat, k < l.length ∧ o = k ∧ 0 < epo l k
theorem ChOk.len {p s : Int} {l : List (Int × Int)} {o : Int} (h : ChOk p s l o) : 4 ≤ l.length ∧ l.length ≤ 12 := by
  obtain ⟨h1, h2, h3, h4, h5, h6⟩ := h.right; omega

def frees (l : List (Int × Int)) : Nat → Nat
  | 0 => 0
  | k + 1 => frees l k + if epo l k = 0 then 1 else 0
theorem frees_le (l : List (Int × Int)) : ∀ k, frees l k ≤ k
  | 0 => Nat.le_refl _
  | k + 1 => by have := frees_le l k; unfold frees; split <;> omega
def nwst (l : List (Int × Int)) : Nat → Int × Int
  | 0 => (-1, 0)
  | k + 1 => if (nwst l k).2 < epo l k then (k, epo l k) else nwst l k
theorem nwst_top (l : List (Int × Int)) : ∀ k, 0 ≤ (nwst l k).2
  | 0 => Int.le_refl _
  | k + 1 => by have := nwst_top l k; unfold nwst; split <;> simp <;> omega

set_option maxHeartbeats 800000 in
theorem cfree_any (W : World) (g q : Nat) (p s : Int) (l : List (Int × Int)) (o : Int) (h : ChAt W g q p s l o) (hl : l.length ≤ 100) (hr : ∀ k, 0 ≤ epo l k) :
    Calls Try.prog 16 #[.pointer (some ⟨g, 0, none⟩)] W fun e w' => e = .returned (.int .i64 (frees l l.length : Nat)) ∧ Kp W w' := by
  obtain ⟨c0, c1, c2, c3, c4⟩ := h.c5
  go_enter Try.func16, Try.ntmps16
  go_wp2_with fail
  go_loopw [3, 13] (fun n i wr => ∃ k : Nat, k ≤ l.length ∧ i = .int .i64 k ∧ n = .int .i64 (frees l k : Nat) ∧ Kp W wr) (fun _ i _ => l.length - (intOf i).toNat)
  case atStart => exact ⟨0, by omega, rfl, rfl, Kp.refl W⟩
  case round =>
    obtain ⟨k, hk, rfl, rfl, hKr⟩ := hrel
    have hf := frees_le l k
    clear c0 c1 c2 c3 c4
    by_cases hlt : k < l.length
    · obtain ⟨e0, e1⟩ := (h.keep hKr).eu k hlt
      by_cases hz : epo l k = 0
      · have hs : frees l (k + 1) = frees l k + 1 := by rw [frees, if_pos hz]
        have HS := Lib.hid hs
        rw [hz] at e0
        clear hs hz
        go_wp2_with fail
        go_roundw
        case rel => exact ⟨k + 1, by omega, by go_num, by rw [HS.out]; go_num, hKr.alloc _⟩
        case measure => simp [intOf]; omega
      · have hs : frees l (k + 1) = frees l k := by rw [frees, if_neg hz]; rfl
        have HS := Lib.hid hs
        have hb : (epo l k == 0) = false := by simpa using hz
        clear hs hz
        go_wp2_with fail
        go_roundw
        case rel => exact ⟨k + 1, by omega, by go_num, by rw [HS.out], hKr.alloc _⟩
        case measure => simp [intOf]; omega
    · obtain rfl : k = l.length := by omega
      go_wp2_with fail
      go_ret
      exact ⟨rfl, hKr⟩

set_option maxHeartbeats 800000 in
theorem cnewest_any (W : World) (g q : Nat) (p s : Int) (l : List (Int × Int)) (o : Int) (h : ChAt W g q p s l o) (hl : l.length ≤ 100) (hr : ∀ k, 0 ≤ epo l k) :
    Calls Try.prog 33 #[.pointer (some ⟨g, 0, none⟩)] W fun e w' => e = .returned (.tuple #[.int .i64 (nwst l l.length).1, .int .u32 (nwst l l.length).2]) ∧ Kp W w' := by
  obtain ⟨c0, c1, c2, c3, c4⟩ := h.c5
  go_enter Try.func33, Try.ntmps33
  go_wp2_with fail
  go_loopw [4, 5, 13] (fun a t i wr => ∃ k : Nat, k ≤ l.length ∧ i = .int .i64 k ∧ a = .int .i64 (nwst l k).1 ∧ t = .int .u32 (nwst l k).2 ∧ Kp W wr) (fun _ _ i _ => l.length - (intOf i).toNat)
  case atStart => exact ⟨0, by omega, rfl, rfl, rfl, Kp.refl W⟩
  case round =>
    obtain ⟨k, hk, rfl, rfl, rfl, hKr⟩ := hrel
    clear c0 c1 c2 c3 c4
    have ht := nwst_top l k
    by_cases hlt : k < l.length
    · obtain ⟨e0, e1⟩ := (h.keep hKr).eu k hlt
      have hs : nwst l (k + 1) = if (nwst l k).2 < epo l k then ((k : Int), epo l k) else nwst l k := rfl
      have HS := Lib.hid hs
      clear hs
      generalize nwst l k = z at *
      by_cases hz : z.2 < epo l k
      · go_wp2_with fail
        go_region
        go_wp2_with fail
        go_roundw
        case rel => exact ⟨k + 1, by omega, by go_num, by rw [HS.out, if_pos hz], by rw [HS.out, if_pos hz], by (repeat (first | with_reducible exact Kp.refl _ | with_reducible assumption | with_reducible refine Kp.alloc ?_ _ | with_reducible refine Kp.drew ?_ | with_reducible refine Kp.drewN ?_ _ | exact Kp.refl _ | assumption | refine Kp.alloc ?_ _ | refine Kp.drew ?_ | refine Kp.drewN ?_ _ | refine Kp.trans ?_ (by assumption)))⟩
        case measure => simp [intOf]; omega
      · go_wp2_with fail
        go_roundw
        case rel => exact ⟨k + 1, by omega, by go_num, by rw [HS.out, if_neg hz], by rw [HS.out, if_neg hz], hKr.alloc _⟩
        case measure => simp [intOf]; omega
    · obtain rfl : k = l.length := by omega
      go_wp2_with fail
      go_ret2
      exact ⟨rfl, hKr⟩
end Go.Proofs.Ytbcoghfpomnkkaa
