/- The reference's PieceRight (walked ahead of the contracts that lay laws on draws). -/
import Derived.Test.YtadggldngoknjaaPut
namespace Go.Proofs.Ytadggldngoknjaa
open Go.RowKit
set_option linter.unusedVariables false

abbrev frv (k a b : Int) (s : ByteArray) : Value := .agg #[.int .i64 k, .int .u32 a, .int .u32 b, .string s]
abbrev fob (k a b : Int) (s : ByteArray) : Obj := .cells #[.int .i64 k, .int .u32 a, .int .u32 b, .string s] 29
/-- A frame's box stays. -/
theorem Frk (w : World) (k a b : Int) (s : ByteArray) : ∀ W, Kp (w.alloc (fob k a b s)) W → W.cell? ⟨w.heap.size, 0, none⟩ = some (.int .i64 k) ∧ W.cell? ⟨w.heap.size, 1, none⟩ = some (.int .u32 a) ∧ W.cell? ⟨w.heap.size, 2, none⟩ = some (.int .u32 b) ∧ W.cell? ⟨w.heap.size, 3, none⟩ = some (.string s) := by
  intro W h
  have hb : Bk W w.heap.size 29 [.int .i64 k, .int .u32 a, .int .u32 b, .string s] := (Bk.new w _ _).keep h
  exact ⟨hb.cell 0, hb.cell 1, hb.cell 2, hb.cell 3⟩

theorem rg (s : ByteArray) (hs : s.size ≤ 9223372036854775807) (k : Int) (h0 : 0 ≤ k) (h : k + 4 ≤ s.size) (w : World) :
    Calls Try.prog 19 #[.string s, .int .i64 k] w fun e w' => e = .returned (.int .u32 (get4 s k.toNat : Nat)) ∧ ∃ n, w' = w.drewN n := by
  have := refget_any s k.toNat hs (by omega) w
  rwa [Int.toNat_of_nonneg h0] at this

set_option maxHeartbeats 800000 in
theorem pr_bad (k a b : Int) (s : ByteArray) (h : a < 1 ∨ 2147483647 < a) (w : World) :
    Calls Try.prog 14 #[frv k a b s] w fun e w' => e = .returned (.bool false) ∧ Kp w w' := by
  have h' : a < 1 ∨ (1 ≤ a ∧ 2147483647 < a) := by omega
  clear h
  rcases h' with h | ⟨h1, h2⟩
  all_goals
    go_enter Try.func14, Try.ntmps14
    go_wp2
    go_ret
    exact ⟨rfl, by (repeat (first | with_reducible exact Kp.refl _ | with_reducible assumption | with_reducible refine Kp.alloc ?_ _ | with_reducible refine Kp.drew ?_ | with_reducible refine Kp.drewN ?_ _ | exact Kp.refl _ | assumption | refine Kp.alloc ?_ _ | refine Kp.drew ?_ | refine Kp.drewN ?_ _ | refine Kp.trans ?_ (by assumption)))⟩
set_option maxHeartbeats 800000 in
theorem pr_easy (k a b : Int) (s : ByteArray) (h1 : 1 ≤ a) (h2 : a ≤ 2147483647) (B : Bool)
    (h : (k = 1 ∧ B = s.toList.isEmpty) ∨ (k = 2 ∧ B = !s.toList.isEmpty) ∨ ((k == 1) = false ∧ (k == 2) = false ∧ (k == 3) = false ∧ (k == 4) = false ∧ B = false)) (w : World) :
    Calls Try.prog 14 #[frv k a b s] w fun e w' => e = .returned (.bool B) ∧ Kp w w' := by
  rcases h with ⟨rfl, rfl⟩ | ⟨rfl, rfl⟩ | ⟨e1, e2, e3, e4, rfl⟩
  all_goals
    go_enter Try.func14, Try.ntmps14
    go_wp2
    go_ret
    exact ⟨rfl, by (repeat (first | with_reducible exact Kp.refl _ | with_reducible assumption | with_reducible refine Kp.alloc ?_ _ | with_reducible refine Kp.drew ?_ | with_reducible refine Kp.drewN ?_ _ | exact Kp.refl _ | assumption | refine Kp.alloc ?_ _ | refine Kp.drew ?_ | refine Kp.drewN ?_ _ | refine Kp.trans ?_ (by assumption)))⟩

theorem frcells (w : World) (k a b : Int) (s : ByteArray) : (w.alloc (fob k a b s)).cell? ⟨w.heap.size, 0, none⟩ = some (.int .i64 k) ∧ (w.alloc (fob k a b s)).cell? ⟨w.heap.size, 1, none⟩ = some (.int .u32 a) ∧ (w.alloc (fob k a b s)).cell? ⟨w.heap.size, 2, none⟩ = some (.int .u32 b) ∧ (w.alloc (fob k a b s)).cell? ⟨w.heap.size, 3, none⟩ = some (.string s) := Frk w k a b s _ (Kp.refl _)

/-- What the guards of a seal's body say, in their order. -/
def SealWay (a b : Int) (s : ByteArray) (B : Bool) : Prop :=
  ((b != 0) = false ∧ B = false) ∨
  ((b != 0) = true ∧ ((s.size : Int) == 16) = false ∧ B = false) ∨
  ((b != 0) = true ∧ ((s.size : Int) == 16) = true ∧ s.size = 16 ∧ decide ((get4 s 0 : Int) < a) = false ∧ B = false) ∨
  ((b != 0) = true ∧ ((s.size : Int) == 16) = true ∧ s.size = 16 ∧ decide ((get4 s 0 : Int) < a) = true ∧ decide ((1 : Int) ≤ get4 s 4) = false ∧ B = false) ∨
  ((b != 0) = true ∧ ((s.size : Int) == 16) = true ∧ s.size = 16 ∧ decide ((get4 s 0 : Int) < a) = true ∧ decide ((1 : Int) ≤ get4 s 4) = true ∧ decide ((get4 s 4 : Int) ≤ a) = false ∧ B = false) ∨
  ((b != 0) = true ∧ ((s.size : Int) == 16) = true ∧ s.size = 16 ∧ decide ((get4 s 0 : Int) < a) = true ∧ decide ((1 : Int) ≤ get4 s 4) = true ∧ decide ((get4 s 4 : Int) ≤ a) = true ∧ B = ((get4 s 12 : Int) != 0))
set_option maxRecDepth 20000 in
set_option maxHeartbeats 4000000 in
theorem pr_seal (a b : Int) (s : ByteArray) (h1 : 1 ≤ a) (h2 : a ≤ 2147483647) (hs : s.size ≤ 9223372036854775807) (B : Bool) (h : SealWay a b s B) (w : World) :
    Calls Try.prog 14 #[frv 3 a b s] w fun e w' => e = .returned (.bool B) ∧ Kp w w' := by
  obtain ⟨c0, c1, c2, c3⟩ := frcells w 3 a b s
  rcases h with ⟨g1, rfl⟩ | ⟨g1, g2, rfl⟩ | ⟨g1, g2, e2, g3, rfl⟩ | ⟨g1, g2, e2, g3, g4, rfl⟩ | ⟨g1, g2, e2, g3, g4, g5, rfl⟩ | ⟨g1, g2, e2, g3, g4, g5, rfl⟩
  all_goals
    go_enter Try.func14, Try.ntmps14
    go_wp2_with fail
    go_quiet ((go_at_call 19; exact Calls.quiet_of (rg s hs _ (by omega) (by omega) _)))
    go_wp2_with fail
    go_ret
    exact ⟨rfl, by (repeat (first | with_reducible exact Kp.refl _ | with_reducible assumption | with_reducible refine Kp.alloc ?_ _ | with_reducible refine Kp.drew ?_ | with_reducible refine Kp.drewN ?_ _ | exact Kp.refl _ | assumption | refine Kp.alloc ?_ _ | refine Kp.drew ?_ | refine Kp.drewN ?_ _ | refine Kp.trans ?_ (by assumption)))⟩

def FloorWay (a : Int) (s : ByteArray) (B : Bool) : Prop :=
  (((s.size : Int) == 4) = false ∧ B = false) ∨
  (((s.size : Int) == 4) = true ∧ s.size = 4 ∧ B = decide ((get4 s 0 : Int) ≤ a))
set_option maxRecDepth 20000 in
set_option maxHeartbeats 4000000 in
theorem pr_floor (a b : Int) (s : ByteArray) (h1 : 1 ≤ a) (h2 : a ≤ 2147483647) (hs : s.size ≤ 9223372036854775807) (B : Bool) (h : FloorWay a s B) (w : World) :
    Calls Try.prog 14 #[frv 4 a b s] w fun e w' => e = .returned (.bool B) ∧ Kp w w' := by
  obtain ⟨c0, c1, c2, c3⟩ := frcells w 4 a b s
  rcases h with ⟨g1, rfl⟩ | ⟨g1, e2, rfl⟩
  all_goals
    go_enter Try.func14, Try.ntmps14
    go_wp2_with fail
    go_quiet ((go_at_call 19; exact Calls.quiet_of (rg s hs _ (by omega) (by omega) _)))
    go_wp2_with fail
    go_ret
    exact ⟨rfl, by (repeat (first | with_reducible exact Kp.refl _ | with_reducible assumption | with_reducible refine Kp.alloc ?_ _ | with_reducible refine Kp.drew ?_ | with_reducible refine Kp.drewN ?_ _ | exact Kp.refl _ | assumption | refine Kp.alloc ?_ _ | refine Kp.drew ?_ | refine Kp.drewN ?_ _ | refine Kp.trans ?_ (by assumption)))⟩
end Go.Proofs.Ytadggldngoknjaa
