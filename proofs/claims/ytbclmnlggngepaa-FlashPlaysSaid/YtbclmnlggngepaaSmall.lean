/- Small words of the laws: a small geom, a geom's box. -/
import Derived.Test.YtbclmnlggngepaaGeom
namespace Go.Proofs.Ytbclmnlggngepaa
open Go.RowKit
set_option linter.unusedVariables false

theorem Bk.c3g {w : World} {g : Nat} {t : TypeId} {a b c : Value} (h : Bk w g t [a, b, c]) : w.cell? ⟨g, 0, none⟩ = some a ∧ w.cell? ⟨g, 1, none⟩ = some b ∧ w.cell? ⟨g, 2, none⟩ = some c := ⟨h.cell 0, h.cell 1, h.cell 2⟩
theorem small_geom (p s r : Int) : ∃ (P S : Int) (n : Nat), 32 + p % 33 = P ∧ 3 + s % 4 = S ∧ 4 + r % 4 = (n : Int) ∧ RightG P S n ∧ n ≤ 7 ∧ S ≤ 6 ∧ P ≤ 64 := by
  refine ⟨_, _, (4 + r % 4).toNat, rfl, rfl, by omega, ?_, by omega, by omega, by omega⟩
  unfold RightG; omega
/-- A geom's box behind the store of another. -/
theorem put3 {w w1 : World} {g : Nat} {t : TypeId} {a b c : Value} (h : Bk w1 g t [a, b, c]) (hK : Kp w w1) (hg : w.heap.size ≤ g) (x y z : Value) :
    Bk (((w1.setCell ⟨g, 0, none⟩ x).setCell ⟨g, 1, none⟩ y).setCell ⟨g, 2, none⟩ z) g t [x, y, z] ∧ Kp w (((w1.setCell ⟨g, 0, none⟩ x).setCell ⟨g, 1, none⟩ y).setCell ⟨g, 2, none⟩ z) :=
  ⟨((h.put 0 x).put 1 y).put 2 z, ((hK.set hg _).set hg _).set hg _⟩
theorem Bk.c4g {w : World} {g : Nat} {t : TypeId} {a b c d : Value} (h : Bk w g t [a, b, c, d]) : w.cell? ⟨g, 0, none⟩ = some a ∧ w.cell? ⟨g, 1, none⟩ = some b ∧ w.cell? ⟨g, 2, none⟩ = some c ∧ w.cell? ⟨g, 3, none⟩ = some d := ⟨h.cell 0, h.cell 1, h.cell 2, h.cell 3⟩
theorem far3 {w1 : World} {g g' : Nat} {t : TypeId} {cs : List Value} (h : Bk w1 g' t cs) (hn : g' ≠ g) (x y z : Value) :
    Bk (((w1.setCell ⟨g, 0, none⟩ x).setCell ⟨g, 1, none⟩ y).setCell ⟨g, 2, none⟩ z) g' t cs := ((h.far (p := ⟨g, 0, none⟩) hn x).far (p := ⟨g, 1, none⟩) hn y).far (p := ⟨g, 2, none⟩) hn z
end Go.Proofs.Ytbclmnlggngepaa
