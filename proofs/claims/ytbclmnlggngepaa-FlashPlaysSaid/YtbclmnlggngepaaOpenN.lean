/- Arguments opened: slices of numbers. -/
import Derived.Test.YtbclmnlggngepaaOpen
namespace Go.Proofs.Ytbclmnlggngepaa
open Go.ChangeShapes Go.WideShapes Go.ChangeAt Go.RowKit Go.Deep
set_option linter.unusedVariables false
/-- A slice of numbers, nil let in. -/
def NumsAt (k : IntKind) (w : World) (A : Option Addr) (xs : List Int) : Prop :=
  xs.length ≤ 9223372036854775807 ∧ (0 < xs.length → ∃ b off, A = some ⟨b, off, none⟩ ∧ ∀ j (h : j < xs.length), w.cell? ⟨b, off + j, none⟩ = some (.int k xs[j]))
theorem NumsAt.keep {k : IntKind} {w w' : World} {A : Option Addr} {xs : List Int} (h : NumsAt k w A xs) (k' : Kp w w') : NumsAt k w' A xs :=
  ⟨h.1, fun hn => by
    obtain ⟨b, off, e, hc⟩ := h.2 hn
    exact ⟨b, off, e, fun j hj => k'.cell (hc j hj)⟩⟩
section
variable {H : Type} {enc : TypeId × Value → H} {w : World} {base : Nat}
theorem open_nums {k : IntKind} {r : Reach} {b0 : Nat} {t e : TypeId} (ht : Try.prog.underlying t = some (.slice e)) (he : Try.prog.underlying e = some (.int k)) (hC : Try.prog.cellsOf e = 1) {v : Value} {d : DataW H} {p : List MemPlace} (hs : Sized Try.prog t d) (hv : Value.okWide Try.prog w r b0 t v) (h : DataW.Trod enc Try.prog w base (fun _ => true) true t v d p) :
    ∃ (A : Option Addr) (c : Nat) (xs : List Int), v = .slice A xs.length c ∧ NumsAt k w A xs ∧ xs.length * Try.prog.bytesOf e ≤ 140737488351232 ∧ (∀ x ∈ xs, (Lit.int k x).wf = true) ∧ ((d = .nil ∧ xs = []) ∨ ∃ more, d = .slice (xs.map fun x => .lit (.int k x)) more) := by
  obtain ⟨A, c, xs, hv', h1, h2, h3, h4, h5⟩ := open_elems (sz := 1) (fun x : Int => [Value.int k x]) (fun x => .lit (.int k x)) (fun x => (Lit.int k x).wf = true) ht hC (by omega) (el_int he) hs hv h
  refine ⟨A, c, xs, hv', ⟨h1, fun hn => ?_⟩, h2, fun x hx => (h3 x hx).1, h5⟩
  obtain ⟨b, off, e, hc⟩ := h4 hn
  exact ⟨b, off, e, fun j hj => by have := hc j hj 0 (by omega); rw [Nat.mul_one, Nat.add_zero] at this; exact this⟩
end
end Go.Proofs.Ytbclmnlggngepaa
