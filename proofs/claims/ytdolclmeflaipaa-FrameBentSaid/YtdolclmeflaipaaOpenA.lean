/- Arguments opened: arrays of three, four numbers, by value. -/
import Derived.Test.YtdolclmeflaipaaOpen
import Derived.Laws.IdiomArrays
namespace Go.Proofs.Ytdolclmeflaipaa
open Go.ChangeShapes Go.WideShapes Go.ChangeAt Go.RowKit Go.Deep
set_option linter.unusedVariables false
section
variable {H : Type} {enc : TypeId × Value → H} {w : World} {base : Nat} {P : Program}
theorem arr3 {xs : Array Value} (h : xs.size = 3) : ∃ a b c, xs = #[a, b, c] := by
  obtain ⟨l⟩ := xs
  match l, h with
  | [a, b, c], _ => exact ⟨a, b, c, rfl⟩
theorem arr4 {xs : Array Value} (h : xs.size = 4) : ∃ a b c d, xs = #[a, b, c, d] := by
  obtain ⟨l⟩ := xs
  match l, h with
  | [a, b, c, d], _ => exact ⟨a, b, c, d, rfl⟩
theorem okWide_array {n : Nat} {t e : TypeId} {r : Reach} {b0 : Nat} {v : Value} (ht : P.underlying t = some (.array n e)) (h : Value.okWide P w r b0 t v) : ∃ cs, v = .agg cs ∧ cs.size = P.cellsOf t := by
  simp only [Value.okWide, ht] at h
  obtain ⟨cs, h1, h2, _⟩ := h
  exact ⟨cs, h1, h2⟩
theorem open_arr3 {k : IntKind} {r : Reach} {b0 : Nat} {t e : TypeId} (ht : P.underlying t = some (.array 3 e)) (he : P.underlying e = some (.int k)) (hc : P.cellsOf t = 3) (hce : P.cellsOf e = 1) {v : Value} {d : DataW H} {p : List MemPlace} (hv : Value.okWide P w r b0 t v) (h : DataW.Trod enc P w base (fun _ => true) true t v d p) :
    ∃ a0 a1 a2, v = .agg #[.int k a0, .int k a1, .int k a2] ∧ (Lit.int k a0).wf = true ∧ (Lit.int k a1).wf = true ∧ (Lit.int k a2).wf = true := by
  obtain ⟨cs, rfl, hsz⟩ := okWide_array ht hv
  obtain ⟨c0, c1, c2, rfl⟩ := arr3 (hsz.trans hc)
  obtain ⟨fuel, hf⟩ := h
  obtain ⟨y0, y1, y2, n, _, h0, h1, h2⟩ := trod_array3 ht hce hf
  obtain ⟨a0, rfl, w0, _⟩ := field_int he h0
  obtain ⟨a1, rfl, w1, _⟩ := field_int he h1
  obtain ⟨a2, rfl, w2, _⟩ := field_int he h2
  exact ⟨a0, a1, a2, rfl, w0, w1, w2⟩
theorem open_arr4 {k : IntKind} {r : Reach} {b0 : Nat} {t e : TypeId} (ht : P.underlying t = some (.array 4 e)) (he : P.underlying e = some (.int k)) (hc : P.cellsOf t = 4) (hce : P.cellsOf e = 1) {v : Value} {d : DataW H} {p : List MemPlace} (hv : Value.okWide P w r b0 t v) (h : DataW.Trod enc P w base (fun _ => true) true t v d p) :
    ∃ a0 a1 a2 a3, v = .agg #[.int k a0, .int k a1, .int k a2, .int k a3] ∧ (Lit.int k a0).wf = true ∧ (Lit.int k a1).wf = true ∧ (Lit.int k a2).wf = true ∧ (Lit.int k a3).wf = true := by
  obtain ⟨cs, rfl, hsz⟩ := okWide_array ht hv
  obtain ⟨c0, c1, c2, c3, rfl⟩ := arr4 (hsz.trans hc)
  obtain ⟨fuel, hf⟩ := h
  obtain ⟨y0, y1, y2, y3, n, _, h0, h1, h2, h3⟩ := trod_array4 ht hce hf
  obtain ⟨a0, rfl, w0, _⟩ := field_int he h0
  obtain ⟨a1, rfl, w1, _⟩ := field_int he h1
  obtain ⟨a2, rfl, w2, _⟩ := field_int he h2
  obtain ⟨a3, rfl, w3, _⟩ := field_int he h3
  exact ⟨a0, a1, a2, a3, rfl, w0, w1, w2, w3⟩
end
end Go.Proofs.Ytdolclmeflaipaa
