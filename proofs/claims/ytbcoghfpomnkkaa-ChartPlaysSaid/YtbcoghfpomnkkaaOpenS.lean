/- Arguments opened: slices of calls on an account. -/
import Derived.Test.YtbcoghfpomnkkaaOpen
import Derived.Test.YtbcoghfpomnkkaaLawChart8
namespace Go.Proofs.Ytbcoghfpomnkkaa
open Go.ChangeShapes Go.WideShapes Go.ChangeAt Go.RowKit Go.Deep
set_option linter.unusedVariables false
set_option linter.unusedSimpArgs false
section
variable {H : Type} {enc : TypeId × Value → H} {w : World} {base : Nat}
def sdat (y : Stp) : DataW H := .agg [.lit (.int .i64 y.what), .lit (.int .i64 y.a), .lit (.int .i64 y.b), .lit (.int .u32 y.ep), .lit (.bool y.near)]
theorem el_stp {f0 f1 f2 f3 f4 : Field} (he : Try.prog.underlying 51 = some (.struct #[f0, f1, f2, f3, f4])) (hone : oneCellFields Try.prog #[f0, f1, f2, f3, f4] = true) (h0 : Try.prog.underlying f0.type = some (.int .i64)) (h1 : Try.prog.underlying f1.type = some (.int .i64)) (h2 : Try.prog.underlying f2.type = some (.int .i64)) (h3 : Try.prog.underlying f3.type = some (.int .u32)) (h4 : Try.prog.underlying f4.type = some .bool) :
    ∀ n cs' x, DataW.trod enc Try.prog w base (fun _ => true) true n 51 cs' = some x → cs'.length = 5 → ∃ y : Stp, cs' = scells y ∧ x.1 = sdat y ∧ ((Lit.int .i64 y.what).wf = true ∧ (Lit.int .i64 y.a).wf = true ∧ (Lit.int .i64 y.b).wf = true ∧ (Lit.int .u32 y.ep).wf = true) := fun n cs' x h hl => by
  match cs', hl with
  | [c0, c1, c2, c3, c4], _ =>
    obtain ⟨ys, n', _, hy, _, hyl, hfld⟩ := DataW.trod_struct he h
    match ys, hyl with
    | [y0, y1, y2, y3, y4], _ =>
      obtain ⟨o0, k0⟩ := Go.Deep.hone_of hone 0 f0 rfl
      obtain ⟨o1, k1⟩ := Go.Deep.hone_of hone 1 f1 rfl
      obtain ⟨o2, k2⟩ := Go.Deep.hone_of hone 2 f2 rfl
      obtain ⟨o3, k3⟩ := Go.Deep.hone_of hone 3 f3 rfl
      obtain ⟨o4, k4⟩ := Go.Deep.hone_of hone 4 f4 rfl
      have g0 := hfld 0 f0 rfl
      have g1 := hfld 1 f1 rfl
      have g2 := hfld 2 f2 rfl
      have g3 := hfld 3 f3 rfl
      have g4 := hfld 4 f4 rfl
      simp only [o0, k0, List.drop_zero, List.take_succ_cons, List.take_zero, List.getElem?_cons_zero] at g0
      simp only [o1, k1, List.drop_succ_cons, List.drop_zero, List.take_succ_cons, List.take_zero, List.getElem?_cons_succ, List.getElem?_cons_zero] at g1
      simp only [o2, k2, List.drop_succ_cons, List.drop_zero, List.take_succ_cons, List.take_zero, List.getElem?_cons_succ, List.getElem?_cons_zero] at g2
      simp only [o3, k3, List.drop_succ_cons, List.drop_zero, List.take_succ_cons, List.take_zero, List.getElem?_cons_succ, List.getElem?_cons_zero] at g3
      simp only [o4, k4, List.drop_succ_cons, List.drop_zero, List.take_succ_cons, List.take_zero, List.getElem?_cons_succ, List.getElem?_cons_zero] at g4
      obtain ⟨a0, e0, w0, e0'⟩ := field_int h0 g0
      obtain ⟨a1, e1, w1, e1'⟩ := field_int h1 g1
      obtain ⟨a2, e2, w2, e2'⟩ := field_int h2 g2
      obtain ⟨a3, e3, w3, e3'⟩ := field_int h3 g3
      obtain ⟨a4, e4, e4'⟩ := field_bool h4 g4
      subst e0 e1 e2 e3 e4
      refine ⟨⟨a0, a1, a2, a3, a4⟩, rfl, ?_, w0, w1, w2, w3⟩
      simp only [hy, List.map_cons, List.map_nil, e0', e1', e2', e3', e4', sdat]
theorem open_stps {r : Reach} {b0 : Nat} {v : Value} {d : DataW H} {p : List MemPlace} (hs : Sized Try.prog 45 d) (hv : Value.okWide Try.prog w r b0 45 v) (h : DataW.Trod enc Try.prog w base (fun _ => true) true 45 v d p) :
    ∃ (A : Option Addr) (c : Nat) (xs : List Stp), v = .slice A xs.length c ∧ StpsAt w A xs ∧ StpOk xs ∧ ((d = .nil ∧ xs = []) ∨ ∃ more, d = .slice (xs.map sdat) more) := by
  obtain ⟨A, c, xs, hv', h1, h2, h3, h4, h5⟩ := open_elems (sz := 5) scells sdat (fun y => (Lit.int .i64 y.what).wf = true ∧ (Lit.int .i64 y.a).wf = true ∧ (Lit.int .i64 y.b).wf = true ∧ (Lit.int .u32 y.ep).wf = true) Try.underlying45 (by kernel_rfl) (by omega)
    (el_stp Try.underlying51 (by kernel_rfl) Try.underlying3 Try.underlying3 Try.underlying3 Try.underlying29 Try.underlying4) hs hv h
  refine ⟨A, c, xs, hv', ⟨h1, fun hn => ?_⟩, fun y hy => ?_, h5⟩
  · obtain ⟨b, off, e, hc⟩ := h4 hn
    exact ⟨b, off, e, fun j hj => ⟨hc j hj 0 (by omega), by have := hc j hj 1 (by omega); rw [← Nat.add_assoc] at this; exact this, by have := hc j hj 2 (by omega); rw [← Nat.add_assoc] at this; exact this, by have := hc j hj 3 (by omega); rw [← Nat.add_assoc] at this; exact this, by have := hc j hj 4 (by omega); rw [← Nat.add_assoc] at this; exact this⟩⟩
  · obtain ⟨w0, w1, w2, w3⟩ := (h3 y hy).1
    exact ⟨bounds_i64 w0, bounds_i64 w1, bounds_i64 w2, bounds_u32 w3⟩
end
end Go.Proofs.Ytbcoghfpomnkkaa
