/- Arguments opened: slices of reads, of numbers, of bools. -/
import Derived.Test.YtfhkkelhhjbbpaaOpen
import Derived.Test.YtfhkkelhhjbbpaaLawValid2
namespace Go.Proofs.Ytfhkkelhhjbbpaa
open Go.ChangeShapes Go.WideShapes Go.ChangeAt Go.RowKit Go.Deep
set_option linter.unusedVariables false
set_option linter.unusedSimpArgs false
instance : Inhabited Rd := ⟨⟨⟨#[]⟩, 0, 0⟩⟩
section
variable {H : Type} {enc : TypeId × Value → H} {w : World} {base : Nat}
theorem el_rd {fk ff fg : Field} (he : Try.prog.underlying 27 = some (.struct #[fk, ff, fg])) (hone : oneCellFields Try.prog #[fk, ff, fg] = true) (hk : Try.prog.underlying fk.type = some .string) (hf : Try.prog.underlying ff.type = some (.int .u32)) (hg : Try.prog.underlying fg.type = some (.int .u32)) :
    ∀ n cs' x, DataW.trod enc Try.prog w base (fun _ => true) true n 27 cs' = some x → cs'.length = 3 → ∃ y : Rd, cs' = rcells y ∧ x.1 = .agg [.lit (.string y.key.data.toList), .lit (.int .u32 y.fr), .lit (.int .u32 y.fg)] ∧ ((Lit.int .u32 y.fr).wf = true ∧ (Lit.int .u32 y.fg).wf = true) := fun n cs' x h hl => by
  match cs', hl with
  | [c0, c1, c2], _ =>
    obtain ⟨ys, n', _, hy, _, hyl, hfld⟩ := DataW.trod_struct he h
    match ys, hyl with
    | [y0, y1, y2], _ =>
      obtain ⟨o0, k0⟩ := Go.Deep.hone_of hone 0 fk rfl
      obtain ⟨o1, k1⟩ := Go.Deep.hone_of hone 1 ff rfl
      obtain ⟨o2, k2⟩ := Go.Deep.hone_of hone 2 fg rfl
      have h0 := hfld 0 fk rfl
      have h1 := hfld 1 ff rfl
      have h2 := hfld 2 fg rfl
      simp only [o0, k0, List.drop_zero, List.take_succ_cons, List.take_zero, List.getElem?_cons_zero] at h0
      simp only [o1, k1, List.drop_succ_cons, List.drop_zero, List.take_succ_cons, List.take_zero, List.getElem?_cons_succ, List.getElem?_cons_zero] at h1
      simp only [o2, k2, List.drop_succ_cons, List.drop_zero, List.take_succ_cons, List.take_zero, List.getElem?_cons_succ, List.getElem?_cons_zero] at h2
      obtain ⟨s, e0, e0'⟩ := field_string hk h0
      obtain ⟨a, e1, w1, e1'⟩ := field_int hf h1
      obtain ⟨b, e2, w2, e2'⟩ := field_int hg h2
      subst e0 e1 e2
      refine ⟨⟨s, a, b⟩, rfl, ?_, w1, w2⟩
      simp only [hy, List.map_cons, List.map_nil, e0', e1', e2']
theorem open_rds {r : Reach} {b0 : Nat} {v : Value} {d : DataW H} {p : List MemPlace} (hs : Sized Try.prog 22 d) (hv : Value.okWide Try.prog w r b0 22 v) (h : DataW.Trod enc Try.prog w base (fun _ => true) true 22 v d p) :
    ∃ (A : Option Addr) (c : Nat) (rs : List Rd), v = .slice A rs.length c ∧ RdsAt w A rs ∧ rs.length * 24 ≤ 140737488351232 ∧ RdOk rs ∧
      ((d = .nil ∧ rs = []) ∨ ∃ more, d = .slice (rs.map fun y => .agg [.lit (.string y.key.data.toList), .lit (.int .u32 y.fr), .lit (.int .u32 y.fg)]) more) := by
  obtain ⟨A, c, rs, hv', h1, h2, h3, h4, h5⟩ := open_elems (sz := 3) rcells (fun y : Rd => .agg [.lit (.string y.key.data.toList), .lit (.int .u32 y.fr), .lit (.int .u32 y.fg)]) (fun y => (Lit.int .u32 y.fr).wf = true ∧ (Lit.int .u32 y.fg).wf = true) Try.underlying22 (by kernel_rfl) (by omega)
    (el_rd Try.underlying27 (by kernel_rfl) Try.underlying9 Try.underlying24 Try.underlying24) hs hv h
  have hby : Try.prog.bytesOf 27 = 24 := by kernel_rfl
  rw [hby] at h2
  refine ⟨A, c, rs, hv', ⟨h1, fun hn => ?_⟩, h2, fun y hy => ?_, h5⟩
  · obtain ⟨b, off, e, hc⟩ := h4 hn
    exact ⟨b, off, e, fun j hj => ⟨hc j hj 0 (by omega), by have := hc j hj 1 (by omega); rw [← Nat.add_assoc] at this; exact this, by have := hc j hj 2 (by omega); rw [← Nat.add_assoc] at this; exact this⟩⟩
  · have := (h3 y hy).1
    have b1 := bounds_u32 this.1
    have b2 := bounds_u32 this.2
    omega
theorem open_nums {k : IntKind} {r : Reach} {b0 : Nat} {t e : TypeId} (ht : Try.prog.underlying t = some (.slice e)) (he : Try.prog.underlying e = some (.int k)) (hC : Try.prog.cellsOf e = 1) {v : Value} {d : DataW H} {p : List MemPlace} (hs : Sized Try.prog t d) (hv : Value.okWide Try.prog w r b0 t v) (h : DataW.Trod enc Try.prog w base (fun _ => true) true t v d p) :
    ∃ (A : Option Addr) (c : Nat) (xs : List Int), v = .slice A xs.length c ∧ NumsAt k w A xs ∧ xs.length * Try.prog.bytesOf e ≤ 140737488351232 ∧ (∀ x ∈ xs, (Lit.int k x).wf = true) ∧ ((d = .nil ∧ xs = []) ∨ ∃ more, d = .slice (xs.map fun x => .lit (.int k x)) more) := by
  obtain ⟨A, c, xs, hv', h1, h2, h3, h4, h5⟩ := open_elems (sz := 1) (fun x : Int => [Value.int k x]) (fun x => .lit (.int k x)) (fun x => (Lit.int k x).wf = true) ht hC (by omega) (el_int he) hs hv h
  refine ⟨A, c, xs, hv', ⟨h1, fun hn => ?_⟩, h2, fun x hx => (h3 x hx).1, h5⟩
  obtain ⟨b, off, e, hc⟩ := h4 hn
  exact ⟨b, off, e, fun j hj => by have := hc j hj 0 (by omega); rw [Nat.mul_one, Nat.add_zero] at this; exact this⟩
theorem open_bools' {r : Reach} {b0 : Nat} {t e : TypeId} (ht : Try.prog.underlying t = some (.slice e)) (he : Try.prog.underlying e = some .bool) (hC : Try.prog.cellsOf e = 1) {v : Value} {d : DataW H} {p : List MemPlace} (hs : Sized Try.prog t d) (hv : Value.okWide Try.prog w r b0 t v) (h : DataW.Trod enc Try.prog w base (fun _ => true) true t v d p) :
    ∃ (A : Option Addr) (c : Nat) (xs : List Bool), v = .slice A xs.length c ∧ BoolsAt w A xs ∧ ((d = .nil ∧ xs = []) ∨ ∃ more, d = .slice (xs.map fun x => .lit (.bool x)) more) := by
  obtain ⟨A, c, xs, hv', h1, h2, h3, h4, h5⟩ := open_elems (sz := 1) (fun x : Bool => [Value.bool x]) (fun x => .lit (.bool x)) (fun x => True) ht hC (by omega) (el_bool he) hs hv h
  refine ⟨A, c, xs, hv', ⟨h1, fun hn => ?_⟩, h5⟩
  obtain ⟨b, off, e, hc⟩ := h4 hn
  exact ⟨b, off, e, fun j hj => by have := hc j hj 0 (by omega); rw [Nat.mul_one, Nat.add_zero] at this; exact this⟩
end
end Go.Proofs.Ytfhkkelhhjbbpaa
