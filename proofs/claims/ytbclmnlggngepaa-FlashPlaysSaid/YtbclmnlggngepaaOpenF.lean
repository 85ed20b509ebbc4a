/- Arguments opened: slices of calls on a device, of which each has a text and numbers of its own. -/
import Derived.Test.YtbclmnlggngepaaOpenN
import Derived.Test.YtbclmnlggngepaaFlPlays3
namespace Go.Proofs.Ytbclmnlggngepaa
open Go.ChangeShapes Go.WideShapes Go.ChangeAt Go.RowKit Go.Deep
set_option linter.unusedVariables false
set_option linter.unusedSimpArgs false
section
variable {H : Type} {enc : TypeId × Value → H} {w : World} {base : Nat}
/-- A slice of numbers that lies inside another value. -/
theorem field_nums {k : IntKind} {t e : TypeId} (ht : Try.prog.underlying t = some (.slice e)) (he : Try.prog.underlying e = some (.int k)) (hC : Try.prog.cellsOf e = 1) {c : Value} {y : DataW H × List MemPlace} {n : Nat} (h : DataW.trod enc Try.prog w base (fun _ => true) true n t [c] = some y) :
    ∃ (A : Option Addr) (cap : Nat) (xs : List Int), c = .slice A xs.length cap ∧ NumsAt k w A xs ∧ ∀ x ∈ xs, (Lit.int k x).wf = true := by
  rcases Go.Deep.open_slice1 ht hC h with ⟨hcs, hx⟩ | ⟨a, len, cap, m, n, V, D, Pl, hcs, hb, hl, hm, hmm, hx, hi⟩
  · simp only [List.cons.injEq, and_true] at hcs
    exact ⟨none, 0, [], hcs, ⟨by simp, fun h => by simp at h⟩, fun x hx => by cases hx⟩
  · simp only [List.cons.injEq, and_true] at hcs
    simp only [if_true] at hmm
    subst hmm
    have each : ∀ j, j < len → ∃ z : Int, w.cell? (a.add j) = some (.int k z) ∧ (Lit.int k z).wf = true := fun j hj => by
      obtain ⟨h1, h2⟩ := hi j (by omega)
      obtain ⟨z, hz, hw, -⟩ := field_int he h2
      rw [hz] at h1
      exact ⟨z, h1, hw⟩
    obtain ⟨F, hF⟩ := Go.Deep.choose_lt each
    have hle : ((List.range len).map F).length = len := by simp
    refine ⟨some a, _, (List.range len).map F, by rw [hle]; exact hcs, ⟨by rw [hle]; simp only [maxLen] at hm; omega, fun hpos => ?_⟩, fun x hx => ?_⟩
    · rw [hle] at hpos
      obtain ⟨b, off, spot⟩ := a
      have c0 := (hF 0 hpos).1
      have hspot : spot = none := by
        have := World.cell?_spot c0
        simpa [Addr.add] using this
      subst hspot
      refine ⟨b, off, rfl, fun j hj => ?_⟩
      have hj' : j < len := by rw [hle] at hj; exact hj
      have := (hF j hj').1
      rw [add_none'] at this
      rw [this]
      simp
    · obtain ⟨j, hj, rfl⟩ := List.mem_map.1 hx
      exact (hF j (by simpa using hj)).2
def FStpGood (w : World) (y : FStp) : Prop := (Lit.int .i64 y.what).wf = true ∧ (Lit.int .i64 y.a).wf = true ∧ (Lit.int .i64 y.b).wf = true ∧ y.S.size ≤ 9223372036854775807 ∧ (Lit.int .u8 y.x).wf = true ∧ NumsAt .i64 w y.A y.mask ∧ ∀ z ∈ y.mask, (Lit.int .i64 z).wf = true
theorem el_fstp {f0 f1 f2 f3 f4 f5 f6 : Field} (he : Try.prog.underlying 60 = some (.struct #[f0, f1, f2, f3, f4, f5, f6])) (hone : oneCellFields Try.prog #[f0, f1, f2, f3, f4, f5, f6] = true) (h0 : Try.prog.underlying f0.type = some (.int .i64)) (h1 : Try.prog.underlying f1.type = some (.int .i64)) (h2 : Try.prog.underlying f2.type = some (.int .i64)) (h3 : Try.prog.underlying f3.type = some .string) (h4 : Try.prog.underlying f4.type = some (.int .u8)) {e5 : TypeId} (h5 : Try.prog.underlying f5.type = some (.slice e5)) (h5e : Try.prog.underlying e5 = some (.int .i64)) (h5c : Try.prog.cellsOf e5 = 1) (h6 : Try.prog.underlying f6.type = some .bool) :
    ∀ n cs' x, DataW.trod enc Try.prog w base (fun _ => true) true n 60 cs' = some x → cs'.length = 7 → ∃ y : FStp × DataW H, cs' = fscells y.1 ∧ x.1 = y.2 ∧ FStpGood w y.1 := fun n cs' x h hl => by
  match cs', hl with
  | [c0, c1, c2, c3, c4, c5, c6], _ =>
    obtain ⟨ys, n', _, hy, _, hyl, hfld⟩ := DataW.trod_struct he h
    match ys, hyl with
    | [y0, y1, y2, y3, y4, y5, y6], _ =>
      obtain ⟨o0, k0⟩ := Go.Deep.hone_of hone 0 f0 rfl
      obtain ⟨o1, k1⟩ := Go.Deep.hone_of hone 1 f1 rfl
      obtain ⟨o2, k2⟩ := Go.Deep.hone_of hone 2 f2 rfl
      obtain ⟨o3, k3⟩ := Go.Deep.hone_of hone 3 f3 rfl
      obtain ⟨o4, k4⟩ := Go.Deep.hone_of hone 4 f4 rfl
      obtain ⟨o5, k5⟩ := Go.Deep.hone_of hone 5 f5 rfl
      obtain ⟨o6, k6⟩ := Go.Deep.hone_of hone 6 f6 rfl
      have g0 := hfld 0 f0 rfl
      have g1 := hfld 1 f1 rfl
      have g2 := hfld 2 f2 rfl
      have g3 := hfld 3 f3 rfl
      have g4 := hfld 4 f4 rfl
      have g5 := hfld 5 f5 rfl
      have g6 := hfld 6 f6 rfl
      simp only [o0, k0, List.drop_zero, List.take_succ_cons, List.take_zero, List.getElem?_cons_zero] at g0
      simp only [o1, k1, List.drop_succ_cons, List.drop_zero, List.take_succ_cons, List.take_zero, List.getElem?_cons_succ, List.getElem?_cons_zero] at g1
      simp only [o2, k2, List.drop_succ_cons, List.drop_zero, List.take_succ_cons, List.take_zero, List.getElem?_cons_succ, List.getElem?_cons_zero] at g2
      simp only [o3, k3, List.drop_succ_cons, List.drop_zero, List.take_succ_cons, List.take_zero, List.getElem?_cons_succ, List.getElem?_cons_zero] at g3
      simp only [o4, k4, List.drop_succ_cons, List.drop_zero, List.take_succ_cons, List.take_zero, List.getElem?_cons_succ, List.getElem?_cons_zero] at g4
      simp only [o5, k5, List.drop_succ_cons, List.drop_zero, List.take_succ_cons, List.take_zero, List.getElem?_cons_succ, List.getElem?_cons_zero] at g5
      simp only [o6, k6, List.drop_succ_cons, List.drop_zero, List.take_succ_cons, List.take_zero, List.getElem?_cons_succ, List.getElem?_cons_zero] at g6
      obtain ⟨a0, e0, w0, e0'⟩ := field_int h0 g0
      obtain ⟨a1, e1, w1, e1'⟩ := field_int h1 g1
      obtain ⟨a2, e2, w2, e2'⟩ := field_int h2 g2
      obtain ⟨a3, e3, e3', w3⟩ := DataW.trod_string h3 g3
      obtain ⟨a4, e4, w4, e4'⟩ := field_int h4 g4
      obtain ⟨A5, p5, a5, e5, n5, w5⟩ := field_nums h5 h5e h5c g5
      obtain ⟨a6, e6, e6'⟩ := field_bool h6 g6
      simp only [List.cons.injEq, and_true] at e3
      subst e0 e1 e2 e3 e4 e5 e6
      exact ⟨(⟨a0, a1, a2, a3, a4, A5, p5, a5, a6⟩, x.1), rfl, rfl, w0, w1, w2, by simpa [maxLen] using w3, w4, n5, w5⟩
instance : Inhabited (DataW H) := ⟨.nil⟩
theorem open_fstps {r : Reach} {b0 : Nat} {v : Value} {d : DataW H} {p : List MemPlace} (hs : Sized Try.prog 55 d) (hv : Value.okWide Try.prog w r b0 55 v) (h : DataW.Trod enc Try.prog w base (fun _ => true) true 55 v d p) :
    ∃ (A : Option Addr) (c : Nat) (xs : List FStp), v = .slice A xs.length c ∧ FStpsAt w A xs ∧ FStpOk w xs := by
  obtain ⟨A, c, xs, hv', h1, h2, h3, h4, h5⟩ := open_elems (sz := 7) (fun y : FStp × DataW H => fscells y.1) (fun y => y.2) (fun y => FStpGood w y.1) Try.underlying55 (by kernel_rfl) (by omega)
    (el_fstp Try.underlying60 (by kernel_rfl) Try.underlying3 Try.underlying3 Try.underlying3 Try.underlying9 Try.underlying5 Try.underlying36 Try.underlying3 (by kernel_rfl) Try.underlying4) hs hv h
  refine ⟨A, c, xs.map (·.1), by rw [List.length_map]; exact hv', ⟨by rw [List.length_map]; exact h1, fun hn => ?_⟩, fun y hy => ?_⟩
  · rw [List.length_map] at hn
    obtain ⟨b, off, e, hc⟩ := h4 hn
    refine ⟨b, off, e, fun j hj => ?_⟩
    have hj' : j < xs.length := by rw [List.length_map] at hj; exact hj
    simp only [List.getElem_map]
    have z0 := hc j hj' 0 (by omega)
    have z1 := hc j hj' 1 (by omega)
    have z2 := hc j hj' 2 (by omega)
    have z3 := hc j hj' 3 (by omega)
    have z4 := hc j hj' 4 (by omega)
    have z5 := hc j hj' 5 (by omega)
    have z6 := hc j hj' 6 (by omega)
    rw [← Nat.add_assoc] at z0 z1 z2 z3 z4 z5 z6
    exact ⟨z0, z1, z2, z3, z4, z5, z6⟩
  · obtain ⟨z, hz, rfl⟩ := List.mem_map.1 hy
    obtain ⟨w0, w1, w2, w3, w4, w5, w6⟩ := (h3 z hz).1
    have b4 := bounds_u8 w4
    exact ⟨bounds_i64 w0, bounds_i64 w1, bounds_i64 w2, w3, by omega, w5, fun x hx => bounds_i64 (w6 x hx)⟩
end
end Go.Proofs.Ytbclmnlggngepaa
