/- Merged texts: FrArg, OpenG, OpenT. -/
import Derived.Test.YtnhogmheedeeiaaGreatGE
import Derived.Test.YtnhogmheedeeiaaGreatGA
import Derived.Test.YtnhogmheedeeiaaGreatGJ
set_option linter.unusedSimpArgs false
set_option linter.unusedVariables false
/- A slice of frames that comes in. -/
namespace Go.Proofs.YtnhogmheedeeiaaGreat
open Go.RowKit
set_option linter.unusedVariables false
set_option maxRecDepth 20000
instance : Inhabited Fr := ⟨noFr⟩
def frCs (y : Fr) : List Value := [.int .i64 y.k, .int .u32 y.a, .int .u32 y.b, .string y.t]
def FrmAt (w : World) (A : Option Addr) (xs : List Fr) : Prop :=
  xs.length ≤ 9223372036854775807 ∧ (0 < xs.length → ∃ b off, A = some ⟨b, off, none⟩ ∧ ∀ j (h : j < xs.length), w.cell? ⟨b, off + j * 4, none⟩ = some (.int .i64 xs[j].k) ∧ w.cell? ⟨b, off + j * 4 + 1, none⟩ = some (.int .u32 xs[j].a) ∧ w.cell? ⟨b, off + j * 4 + 2, none⟩ = some (.int .u32 xs[j].b) ∧ w.cell? ⟨b, off + j * 4 + 3, none⟩ = some (.string xs[j].t))
theorem FrmAt.keep {w w' : World} {A : Option Addr} {xs : List Fr} (h : FrmAt w A xs) (k : Kp w w') : FrmAt w' A xs :=
  ⟨h.1, fun hn => by
    obtain ⟨b, off, e, hc⟩ := h.2 hn
    exact ⟨b, off, e, fun j hj => ⟨k.cell (hc j hj).1, k.cell (hc j hj).2.1, k.cell (hc j hj).2.2.1, k.cell (hc j hj).2.2.2⟩⟩⟩
def FrmOk (xs : List Fr) : Prop := ∀ y ∈ xs, (-9223372036854775808 ≤ y.k ∧ y.k ≤ 9223372036854775807) ∧ (0 ≤ y.a ∧ y.a ≤ 4294967295) ∧ (0 ≤ y.b ∧ y.b ≤ 4294967295) ∧ y.t.size ≤ 9223372036854775807
/-- The text with a byte put. -/
def setZ (s : ByteArray) (i v : Nat) : ByteArray := strN ((nb s).set i v)
theorem setZ_nb {s : ByteArray} {i v : Nat} (hv : v < 256) : nb (setZ s i v) = (nb s).set i v := by
  unfold setZ
  rw [nb_strN]
  intro n hn
  rcases List.mem_or_eq_of_mem_set hn with h | h
  · exact nb_lt s n h
  · omega
theorem setZ_size {s : ByteArray} {i v : Nat} : (setZ s i v).size = s.size := by unfold setZ; rw [strN_size, List.length_set, nb_len]
theorem sb_setZ (Z : ByteArray) (i v : Nat) (hv : v < 256) : (sb Z).set i (v : Int) = sb (setZ Z i v) := by
  rw [sb_nb, sb_nb, setZ_nb hv, List.map_set]
theorem sb_backZ (Z : ByteArray) : strOfNums (sb Z) = Z := by
  rw [sb_nb]; exact strN_nb Z
end Go.Proofs.YtnhogmheedeeiaaGreat
/- Arguments opened: slices of frames. -/
namespace Go.Proofs.YtnhogmheedeeiaaGreat
open Go.ChangeShapes Go.WideShapes Go.ChangeAt Go.RowKit Go.Deep
set_option linter.unusedVariables false
set_option maxRecDepth 20000
set_option linter.unusedSimpArgs false
section
variable {H : Type} {enc : TypeId × Value → H} {w : World} {base : Nat}
def FrGood (y : Fr) : Prop := (Lit.int .i64 y.k).wf = true ∧ (Lit.int .u32 y.a).wf = true ∧ (Lit.int .u32 y.b).wf = true ∧ y.t.size ≤ 9223372036854775807
theorem el_frm {f0 f1 f2 f3 : Field} (he : Tryz.prog.underlying 31 = some (.struct #[f0, f1, f2, f3])) (hone : oneCellFields Tryz.prog #[f0, f1, f2, f3] = true) (h0 : Tryz.prog.underlying f0.type = some (.int .i64)) (h1 : Tryz.prog.underlying f1.type = some (.int .u32)) (h2 : Tryz.prog.underlying f2.type = some (.int .u32)) (h3 : Tryz.prog.underlying f3.type = some .string) :
    ∀ n cs' x, DataW.trod enc Tryz.prog w base (fun _ => true) true n 31 cs' = some x → cs'.length = 4 → ∃ y : Fr × DataW H, cs' = frCs y.1 ∧ x.1 = y.2 ∧ FrGood y.1 := fun n cs' x h hl => by
  match cs', hl with
  | [c0, c1, c2, c3], _ =>
    obtain ⟨ys, n', _, hy, _, hyl, hfld⟩ := DataW.trod_struct he h
    match ys, hyl with
    | [y0, y1, y2, y3], _ =>
      obtain ⟨o0, k0⟩ := Go.Deep.hone_of hone 0 f0 rfl
      obtain ⟨o1, k1⟩ := Go.Deep.hone_of hone 1 f1 rfl
      obtain ⟨o2, k2⟩ := Go.Deep.hone_of hone 2 f2 rfl
      obtain ⟨o3, k3⟩ := Go.Deep.hone_of hone 3 f3 rfl
      have g0 := hfld 0 f0 rfl
      have g1 := hfld 1 f1 rfl
      have g2 := hfld 2 f2 rfl
      have g3 := hfld 3 f3 rfl
      simp only [o0, k0, List.drop_zero, List.take_succ_cons, List.take_zero, List.getElem?_cons_zero] at g0
      simp only [o1, k1, List.drop_succ_cons, List.drop_zero, List.take_succ_cons, List.take_zero, List.getElem?_cons_succ, List.getElem?_cons_zero] at g1
      simp only [o2, k2, List.drop_succ_cons, List.drop_zero, List.take_succ_cons, List.take_zero, List.getElem?_cons_succ, List.getElem?_cons_zero] at g2
      simp only [o3, k3, List.drop_succ_cons, List.drop_zero, List.take_succ_cons, List.take_zero, List.getElem?_cons_succ, List.getElem?_cons_zero] at g3
      obtain ⟨a0, e0, w0, e0'⟩ := field_int h0 g0
      obtain ⟨a1, e1, w1, e1'⟩ := field_int h1 g1
      obtain ⟨a2, e2, w2, e2'⟩ := field_int h2 g2
      obtain ⟨a3, e3, e3', w3⟩ := DataW.trod_string h3 g3
      simp only [List.cons.injEq, and_true] at e3
      subst e0 e1 e2 e3
      exact ⟨(⟨a0, a1, a2, a3⟩, x.1), rfl, rfl, w0, w1, w2, by simpa [maxLen] using w3⟩
instance : Inhabited (DataW H) := ⟨.nil⟩
end
end Go.Proofs.YtnhogmheedeeiaaGreat
/- Arguments opened: slices of calls on a tape, each with a frame inside. -/
namespace Go.Proofs.YtnhogmheedeeiaaGreat
open Go.ChangeShapes Go.WideShapes Go.ChangeAt Go.RowKit Go.Deep
set_option linter.unusedVariables false
set_option maxRecDepth 20000
set_option linter.unusedSimpArgs false
section
variable {H : Type} {enc : TypeId × Value → H} {w : World} {base : Nat}
def TGood (y : TStp) : Prop := (Lit.int .i64 y.what).wf = true ∧ (Lit.int .i64 y.a).wf = true ∧ (Lit.int .i64 y.fk).wf = true ∧ (Lit.int .u32 y.fa).wf = true ∧ (Lit.int .u32 y.fb).wf = true ∧ y.ft.size ≤ 9223372036854775807
theorem el_tstp {f0 f1 f2 f3 : Field} (he : Tryz.prog.underlying 33 = some (.struct #[f0, f1, f2, f3])) (q0 : f0.offset = 0 ∧ Tryz.prog.cellsOf f0.type = 1) (q1 : f1.offset = 1 ∧ Tryz.prog.cellsOf f1.type = 1) (q2 : f2.offset = 2 ∧ Tryz.prog.cellsOf f2.type = 4) (q3 : f3.offset = 6 ∧ Tryz.prog.cellsOf f3.type = 1)
    (h0 : Tryz.prog.underlying f0.type = some (.int .i64)) (h1 : Tryz.prog.underlying f1.type = some (.int .i64)) (h2 : f2.type = 31) (h3 : Tryz.prog.underlying f3.type = some .bool)
    {k0 k1 k2 k3 : Field} (hf : Tryz.prog.underlying 31 = some (.struct #[k0, k1, k2, k3])) (hone : oneCellFields Tryz.prog #[k0, k1, k2, k3] = true) (g0 : Tryz.prog.underlying k0.type = some (.int .i64)) (g1 : Tryz.prog.underlying k1.type = some (.int .u32)) (g2 : Tryz.prog.underlying k2.type = some (.int .u32)) (g3 : Tryz.prog.underlying k3.type = some .string) :
    ∀ n cs' x, DataW.trod enc Tryz.prog w base (fun _ => true) true n 33 cs' = some x → cs'.length = 7 → ∃ y : TStp × DataW H, cs' = tscells y.1 ∧ x.1 = y.2 ∧ TGood y.1 := fun n cs' x h hl => by
  match cs', hl with
  | [c0, c1, c2, c3, c4, c5, c6], _ =>
    obtain ⟨ys, n', _, hy, _, hyl, hfld⟩ := DataW.trod_struct he h
    match ys, hyl with
    | [y0, y1, y2, y3], _ =>
      obtain ⟨o0, m0⟩ := q0
      obtain ⟨o1, m1⟩ := q1
      obtain ⟨o2, m2⟩ := q2
      obtain ⟨o3, m3⟩ := q3
      have z0 := hfld 0 f0 rfl
      have z1 := hfld 1 f1 rfl
      have z2 := hfld 2 f2 rfl
      have z3 := hfld 3 f3 rfl
      simp only [o0, m0, List.drop_zero, List.take_succ_cons, List.take_zero, List.getElem?_cons_zero] at z0
      simp only [o1, m1, List.drop_succ_cons, List.drop_zero, List.take_succ_cons, List.take_zero, List.getElem?_cons_succ, List.getElem?_cons_zero] at z1
      simp only [o2, m2, List.drop_succ_cons, List.drop_zero, List.take_succ_cons, List.take_zero, List.getElem?_cons_succ, List.getElem?_cons_zero] at z2
      simp only [o3, m3, List.drop_succ_cons, List.drop_zero, List.take_succ_cons, List.take_zero, List.getElem?_cons_succ, List.getElem?_cons_zero] at z3
      obtain ⟨a0, e0, w0, e0'⟩ := field_int h0 z0
      obtain ⟨a1, e1, w1, e1'⟩ := field_int h1 z1
      rw [h2] at z2
      obtain ⟨y, e2, e2', w2⟩ := el_frm hf hone g0 g1 g2 g3 _ _ _ z2 rfl
      obtain ⟨a3, e3, e3'⟩ := field_bool h3 z3
      obtain ⟨⟨yk, ya, yb, yt⟩, yd⟩ := y
      simp only [frCs, List.cons.injEq, and_true] at e2
      obtain ⟨e20, e21, e22, e23⟩ := e2
      subst e0 e1 e20 e21 e22 e23 e3
      exact ⟨(⟨a0, a1, yk, ya, yb, yt, a3⟩, x.1), rfl, rfl, w0, w1, w2.1, w2.2.1, w2.2.2.1, w2.2.2.2⟩
theorem open_tstps {r : Reach} {b0 : Nat} {v : Value} {d : DataW H} {p : List MemPlace} (hs : Sized Tryz.prog 24 d) (hv : Value.okWide Tryz.prog w r b0 24 v) (h : DataW.Trod enc Tryz.prog w base (fun _ => true) true 24 v d p) :
    ∃ (A : Option Addr) (c : Nat) (xs : List TStp), v = .slice A xs.length c ∧ TStpsAt w A xs ∧ TStpOk xs := by
  obtain ⟨A, c, xs, hv', h1, h2, h3, h4, h5⟩ := open_elems (sz := 7) (fun y : TStp × DataW H => tscells y.1) (fun y => y.2) (fun y => TGood y.1) Tryz.underlying24 (by kernel_rfl) (by omega)
    (el_tstp Tryz.underlying33 ⟨rfl, by kernel_rfl⟩ ⟨rfl, by kernel_rfl⟩ ⟨rfl, by kernel_rfl⟩ ⟨rfl, by kernel_rfl⟩ Tryz.underlying3 Tryz.underlying3 rfl Tryz.underlying4 Tryz.underlying31 (by kernel_rfl) Tryz.underlying3 Tryz.underlying29 Tryz.underlying29 Tryz.underlying9) hs hv h
  refine ⟨A, c, xs.map (·.1), by rw [List.length_map]; exact hv', ⟨by rw [List.length_map]; exact h1, fun hn => ?_⟩, fun y hy => ?_⟩
  · rw [List.length_map] at hn
    obtain ⟨b, off, e, hc⟩ := h4 hn
    refine ⟨b, off, e, fun j hj => ?_⟩
    have hj' : j < xs.length := by rw [List.length_map] at hj; exact hj
    simp only [List.getElem_map]
    have z0 := hc j hj' 0 (by omega)
    have z1 := hc j hj' 1 (by omega)
    have z2 := hc j hj' 2 (by omega)
    have z3 := hc j hj' 3 (by omega)
    have z4 := hc j hj' 4 (by omega)
    have z5 := hc j hj' 5 (by omega)
    have z6 := hc j hj' 6 (by omega)
    rw [← Nat.add_assoc] at z0 z1 z2 z3 z4 z5 z6
    exact ⟨z0, z1, z2, z3, z4, z5, z6⟩
  · obtain ⟨z, hz, rfl⟩ := List.mem_map.1 hy
    obtain ⟨w0, w1, w2, w3, w4, w5⟩ := (h3 z hz).1
    exact ⟨bounds_i64 w0, bounds_i64 w1, bounds_i64 w2, bounds_u32 w3, bounds_u32 w4, w5⟩
end
end Go.Proofs.YtnhogmheedeeiaaGreat
