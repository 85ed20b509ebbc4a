/- The statement ValidShortUptoSaid is proved as given. For arguments that hold together at most 1048576 values and letters, as the given 'ValidShortUptoSaid' says. -/
import Derived.Test.YtfhkkelhhjbbpaaRows
import Derived.Test.YtfhkkelhhjbbpaaLawValid4
import Derived.WalkKit
import Derived.ProofKit
import Derived.OpenShut
import Derived.ShutString
import Derived.ChangeOld
import Derived.Below
import Derived.SizedLaws
import Derived.SliceStrings
import Derived.Lib.SmallJoins
import Derived.Test.YtfhkkelhhjbbpaaOpen
import Derived.Test.YtfhkkelhhjbbpaaOpenV
import Derived.Test.YtfhkkelhhjbbpaaBulk
import Derived.Deep.CondSized
import Derived.JoinedCond
namespace Go.Proofs.Ytfhkkelhhjbbpaa.validShort
open Go.ChangeShapes Go.WideShapes Go.ChangeAt Go.RowKit
open Go.ChangeMaps (open_string shut_string)
set_option linter.unusedVariables false

theorem own : ownKnob Try.prog.godebug = none := by kernel_rfl
theorem laidOut : laidOutB Try.prog = true := by kernel_rfl

set_option maxRecDepth 100000 in
theorem lifted (os : Os) (started : os.Started) (H : Type) (enc : TypeId × Value → H)
    (F : Stop.Interp) : ReturnsInHanded {} Try.checked os 6 .any ((Rows.OpenSpec.upto Rows.validShortSpec).pre6 enc Try.prog Try.f6 Rows.validShortUptoRow.domain false) (((Rows.OpenSpec.upto Rows.validShortSpec).at F).post enc Try.prog Try.f6 false true false false) := by
  refine returnsInHanded_of_cond_sized (C := Try.checked) (s := Rows.OpenSpec.upto Rows.validShortSpec) (k := Rows.uptoSmall) rfl own started (by kernel_rfl) Try.func6
    (OpenSpec.witness (enc := enc) (C := Try.checked) (s := Rows.OpenSpec.upto Rows.validShortSpec) (k := Rows.uptoSmall) rfl false ⟨#[], #[.slice none 0 0, .slice none 0 0, .int .u32 0, .slice none 0 0], []⟩ 8 (by kernel_rfl) (by kernel_rfl) (by kernel_rfl) (x := ([.nil, .nil, .lit (.int .u32 0), .nil], [], [])) (by kernel_rfl) rfl (by kernel_rfl)) ?_
  intro W base args ds gs before hval0 hW hcnd hk0 hsz0 _
  have hval : ∀ (j : Nat) t v, Try.f6.params[j]? = some t → args[j]? = some v → Value.okWide Try.prog W .any base t v := hval0
  have hsz : (DataW.weightsEach Try.prog (Try.f6.params.toList ++ Rows.validShortSpec.plain.varTypes Try.prog) (ds ++ gs)).all (· ≤ reachBytes) = true := hsz0
  have hk1 := hk0
  have hW' := hW
  obtain ⟨p, q, hA0, hV, rfl, hfz, hnd⟩ := hW
  have hA : DataW.TrodAll enc Try.prog W 0 (fun _ => true) true Try.f6.params.toList args.toList ds p := hA0
  rw [Try.params6] at hA hval hsz
  obtain ⟨v0, vs0, d0, ds0, p0, q0, hargs, rfl, rfl, h0, r0⟩ := trodAll_cons hA
  obtain ⟨v1, vs1, d1, ds1, p1, q1, rfl, rfl, rfl, h1, r1⟩ := trodAll_cons r0
  obtain ⟨v2, vs2, d2, ds2, p2, q2, rfl, rfl, rfl, h2, r2⟩ := trodAll_cons r1
  obtain ⟨v3, vs3, d3, ds3, p3, q3, rfl, rfl, rfl, h3, r3⟩ := trodAll_cons r2
  obtain ⟨rfl, rfl, rfl⟩ := trodAll_nil r3
  obtain rfl : args = #[v0, v1, v2, v3] := by cases args; simp_all
  obtain ⟨rfl, rfl⟩ := trodVars_none hV
  have k0 := h0
  have lt0 : ∀ x ∈ p0, x.block < W.heap.size := by obtain ⟨m, hm⟩ := k0; exact DataW.trod_lt m _ _ _ hm
  have k1 := h1
  have lt1 : ∀ x ∈ p1, x.block < W.heap.size := by obtain ⟨m, hm⟩ := k1; exact DataW.trod_lt m _ _ _ hm
  have k2 := h2
  have lt2 : ∀ x ∈ p2, x.block < W.heap.size := by obtain ⟨m, hm⟩ := k2; exact DataW.trod_lt m _ _ _ hm
  have k3 := h3
  have lt3 : ∀ x ∈ p3, x.block < W.heap.size := by obtain ⟨m, hm⟩ := k3; exact DataW.trod_lt m _ _ _ hm
  have z0 : Sized Try.prog 22 d0 := sized_arg hsz (j := 0) rfl rfl
  have z1 : Sized Try.prog 23 d1 := sized_arg hsz (j := 1) rfl rfl
  have z2 : Sized Try.prog 24 d2 := sized_arg hsz (j := 2) rfl rfl
  have z3 : Sized Try.prog 23 d3 := sized_arg hsz (j := 3) rfl rfl
  obtain ⟨A0, c0, x0, rfl, H0, l0, w0, e0⟩ := open_rds z0 (hval 0 22 v0 rfl rfl) h0
  obtain ⟨A1, c1, x1, rfl, H1, l1, w1, e1⟩ := open_nums Try.underlying23 Try.underlying24 (by kernel_rfl) z1 (hval 1 23 v1 rfl rfl) h1
  have by1 : Try.prog.bytesOf 24 = 4 := by kernel_rfl
  rw [by1] at l1
  obtain ⟨a2, rfl, rfl, rfl, w2⟩ := open_int Try.underlying24 (hval 2 24 v2 rfl rfl) h2
  obtain ⟨A3, c3, x3, rfl, H3, l3, w3, e3⟩ := open_nums Try.underlying23 Try.underlying24 (by kernel_rfl) z3 (hval 3 23 v3 rfl rfl) h3
  have by3 : Try.prog.bytesOf 24 = 4 := by kernel_rfl
  rw [by3] at l3
  simp only [List.append_nil] at hk0
  have bulk0 := bulk_len (of_decide_eq_true hk0) (j := 0) rfl e0
  have bulk1 := bulk_len (of_decide_eq_true hk0) (j := 1) rfl e1
  have bulk3 := bulk_len (of_decide_eq_true hk0) (j := 3) rfl e3
  clear hA0 hval0 hsz0
  refine (ValidShort_walk W A0 c0 x0 H0 l0 w0 (bulk0) A1 c1 x1 H1 l1 w1 (bulk1) a2 w2 A3 c3 x3 H3 l3 w3 (bulk3)).mono fun e W' ⟨he, bel⟩ => ?_
  subst he
  have bel' : Below W.heap.size W W' := bel
  exact ⟨_, rfl, _, _, _, [], _, [], hW', trodAll_mk1 (shut_bool Try.underlying4 _), (trodAll_cons_mk (Below.trod laidOut (by kernel_rfl) (of_decide_eq_true (by kernel_rfl)) k0 bel' lt0) (trodAll_cons_mk (Below.trod laidOut (by kernel_rfl) (of_decide_eq_true (by kernel_rfl)) k1 bel' lt1) (trodAll_cons_mk (Below.trod laidOut (by kernel_rfl) (of_decide_eq_true (by kernel_rfl)) k2 bel' lt2) (trodAll_cons_mk (Below.trod laidOut (by kernel_rfl) (of_decide_eq_true (by kernel_rfl)) k3 bel' lt3) trodAll_mk0)))), rfl, bel'.frame _, fun h => by cases h⟩

theorem over : Rows.validShortUptoRow.holds Try.pinned (Rows.OpenSpec.upto Rows.validShortSpec) :=
  OpenClaim.holds_of_cond 6 Try.f6 rfl rfl rfl rfl rfl rfl rfl ⟨rfl, rfl, rfl, rfl, rfl⟩ rfl rfl rfl rfl rfl (by kernel_rfl) Try.func6 (by kernel_rfl)
    (of_decide_eq_true (by kernel_rfl)) (by unfold Func.isWrapper; first | (rw [if_pos (by decide +kernel)]; kernel_rfl) | (rw [if_neg (by decide +kernel)]; exact ⟨rfl, rfl⟩))
    (fun os started H enc _ F => lifted os started H enc F)

theorem proved : Rows.ValidShortUptoSaid := over
#print axioms proved
end Go.Proofs.Ytfhkkelhhjbbpaa.validShort
