/- The reference's account made anew. -/
import Derived.Test.YtbcoghfpomnkkaaLawChart7
import Derived.Deep.OwnRows
namespace Go.Proofs.Ytbcoghfpomnkkaa
open Go.RowKit
set_option linter.unusedVariables false

theorem madeq (z : Value) (n : Nat) : madeCells #[z] n = (List.replicate n z).toArray := by
  apply Array.ext
  · simp [madeCells]
  · intro i h1 h2
    simp [madeCells, Nat.mod_one]
theorem info_u32 : (Try.prog.info? 29).map (fun i => (i.zero, i.size, i.bytes)) = some (some (.int .u32 0), 1, 4) := by kernel_rfl
theorem info_i64 : (Try.prog.info? 3).map (fun i => (i.zero, i.size, i.bytes)) = some (some (.int .i64 0), 1, 8) := by kernel_rfl
theorem make_u32 (n : Nat) (hn : n ≤ 1000) (W : World) : (Instr.makeSlice 66 (.int .i64 (n : Int)) (.int .i64 (n : Int))).run Try.prog W =
    .ok (.slice (some ⟨W.heap.size, 0, none⟩) n n) (W.alloc (.cells (eps (List.replicate n (0, 0))).toArray 29)) := by
  have := run_make_row' (P := Try.prog) 66 29 (.int .u32 0) 4 Try.underlying66 info_u32 rfl .i64 .i64 n (by omega) (by omega) W
  rw [madeq] at this
  simpa [eps] using this
theorem make_i64 (n : Nat) (hn : n ≤ 1000) (W : World) : (Instr.makeSlice 38 (.int .i64 (n : Int)) (.int .i64 (n : Int))).run Try.prog W =
    .ok (.slice (some ⟨W.heap.size, 0, none⟩) n n) (W.alloc (.cells (uss (List.replicate n (0, 0))).toArray 3)) := by
  have := run_make_row' (P := Try.prog) 38 3 (.int .i64 0) 8 Try.underlying38 info_i64 rfl .i64 .i64 n (by omega) (by omega) W
  rw [madeq] at this
  simpa [uss] using this
def RNew (w : World) (p s : Int) (n : Nat) (e : Ending) (w' : World) : Prop :=
  ∃ g b u, e = .returned (.pointer (some ⟨g, 0, none⟩)) ∧ (w.heap.size ≤ g ∧ w.heap.size ≤ b ∧ w.heap.size ≤ u) ∧ RcAt w' g b u p s (List.replicate n (0, 0)) (-1) ∧ Kp w w'
set_option maxHeartbeats 1600000 in
theorem rnew_any (p s : Int) (n : Nat) (hR : RightG p s n) (w : World) :
    Calls Try.prog 27 #[geo p s n] w (RNew w p s n) := by
  obtain ⟨r1, r2, r3, r4, r5, r6⟩ := id hR
  have hm1 := make_u32 n (by omega)
  have hm2 := make_i64 n (by omega)
  go_enter Try.func27, Try.ntmps27
  go_wp2_with fail
  go_region
  all_goals
    go_wp2_with fail
    go_ret
    first
    | exact ⟨w.heap.size + 1 + 1 + 1, w.heap.size + 1, w.heap.size + 1 + 1, rfl, ⟨by omega, by omega, by omega⟩, ⟨by rw [List.length_replicate]; exact (Bk.atc _ _ _ _ (by simp)).drew, (((Bk.atc _ _ _ _ (by simp)).alloc _).alloc _).drew, ((Bk.atc _ _ _ _ (by simp)).alloc _).drew, by omega, by omega, by omega⟩, by (repeat (first | with_reducible exact Kp.refl _ | with_reducible assumption | with_reducible refine Kp.alloc ?_ _ | with_reducible refine Kp.drew ?_ | with_reducible refine Kp.drewN ?_ _ | exact Kp.refl _ | assumption | refine Kp.alloc ?_ _ | refine Kp.drew ?_ | refine Kp.drewN ?_ _ | refine Kp.trans ?_ (by assumption)))⟩
    | exact ⟨w.heap.size + 1 + 1 + 1, w.heap.size + 1 + 1, w.heap.size + 1, rfl, ⟨by omega, by omega, by omega⟩, ⟨by rw [List.length_replicate]; exact (Bk.atc _ _ _ _ (by simp)).drew, ((Bk.atc _ _ _ _ (by simp)).alloc _).drew, (((Bk.atc _ _ _ _ (by simp)).alloc _).alloc _).drew, by omega, by omega, by omega⟩, by (repeat (first | with_reducible exact Kp.refl _ | with_reducible assumption | with_reducible refine Kp.alloc ?_ _ | with_reducible refine Kp.drew ?_ | with_reducible refine Kp.drewN ?_ _ | exact Kp.refl _ | assumption | refine Kp.alloc ?_ _ | refine Kp.drew ?_ | refine Kp.drewN ?_ _ | refine Kp.trans ?_ (by assumption)))⟩
end Go.Proofs.Ytbcoghfpomnkkaa
