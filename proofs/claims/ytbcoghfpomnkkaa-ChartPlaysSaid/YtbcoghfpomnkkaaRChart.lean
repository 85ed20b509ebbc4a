/- The reference's account in memory, and the contracts of its small methods: the same functions of the same lists as the program's account. -/
import Derived.Test.YtbcoghfpomnkkaaChart9
namespace Go.Proofs.Ytbcoghfpomnkkaa
open Go.RowKit
set_option linter.unusedVariables false

def eps (l : List (Int × Int)) : List Value := l.map fun x => .int .u32 x.1
def uss (l : List (Int × Int)) : List Value := l.map fun x => .int .i64 x.2
/-- The reference's account: its struct is block g, epochs block e, used slots block u. -/
structure RcAt (W : World) (g e u : Nat) (p s : Int) (l : List (Int × Int)) (o : Int) : Prop where
  box : Bk W g 68 [.int .i64 p, .int .i64 s, .int .i64 (l.length : Nat), .slice (some ⟨e, 0, none⟩) l.length l.length, .slice (some ⟨u, 0, none⟩) l.length l.length, .int .i64 o]
  er : Bk W e 29 (eps l)
  ur : Bk W u 3 (uss l)
  ge : g ≠ e
  gu : g ≠ u
  eu : e ≠ u
section
variable {W W' : World} {g e u : Nat} {p s : Int} {l : List (Int × Int)} {o : Int}
theorem RcAt.keep (h : RcAt W g e u p s l o) (k : Kp W W') : RcAt W' g e u p s l o := ⟨h.box.keep k, h.er.keep k, h.ur.keep k, h.ge, h.gu, h.eu⟩
theorem RcAt.c6 (h : RcAt W g e u p s l o) : W.cell? ⟨g, 0, none⟩ = some (.int .i64 p) ∧ W.cell? ⟨g, 1, none⟩ = some (.int .i64 s) ∧ W.cell? ⟨g, 2, none⟩ = some (.int .i64 (l.length : Nat)) ∧ W.cell? ⟨g, 3, none⟩ = some (.slice (some ⟨e, 0, none⟩) l.length l.length) ∧ W.cell? ⟨g, 4, none⟩ = some (.slice (some ⟨u, 0, none⟩) l.length l.length) ∧ W.cell? ⟨g, 5, none⟩ = some (.int .i64 o) :=
  ⟨h.box.cell 0, h.box.cell 1, h.box.cell 2, h.box.cell 3, h.box.cell 4, h.box.cell 5⟩
theorem RcAt.c2 (h : RcAt W g e u p s l o) (i : Nat) (hi : i < l.length) : W.cell? ⟨e, i, none⟩ = some (.int .u32 (epo l i)) ∧ W.cell? ⟨u, i, none⟩ = some (.int .i64 (uso l i)) := by
  rw [h.er.cell, h.ur.cell, ← ep_in l i hi, ← us_in l i hi]
  simp [eps, uss, hi]
theorem RcAt.fr (h : RcAt W g e u p s l o) (i : Nat) : W.frozen? ⟨e, i, none⟩ = false ∧ W.frozen? ⟨u, i, none⟩ = false := ⟨h.er.free _, h.ur.free _⟩
theorem RcAt.put (h : RcAt W g e u p s l o) (i : Nat) (a b : Int) : RcAt ((W.setCell ⟨e, i, none⟩ (.int .u32 a)).setCell ⟨u, i, none⟩ (.int .i64 b)) g e u p s (l.set i (a, b)) o := by
  refine ⟨?_, ?_, ?_, h.ge, h.gu, h.eu⟩
  · rw [List.length_set]; exact (h.box.far h.ge _).far h.gu _
  · have := (h.er.put i (.int .u32 a)).far (p := ⟨u, i, none⟩) h.eu (.int .i64 b)
    have e2 : eps (l.set i (a, b)) = (eps l).set i (.int .u32 a) := by simp [eps, List.map_set]
    rw [e2]; exact this
  · have := (h.ur.far (p := ⟨e, i, none⟩) (Ne.symm h.eu) (.int .u32 a)).put i (.int .i64 b)
    have e2 : uss (l.set i (a, b)) = (uss l).set i (.int .i64 b) := by simp [uss, List.map_set]
    rw [e2]; exact this
theorem RcAt.put1 (h : RcAt W g e u p s l o) (i : Nat) (hi : i < l.length) (b : Int) : RcAt (W.setCell ⟨u, i, none⟩ (.int .i64 b)) g e u p s (l.set i (epo l i, b)) o := by
  refine ⟨?_, ?_, ?_, h.ge, h.gu, h.eu⟩
  · rw [List.length_set]; exact h.box.far h.gu _
  · have := h.er.far (p := ⟨u, i, none⟩) h.eu (.int .i64 b)
    have e2 : eps (l.set i (epo l i, b)) = eps l := by
      simp only [eps, List.map_set]
      rw [← ep_in l i hi]
      apply List.ext_getElem (by simp)
      intro j h1 h2
      rw [List.getElem_set]
      split
      · subst_vars; simp
      · rfl
    rw [e2]; exact this
  · have := h.ur.put i (.int .i64 b)
    have e2 : uss (l.set i (epo l i, b)) = (uss l).set i (.int .i64 b) := by simp [uss, List.map_set]
    rw [e2]; exact this
theorem RcAt.opn (h : RcAt W g e u p s l o) (k : Int) : RcAt (W.setCell ⟨g, 5, none⟩ (.int .i64 k)) g e u p s l k :=
  ⟨h.box.put 5 _, h.er.far (Ne.symm h.ge) _, h.ur.far (Ne.symm h.gu) _, h.ge, h.gu, h.eu⟩
theorem RcAt.mv {S : List Nat} (h : RcAt W g e u p s l o) (k : Mv S W W') (hg : g ∉ S) (he : e ∉ S) (hu : u ∉ S) : RcAt W' g e u p s l o :=
  ⟨h.box.mv k hg, h.er.mv k he, h.ur.mv k hu, h.ge, h.gu, h.eu⟩
end

set_option maxHeartbeats 800000 in
theorem rfree_any (W : World) (g e u : Nat) (p s : Int) (l : List (Int × Int)) (o : Int) (h : RcAt W g e u p s l o) (hl : l.length ≤ 100) :
    Calls Try.prog 44 #[.pointer (some ⟨g, 0, none⟩)] W fun x w' => x = .returned (.int .i64 (frees l l.length : Nat)) ∧ Kp W w' := by
  obtain ⟨c0, c1, c2, c3, c4, c5⟩ := h.c6
  go_enter Try.func44, Try.ntmps44
  go_wp2_with fail
  go_loopw [3, 4] (fun n i wr => ∃ k : Nat, k ≤ l.length ∧ i = .int .i64 k ∧ n = .int .i64 (frees l k : Nat) ∧ Kp W wr) (fun _ i _ => l.length - (intOf i).toNat)
  case atStart => exact ⟨0, by omega, rfl, rfl, Kp.refl W⟩
  case round =>
    obtain ⟨k, hk, rfl, rfl, hKr⟩ := hrel
    have hf := frees_le l k
    clear c0 c1 c2 c3 c4 c5
    obtain ⟨c0, c1, c2, c3, c4, c5⟩ := (h.keep hKr).c6
    by_cases hlt : k < l.length
    · obtain ⟨e0, e1⟩ := (h.keep hKr).c2 k hlt
      by_cases hz : epo l k = 0
      · have hs : frees l (k + 1) = frees l k + 1 := by rw [frees, if_pos hz]
        have HS := Lib.hid hs
        rw [hz] at e0
        clear hs hz
        go_wp2_with fail
        go_roundw
        case rel => exact ⟨k + 1, by omega, by go_num, by rw [HS.out]; go_num, hKr⟩
        case measure => simp [intOf]; omega
      · have hs : frees l (k + 1) = frees l k := by rw [frees, if_neg hz]; rfl
        have HS := Lib.hid hs
        have hb : (epo l k == 0) = false := by simpa using hz
        clear hs hz
        go_wp2_with fail
        go_roundw
        case rel => exact ⟨k + 1, by omega, by go_num, by rw [HS.out], hKr⟩
        case measure => simp [intOf]; omega
    · obtain rfl : k = l.length := by omega
      go_wp2_with fail
      go_ret
      exact ⟨rfl, hKr⟩
end Go.Proofs.Ytbcoghfpomnkkaa
