/- Accounts in memory: what they are, how they are kept. -/
import Derived.Test.YtbcoghfpomnkkaaGeom2
import Derived.Test.YtbcoghfpomnkkaaTail
import Derived.Laws.MakeOwn
namespace Go.Proofs.Ytbcoghfpomnkkaa
open Go.RowKit
set_option linter.unusedVariables false

/-- All blocks but some are as they were. -/
structure Mv (S : List Nat) (w w' : World) : Prop where
  os : w'.os = w.os
  tape : w'.tape = w.tape
  output : w'.output = w.output
  size : w.heap.size ≤ w'.heap.size
  block : ∀ b, b < w.heap.size → b ∉ S → w'.heap[b]? = w.heap[b]?
section
variable {S : List Nat} {w w' w'' : World}
theorem Mv.of (h : Kp w w') : Mv S w w' := ⟨h.os, h.tape, h.output, h.size, fun b hb _ => h.block b hb⟩
theorem Mv.refl (w : World) : Mv S w w := Mv.of (Kp.refl w)
theorem Mv.trans (h : Mv S w w') (k : Mv S w' w'') : Mv S w w'' :=
  ⟨k.os.trans h.os, k.tape.trans h.tape, k.output.trans h.output, Nat.le_trans h.size k.size, fun b hb hS => (k.block b (Nat.lt_of_lt_of_le hb h.size) hS).trans (h.block b hb hS)⟩
theorem Mv.alloc (h : Mv S w w') (o : Obj) : Mv S w (w'.alloc o) := h.trans (Mv.of (Kp.one w' o))
theorem Mv.drew (h : Mv S w w') : Mv S w w'.drew := h.trans (Mv.of (Kp.refl w').drew)
theorem Mv.set (h : Mv S w w') {p : Addr} (hp : p.block ∈ S) (v : Value) : Mv S w (w'.setCell p v) :=
  h.trans ⟨rfl, rfl, rfl, by simp, fun b hb hS => Below.heap_setCell w' p v b (fun e => hS (e ▸ hp))⟩
theorem Mv.kp {w0 : World} (h : Kp w0 w) (hS : ∀ b ∈ S, w0.heap.size ≤ b) (k : Mv S w w') : Kp w0 w' :=
  ⟨k.os.trans h.os, k.tape.trans h.tape, k.output.trans h.output, Nat.le_trans h.size k.size, fun b hb => (k.block b (Nat.lt_of_lt_of_le hb h.size) (fun hm => Nat.lt_irrefl _ (Nat.lt_of_lt_of_le hb (hS b hm)))).trans (h.block b hb)⟩
theorem Bk.mv {g : Nat} {t : TypeId} {cs : List Value} (h : Bk w g t cs) (k : Mv S w w') (hg : g ∉ S) : Bk w' g t cs := (k.block g h.lt hg).trans h
theorem Mv.sub {S' : List Nat} (h : Mv S w w') (hs : ∀ b ∈ S, b ∈ S') : Mv S' w w' := ⟨h.os, h.tape, h.output, h.size, fun b hb hb2 => h.block b hb (fun hm => hb2 (hs b hm))⟩
end

/-- The regions' cells: epoch and used, region by region. -/
def flat (l : List (Int × Int)) : List Value := l.flatMap fun x => [.int .u32 x.1, .int .i64 x.2]
theorem flat_cons (x : Int × Int) (l : List (Int × Int)) : flat (x :: l) = .int .u32 x.1 :: .int .i64 x.2 :: flat l := rfl
theorem flat_len (l : List (Int × Int)) : (flat l).length = 2 * l.length := by
  induction l with
  | nil => rfl
  | cons x l ih => rw [flat_cons]; simp [ih]; omega
theorem flat_get0 (l : List (Int × Int)) : ∀ i : Nat, (flat l)[2 * i]? = (l[i]?).map fun x => .int .u32 x.1 := by
  induction l with
  | nil => intro i; simp [flat]
  | cons x l ih =>
    intro i
    rw [flat_cons]
    cases i with
    | zero => rfl
    | succ i => rw [show 2 * (i + 1) = (2 * i + 1) + 1 by omega]; simp [ih i]
theorem flat_get1 (l : List (Int × Int)) : ∀ i : Nat, (flat l)[2 * i + 1]? = (l[i]?).map fun x => .int .i64 x.2 := by
  induction l with
  | nil => intro i; simp [flat]
  | cons x l ih =>
    intro i
    rw [flat_cons]
    cases i with
    | zero => rfl
    | succ i => rw [show 2 * (i + 1) + 1 = (2 * i + 1) + 1 + 1 by omega]; simp [ih i]
theorem flat_set (l : List (Int × Int)) : ∀ (i : Nat) (a b : Int), ((flat l).set (2 * i) (.int .u32 a)).set (2 * i + 1) (.int .i64 b) = flat (l.set i (a, b)) := by
  induction l with
  | nil => intro i a b; simp [flat]
  | cons x l ih =>
    intro i a b
    cases i with
    | zero => rfl
    | succ i =>
      rw [flat_cons, show 2 * (i + 1) + 1 = (2 * i + 1) + 1 + 1 by omega, show 2 * (i + 1) = (2 * i) + 1 + 1 by omega]
      simp [ih i a b, flat_cons]
theorem flat_set1 (l : List (Int × Int)) : ∀ (i : Nat) (b : Int), i < l.length → (flat l).set (2 * i + 1) (.int .i64 b) = flat (l.set i ((l.getD i (0, 0)).1, b)) := by
  induction l with
  | nil => intro i b h; simp at h
  | cons x l ih =>
    intro i b h
    cases i with
    | zero => rfl
    | succ i =>
      rw [flat_cons, show 2 * (i + 1) + 1 = (2 * i + 1) + 1 + 1 by omega]
      simp [ih i b (by simpa using h), flat_cons]
theorem flat_zero (n : Nat) : madeCells #[.int .u32 0, .int .i64 0] (n * 2) = (flat (List.replicate n (0, 0))).toArray := by
  apply Array.ext_getElem?
  intro i
  rw [show (flat (List.replicate n (0, 0))).toArray[i]? = (flat (List.replicate n (0, 0)))[i]? from by simp]
  obtain ⟨j, hj | hj⟩ : ∃ j, i = 2 * j ∨ i = 2 * j + 1 := ⟨i / 2, by omega⟩
  · subst hj
    rw [flat_get0]
    by_cases h : j < n
    · simp [madeCells, h, show 2 * j < n * 2 by omega]
    · simp [madeCells, h, show ¬ 2 * j < n * 2 by omega]
  · subst hj
    rw [flat_get1]
    by_cases h : j < n
    · simp [madeCells, h, show 2 * j + 1 < n * 2 by omega, show (2 * j + 1) % 2 = 1 by omega]
    · simp [madeCells, h, show ¬ 2 * j + 1 < n * 2 by omega]

/-- An account in memory: its struct is block g, its regions are block q. -/
structure ChAt (W : World) (g q : Nat) (p s : Int) (l : List (Int × Int)) (o : Int) : Prop where
  box : Bk W g 58 [.int .i64 p, .int .i64 s, .int .i64 (l.length : Nat), .slice (some ⟨q, 0, none⟩) l.length l.length, .int .i64 o]
  row : Bk W q 62 (flat l)
  ne : g ≠ q
theorem ChAt.keep {W W' : World} {g q : Nat} {p s : Int} {l : List (Int × Int)} {o : Int} (h : ChAt W g q p s l o) (k : Kp W W') : ChAt W' g q p s l o := ⟨h.box.keep k, h.row.keep k, h.ne⟩
theorem ChAt.c5 {W : World} {g q : Nat} {p s : Int} {l : List (Int × Int)} {o : Int} (h : ChAt W g q p s l o) :
    W.cell? ⟨g, 0, none⟩ = some (.int .i64 p) ∧ W.cell? ⟨g, 1, none⟩ = some (.int .i64 s) ∧ W.cell? ⟨g, 2, none⟩ = some (.int .i64 (l.length : Nat)) ∧ W.cell? ⟨g, 3, none⟩ = some (.slice (some ⟨q, 0, none⟩) l.length l.length) ∧ W.cell? ⟨g, 4, none⟩ = some (.int .i64 o) :=
  ⟨h.box.cell 0, h.box.cell 1, h.box.cell 2, h.box.cell 3, h.box.cell 4⟩
theorem ChAt.ep {W : World} {g q : Nat} {p s : Int} {l : List (Int × Int)} {o : Int} (h : ChAt W g q p s l o) (i : Nat) (hi : i < l.length) :
    W.cell? ⟨q, i * 2, none⟩ = some (.int .u32 l[i].1) ∧ W.cell? ⟨q, i * 2 + 1, none⟩ = some (.int .i64 l[i].2) := by
  rw [h.row.cell, h.row.cell, Nat.mul_comm, flat_get0, flat_get1, List.getElem?_eq_getElem hi]; exact ⟨rfl, rfl⟩
theorem ChAt.fr {W : World} {g q : Nat} {p s : Int} {l : List (Int × Int)} {o : Int} (h : ChAt W g q p s l o) (i : Nat) :
    W.frozen? ⟨q, i * 2, none⟩ = false ∧ W.frozen? ⟨q, i * 2 + 1, none⟩ = false := ⟨h.row.free _, h.row.free _⟩
/-- A region's state is another. -/
theorem ChAt.put {W : World} {g q : Nat} {p s : Int} {l : List (Int × Int)} {o : Int} (h : ChAt W g q p s l o) (i : Nat) (a b : Int) :
    ChAt ((W.setCell ⟨q, i * 2, none⟩ (.int .u32 a)).setCell ⟨q, i * 2 + 1, none⟩ (.int .i64 b)) g q p s (l.set i (a, b)) o := by
  refine ⟨?_, ?_, h.ne⟩
  · rw [List.length_set]; exact (h.box.far h.ne _).far h.ne _
  · have := (h.row.put (i * 2) (.int .u32 a)).put (i * 2 + 1) (.int .i64 b)
    rwa [Nat.mul_comm, flat_set, Nat.mul_comm 2] at this
theorem ChAt.put1 {W : World} {g q : Nat} {p s : Int} {l : List (Int × Int)} {o : Int} (h : ChAt W g q p s l o) (i : Nat) (hi : i < l.length) (b : Int) :
    ChAt (W.setCell ⟨q, i * 2 + 1, none⟩ (.int .i64 b)) g q p s (l.set i (l[i].1, b)) o := by
  refine ⟨?_, ?_, h.ne⟩
  · rw [List.length_set]; exact (h.box.far h.ne _)
  · have := h.row.put (i * 2 + 1) (.int .i64 b)
    rw [Nat.mul_comm, flat_set1 _ _ _ hi] at this
    rw [Nat.mul_comm]
    simpa [hi] using this
theorem ChAt.opn {W : World} {g q : Nat} {p s : Int} {l : List (Int × Int)} {o : Int} (h : ChAt W g q p s l o) (k : Int) :
    ChAt (W.setCell ⟨g, 4, none⟩ (.int .i64 k)) g q p s l k :=
  ⟨h.box.put 4 _, h.row.far (Ne.symm h.ne) _, h.ne⟩

theorem info_state : (Try.prog.info? 62).map (fun i => (i.zero, i.size, i.bytes)) = some (some (.agg #[.int .u32 0, .int .i64 0]), 2, 16) := by kernel_rfl
theorem make_states (n : Nat) (hn : n ≤ 100) (W : World) : (Instr.makeSlice 56 (.int .i64 (n : Int)) (.int .i64 (n : Int))).run Try.prog W =
    .ok (.slice (some ⟨W.heap.size, 0, none⟩) n n) (W.alloc (.cells (flat (List.replicate n (0, 0))).toArray 62)) := by
  obtain ⟨i, hi, hzz⟩ := Option.map_eq_some_iff.1 info_state
  simp only [Prod.mk.injEq] at hzz
  obtain ⟨hz, hs, hb⟩ := hzz
  have := run_make (P := Try.prog) W 56 62 i _ Try.underlying56 hi hz .i64 .i64 n n (by omega) (Int.le_refl _) (by rw [hb]; omega) (by omega)
  rw [this, hs]
  simp only [Int.toNat_natCast]
  rw [← flat_zero]
  rfl

set_option maxHeartbeats 400000 in
theorem chas_yes (W : World) (g q : Nat) (p s : Int) (l : List (Int × Int)) (o : Int) (h : ChAt W g q p s l o) (i : Int) (h0 : 0 ≤ i) (hi : i < (l.length : Int)) :
    Calls Try.prog 34 #[.pointer (some ⟨g, 0, none⟩), .int .i64 i] W fun e w' => e = .returned (.bool true) ∧ W = w' := by
  obtain ⟨c0, c1, c2, c3, c4⟩ := h.c5
  have d1 : decide (i < (l.length : Int)) = true := by simpa using hi
  go_enter Try.func34, Try.ntmps34
  go_wp2
  go_ret
  exact ⟨rfl, rfl⟩
set_option maxHeartbeats 400000 in
theorem chas_no (W : World) (g q : Nat) (p s : Int) (l : List (Int × Int)) (o : Int) (h : ChAt W g q p s l o) (i : Int) (hi : i < 0 ∨ (l.length : Int) ≤ i) :
    Calls Try.prog 34 #[.pointer (some ⟨g, 0, none⟩), .int .i64 i] W fun e w' => e = .returned (.bool false) ∧ W = w' := by
  obtain ⟨c0, c1, c2, c3, c4⟩ := h.c5
  have hi' : i < 0 ∨ (0 ≤ i ∧ (l.length : Int) ≤ i) := by omega
  rcases hi' with h1 | ⟨h1, h2⟩
  · go_enter Try.func34, Try.ntmps34
    go_wp2
    go_ret
    exact ⟨rfl, rfl⟩
  · have d1 : decide (i < (l.length : Int)) = false := by simp; omega
    go_enter Try.func34, Try.ntmps34
    go_wp2
    go_ret
    exact ⟨rfl, rfl⟩
set_option maxHeartbeats 400000 in
theorem cepoch_in (W : World) (g q : Nat) (p s : Int) (l : List (Int × Int)) (o : Int) (h : ChAt W g q p s l o) (hl : l.length ≤ 100) (i : Nat) (hi : i < l.length) :
    Calls Try.prog 30 #[.pointer (some ⟨g, 0, none⟩), .int .i64 i] W fun e w' => e = .returned (.int .u32 l[i].1) ∧ W = w' := by
  obtain ⟨c0, c1, c2, c3, c4⟩ := h.c5
  obtain ⟨e0, e1⟩ := h.ep i hi
  go_enter Try.func30, Try.ntmps30
  go_wp2_with fail
  refine (chas_yes W g q p s l o h _ (by omega) (by omega)).mono ?_
  rintro e w' ⟨rfl, rfl⟩
  go_wp2_with fail
  go_ret
  exact ⟨rfl, rfl⟩
end Go.Proofs.Ytbcoghfpomnkkaa
