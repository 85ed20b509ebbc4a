/- Merged texts: Chart, Chart2, Chart3, Chart4, Chart5, Chart6, Chart7, Chart8, LawChart, Chart9, RChart, RChart2, RChart3, RChart4, RChart5, RChart6, RChart7, RChart8, LawChart6, LawChart7, RNew. -/
import Derived.Test.YtnhogmheedeeiaaGreatGA
import Derived.Laws.MakeOwn
import Derived.OpenShut
import Derived.Deep.DeepCutAuto
import Derived.Deep.CutBlock
import Derived.Deep.OwnRows
set_option linter.unusedSimpArgs false
set_option linter.unusedVariables false
/- Accounts in memory: what they are, how they are kept. -/
namespace Go.Proofs.YtnhogmheedeeiaaGreat
open Go.RowKit
set_option linter.unusedVariables false
set_option maxRecDepth 20000

/-- The regions' cells: epoch and used, region by region. -/
def flat (l : List (Int × Int)) : List Value := l.flatMap fun x => [.int .u32 x.1, .int .i64 x.2]
theorem flat_cons (x : Int × Int) (l : List (Int × Int)) : flat (x :: l) = .int .u32 x.1 :: .int .i64 x.2 :: flat l := rfl
theorem flat_len (l : List (Int × Int)) : (flat l).length = 2 * l.length := by
  induction l with
  | nil => rfl
  | cons x l ih => rw [flat_cons]; simp [ih]; omega
theorem flat_get0 (l : List (Int × Int)) : ∀ i : Nat, (flat l)[2 * i]? = (l[i]?).map fun x => .int .u32 x.1 := by
  induction l with
  | nil => intro i; simp [flat]
  | cons x l ih =>
    intro i
    rw [flat_cons]
    cases i with
    | zero => rfl
    | succ i => rw [show 2 * (i + 1) = (2 * i + 1) + 1 by omega]; simp [ih i]
theorem flat_get1 (l : List (Int × Int)) : ∀ i : Nat, (flat l)[2 * i + 1]? = (l[i]?).map fun x => .int .i64 x.2 := by
  induction l with
  | nil => intro i; simp [flat]
  | cons x l ih =>
    intro i
    rw [flat_cons]
    cases i with
    | zero => rfl
    | succ i => rw [show 2 * (i + 1) + 1 = (2 * i + 1) + 1 + 1 by omega]; simp [ih i]
theorem flat_set (l : List (Int × Int)) : ∀ (i : Nat) (a b : Int), ((flat l).set (2 * i) (.int .u32 a)).set (2 * i + 1) (.int .i64 b) = flat (l.set i (a, b)) := by
  induction l with
  | nil => intro i a b; simp [flat]
  | cons x l ih =>
    intro i a b
    cases i with
    | zero => rfl
    | succ i =>
      rw [flat_cons, show 2 * (i + 1) + 1 = (2 * i + 1) + 1 + 1 by omega, show 2 * (i + 1) = (2 * i) + 1 + 1 by omega]
      simp [ih i a b, flat_cons]
theorem flat_set1 (l : List (Int × Int)) : ∀ (i : Nat) (b : Int), i < l.length → (flat l).set (2 * i + 1) (.int .i64 b) = flat (l.set i ((l.getD i (0, 0)).1, b)) := by
  induction l with
  | nil => intro i b h; simp at h
  | cons x l ih =>
    intro i b h
    cases i with
    | zero => rfl
    | succ i =>
      rw [flat_cons, show 2 * (i + 1) + 1 = (2 * i + 1) + 1 + 1 by omega]
      simp [ih i b (by simpa using h), flat_cons]
theorem flat_zero (n : Nat) : madeCells #[.int .u32 0, .int .i64 0] (n * 2) = (flat (List.replicate n (0, 0))).toArray := by
  apply Array.ext_getElem?
  intro i
  rw [show (flat (List.replicate n (0, 0))).toArray[i]? = (flat (List.replicate n (0, 0)))[i]? from by simp]
  obtain ⟨j, hj | hj⟩ : ∃ j, i = 2 * j ∨ i = 2 * j + 1 := ⟨i / 2, by omega⟩
  · subst hj
    rw [flat_get0]
    by_cases h : j < n
    · simp [madeCells, h, show 2 * j < n * 2 by omega]
    · simp [madeCells, h, show ¬ 2 * j < n * 2 by omega]
  · subst hj
    rw [flat_get1]
    by_cases h : j < n
    · simp [madeCells, h, show 2 * j + 1 < n * 2 by omega, show (2 * j + 1) % 2 = 1 by omega]
    · simp [madeCells, h, show ¬ 2 * j + 1 < n * 2 by omega]

/-- An account in memory: its struct is block g, its regions are block q. -/
structure ChAt (W : World) (g q : Nat) (p s : Int) (l : List (Int × Int)) (o : Int) : Prop where
  box : Bk W g 95 [.int .i64 p, .int .i64 s, .int .i64 (l.length : Nat), .slice (some ⟨q, 0, none⟩) l.length l.length, .int .i64 o]
  row : Bk W q 97 (flat l)
  ne : g ≠ q
theorem ChAt.keep {W W' : World} {g q : Nat} {p s : Int} {l : List (Int × Int)} {o : Int} (h : ChAt W g q p s l o) (k : Kp W W') : ChAt W' g q p s l o := ⟨h.box.keep k, h.row.keep k, h.ne⟩
theorem ChAt.c5 {W : World} {g q : Nat} {p s : Int} {l : List (Int × Int)} {o : Int} (h : ChAt W g q p s l o) :
    W.cell? ⟨g, 0, none⟩ = some (.int .i64 p) ∧ W.cell? ⟨g, 1, none⟩ = some (.int .i64 s) ∧ W.cell? ⟨g, 2, none⟩ = some (.int .i64 (l.length : Nat)) ∧ W.cell? ⟨g, 3, none⟩ = some (.slice (some ⟨q, 0, none⟩) l.length l.length) ∧ W.cell? ⟨g, 4, none⟩ = some (.int .i64 o) :=
  ⟨h.box.cell 0, h.box.cell 1, h.box.cell 2, h.box.cell 3, h.box.cell 4⟩
theorem ChAt.ep {W : World} {g q : Nat} {p s : Int} {l : List (Int × Int)} {o : Int} (h : ChAt W g q p s l o) (i : Nat) (hi : i < l.length) :
    W.cell? ⟨q, i * 2, none⟩ = some (.int .u32 l[i].1) ∧ W.cell? ⟨q, i * 2 + 1, none⟩ = some (.int .i64 l[i].2) := by
  rw [h.row.cell, h.row.cell, Nat.mul_comm, flat_get0, flat_get1, List.getElem?_eq_getElem hi]; exact ⟨rfl, rfl⟩
theorem ChAt.fr {W : World} {g q : Nat} {p s : Int} {l : List (Int × Int)} {o : Int} (h : ChAt W g q p s l o) (i : Nat) :
    W.frozen? ⟨q, i * 2, none⟩ = false ∧ W.frozen? ⟨q, i * 2 + 1, none⟩ = false := ⟨h.row.free _, h.row.free _⟩
/-- A region's state is another. -/
theorem ChAt.put {W : World} {g q : Nat} {p s : Int} {l : List (Int × Int)} {o : Int} (h : ChAt W g q p s l o) (i : Nat) (a b : Int) :
    ChAt ((W.setCell ⟨q, i * 2, none⟩ (.int .u32 a)).setCell ⟨q, i * 2 + 1, none⟩ (.int .i64 b)) g q p s (l.set i (a, b)) o := by
  refine ⟨?_, ?_, h.ne⟩
  · rw [List.length_set]; exact (h.box.far h.ne _).far h.ne _
  · have := (h.row.put (i * 2) (.int .u32 a)).put (i * 2 + 1) (.int .i64 b)
    rwa [Nat.mul_comm, flat_set, Nat.mul_comm 2] at this
theorem ChAt.put1 {W : World} {g q : Nat} {p s : Int} {l : List (Int × Int)} {o : Int} (h : ChAt W g q p s l o) (i : Nat) (hi : i < l.length) (b : Int) :
    ChAt (W.setCell ⟨q, i * 2 + 1, none⟩ (.int .i64 b)) g q p s (l.set i (l[i].1, b)) o := by
  refine ⟨?_, ?_, h.ne⟩
  · rw [List.length_set]; exact (h.box.far h.ne _)
  · have := h.row.put (i * 2 + 1) (.int .i64 b)
    rw [Nat.mul_comm, flat_set1 _ _ _ hi] at this
    rw [Nat.mul_comm]
    simpa [hi] using this
theorem ChAt.opn {W : World} {g q : Nat} {p s : Int} {l : List (Int × Int)} {o : Int} (h : ChAt W g q p s l o) (k : Int) :
    ChAt (W.setCell ⟨g, 4, none⟩ (.int .i64 k)) g q p s l k :=
  ⟨h.box.put 4 _, h.row.far (Ne.symm h.ne) _, h.ne⟩

theorem info_state : (Tryz.prog.info? 97).map (fun i => (i.zero, i.size, i.bytes)) = some (some (.agg #[.int .u32 0, .int .i64 0]), 2, 16) := by kernel_rfl
theorem make_states (n : Nat) (hn : n ≤ 100) (W : World) : (Instr.makeSlice 93 (.int .i64 (n : Int)) (.int .i64 (n : Int))).run Tryz.prog W =
    .ok (.slice (some ⟨W.heap.size, 0, none⟩) n n) (W.alloc (.cells (flat (List.replicate n (0, 0))).toArray 97)) := by
  obtain ⟨i, hi, hzz⟩ := Option.map_eq_some_iff.1 info_state
  simp only [Prod.mk.injEq] at hzz
  obtain ⟨hz, hs, hb⟩ := hzz
  have := run_make (P := Tryz.prog) W 93 97 i _ Tryz.underlying93 hi hz .i64 .i64 n n (by omega) (Int.le_refl _) (by rw [hb]; omega) (by omega)
  rw [this, hs]
  simp only [Int.toNat_natCast]
  rw [← flat_zero]
  rfl

set_option maxHeartbeats 400000 in
theorem chas_yes (W : World) (g q : Nat) (p s : Int) (l : List (Int × Int)) (o : Int) (h : ChAt W g q p s l o) (i : Int) (h0 : 0 ≤ i) (hi : i < (l.length : Int)) :
    Calls Tryz.prog 72 #[.pointer (some ⟨g, 0, none⟩), .int .i64 i] W fun e w' => e = .returned (.bool true) ∧ W = w' := by
  obtain ⟨c0, c1, c2, c3, c4⟩ := h.c5
  have d1 : decide (i < (l.length : Int)) = true := by simpa using hi
  go_enter Tryz.func72, Tryz.ntmps72
  go_wp2
  go_ret
  exact ⟨rfl, rfl⟩
set_option maxHeartbeats 400000 in
theorem chas_no (W : World) (g q : Nat) (p s : Int) (l : List (Int × Int)) (o : Int) (h : ChAt W g q p s l o) (i : Int) (hi : i < 0 ∨ (l.length : Int) ≤ i) :
    Calls Tryz.prog 72 #[.pointer (some ⟨g, 0, none⟩), .int .i64 i] W fun e w' => e = .returned (.bool false) ∧ W = w' := by
  obtain ⟨c0, c1, c2, c3, c4⟩ := h.c5
  have hi' : i < 0 ∨ (0 ≤ i ∧ (l.length : Int) ≤ i) := by omega
  rcases hi' with h1 | ⟨h1, h2⟩
  · go_enter Tryz.func72, Tryz.ntmps72
    go_wp2
    go_ret
    exact ⟨rfl, rfl⟩
  · have d1 : decide (i < (l.length : Int)) = false := by simp; omega
    go_enter Tryz.func72, Tryz.ntmps72
    go_wp2
    go_ret
    exact ⟨rfl, rfl⟩
set_option maxHeartbeats 400000 in
theorem cepoch_in (W : World) (g q : Nat) (p s : Int) (l : List (Int × Int)) (o : Int) (h : ChAt W g q p s l o) (hl : l.length ≤ 100) (i : Nat) (hi : i < l.length) :
    Calls Tryz.prog 37 #[.pointer (some ⟨g, 0, none⟩), .int .i64 i] W fun e w' => e = .returned (.int .u32 l[i].1) ∧ W = w' := by
  obtain ⟨c0, c1, c2, c3, c4⟩ := h.c5
  obtain ⟨e0, e1⟩ := h.ep i hi
  go_enter Tryz.func37, Tryz.ntmps37
  go_wp2_with fail
  refine (chas_yes W g q p s l o h _ (by omega) (by omega)).mono ?_
  rintro e w' ⟨rfl, rfl⟩
  go_wp2_with fail
  go_ret
  exact ⟨rfl, rfl⟩
end Go.Proofs.YtnhogmheedeeiaaGreat
/- The contracts of package chart: what reads. -/
namespace Go.Proofs.YtnhogmheedeeiaaGreat
open Go.RowKit
set_option linter.unusedVariables false
set_option maxRecDepth 20000

/-- The epoch of a region, the used slots. -/
def epo (l : List (Int × Int)) (k : Nat) : Int := (l.getD k (0, 0)).1
def uso (l : List (Int × Int)) (k : Nat) : Int := (l.getD k (0, 0)).2
theorem ep_in (l : List (Int × Int)) (k : Nat) (h : k < l.length) : l[k].1 = epo l k := by unfold epo; simp [h]
theorem us_in (l : List (Int × Int)) (k : Nat) (h : k < l.length) : l[k].2 = uso l k := by unfold uso; simp [h]
theorem ChAt.eu {W : World} {g q : Nat} {p s : Int} {l : List (Int × Int)} {o : Int} (h : ChAt W g q p s l o) (i : Nat) (hi : i < l.length) :
    W.cell? ⟨q, i * 2, none⟩ = some (.int .u32 (epo l i)) ∧ W.cell? ⟨q, i * 2 + 1, none⟩ = some (.int .i64 (uso l i)) := by
  have := h.ep i hi
  rwa [ep_in, us_in] at this
/-- What holds of every account. -/
structure ChOk (p s : Int) (l : List (Int × Int)) (o : Int) : Prop where
  right : RightG p s (l.length : Nat)
  ep0 : ∀ k, 0 ≤ epo l k
  ep1 : ∀ k, epo l k ≤ 2147483647
  us0 : ∀ k, 0 ≤ uso l k
  us1 : ∀ k, uso l k ≤ s - 1
  op : o = -1 ∨ ∃ k : Nat, k < l.length ∧ o = k ∧ 0 < epo l k
theorem ChOk.len {p s : Int} {l : List (Int × Int)} {o : Int} (h : ChOk p s l o) : 4 ≤ l.length ∧ l.length ≤ 12 := by
  obtain ⟨h1, h2, h3, h4, h5, h6⟩ := h.right; omega

def frees (l : List (Int × Int)) : Nat → Nat
  | 0 => 0
  | k + 1 => frees l k + if epo l k = 0 then 1 else 0
theorem frees_le (l : List (Int × Int)) : ∀ k, frees l k ≤ k
  | 0 => Nat.le_refl _
  | k + 1 => by have := frees_le l k; unfold frees; split <;> omega
def nwst (l : List (Int × Int)) : Nat → Int × Int
  | 0 => (-1, 0)
  | k + 1 => if (nwst l k).2 < epo l k then (k, epo l k) else nwst l k
theorem nwst_top (l : List (Int × Int)) : ∀ k, 0 ≤ (nwst l k).2
  | 0 => Int.le_refl _
  | k + 1 => by have := nwst_top l k; unfold nwst; split <;> simp <;> omega

set_option maxHeartbeats 800000 in
theorem cfree_any (W : World) (g q : Nat) (p s : Int) (l : List (Int × Int)) (o : Int) (h : ChAt W g q p s l o) (hl : l.length ≤ 100) (hr : ∀ k, 0 ≤ epo l k) :
    Calls Tryz.prog 24 #[.pointer (some ⟨g, 0, none⟩)] W fun e w' => e = .returned (.int .i64 (frees l l.length : Nat)) ∧ Kp W w' := by
  obtain ⟨c0, c1, c2, c3, c4⟩ := h.c5
  go_enter Tryz.func24, Tryz.ntmps24
  go_wp2_with fail
  go_loopw [3, 13] (fun n i wr => ∃ k : Nat, k ≤ l.length ∧ i = .int .i64 k ∧ n = .int .i64 (frees l k : Nat) ∧ Kp W wr) (fun _ i _ => l.length - (intOf i).toNat)
  case atStart => exact ⟨0, by omega, rfl, rfl, Kp.refl W⟩
  case round =>
    obtain ⟨k, hk, rfl, rfl, hKr⟩ := hrel
    have hf := frees_le l k
    clear c0 c1 c2 c3 c4
    by_cases hlt : k < l.length
    · obtain ⟨e0, e1⟩ := (h.keep hKr).eu k hlt
      by_cases hz : epo l k = 0
      · have hs : frees l (k + 1) = frees l k + 1 := by rw [frees, if_pos hz]
        have HS := Lib.hid hs
        rw [hz] at e0
        clear hs hz
        go_wp2_with fail
        go_roundw
        case rel => exact ⟨k + 1, by omega, by go_num, by rw [HS.out]; go_num, hKr.alloc _⟩
        case measure => simp [intOf]; omega
      · have hs : frees l (k + 1) = frees l k := by rw [frees, if_neg hz]; rfl
        have HS := Lib.hid hs
        have hb : (epo l k == 0) = false := by simpa using hz
        clear hs hz
        go_wp2_with fail
        go_roundw
        case rel => exact ⟨k + 1, by omega, by go_num, by rw [HS.out], hKr.alloc _⟩
        case measure => simp [intOf]; omega
    · obtain rfl : k = l.length := by omega
      go_wp2_with fail
      go_ret
      exact ⟨rfl, hKr⟩

set_option maxHeartbeats 800000 in
theorem cnewest_any (W : World) (g q : Nat) (p s : Int) (l : List (Int × Int)) (o : Int) (h : ChAt W g q p s l o) (hl : l.length ≤ 100) (hr : ∀ k, 0 ≤ epo l k) :
    Calls Tryz.prog 91 #[.pointer (some ⟨g, 0, none⟩)] W fun e w' => e = .returned (.tuple #[.int .i64 (nwst l l.length).1, .int .u32 (nwst l l.length).2]) ∧ Kp W w' := by
  obtain ⟨c0, c1, c2, c3, c4⟩ := h.c5
  go_enter Tryz.func91, Tryz.ntmps91
  go_wp2_with fail
  go_loopw [4, 5, 13] (fun a t i wr => ∃ k : Nat, k ≤ l.length ∧ i = .int .i64 k ∧ a = .int .i64 (nwst l k).1 ∧ t = .int .u32 (nwst l k).2 ∧ Kp W wr) (fun _ _ i _ => l.length - (intOf i).toNat)
  case atStart => exact ⟨0, by omega, rfl, rfl, rfl, Kp.refl W⟩
  case round =>
    obtain ⟨k, hk, rfl, rfl, rfl, hKr⟩ := hrel
    clear c0 c1 c2 c3 c4
    have ht := nwst_top l k
    by_cases hlt : k < l.length
    · obtain ⟨e0, e1⟩ := (h.keep hKr).eu k hlt
      have hs : nwst l (k + 1) = if (nwst l k).2 < epo l k then ((k : Int), epo l k) else nwst l k := rfl
      have HS := Lib.hid hs
      clear hs
      generalize nwst l k = z at *
      by_cases hz : z.2 < epo l k
      · go_wp2_with fail
        go_region
        go_wp2_with fail
        go_roundw
        case rel => exact ⟨k + 1, by omega, by go_num, by rw [HS.out, if_pos hz], by rw [HS.out, if_pos hz], by (repeat (first | with_reducible exact Kp.refl _ | with_reducible assumption | with_reducible refine Kp.alloc ?_ _ | with_reducible refine Kp.drew ?_ | with_reducible refine Kp.drewN ?_ _ | exact Kp.refl _ | assumption | refine Kp.alloc ?_ _ | refine Kp.drew ?_ | refine Kp.drewN ?_ _ | refine Kp.trans ?_ (by assumption)))⟩
        case measure => simp [intOf]; omega
      · go_wp2_with fail
        go_roundw
        case rel => exact ⟨k + 1, by omega, by go_num, by rw [HS.out, if_neg hz], by rw [HS.out, if_neg hz], hKr.alloc _⟩
        case measure => simp [intOf]; omega
    · obtain rfl : k = l.length := by omega
      go_wp2_with fail
      go_ret2
      exact ⟨rfl, hKr⟩
end Go.Proofs.YtnhogmheedeeiaaGreat
/- The contracts of package chart: what is open, what is left. -/
namespace Go.Proofs.YtnhogmheedeeiaaGreat
open Go.RowKit
set_option linter.unusedVariables false
set_option maxRecDepth 20000

set_option maxHeartbeats 800000 in
theorem copened_no (W0 : World) (g q : Nat) (p s : Int) (l : List (Int × Int)) (h : ChAt W0 g q p s l (-1)) :
    Calls Tryz.prog 54 #[.pointer (some ⟨g, 0, none⟩)] W0 fun e w' => e = .returned (.bool false) ∧ Kp W0 w' := by
  have HC := Lib.hid (fun W (k : Kp W0 W) => (h.keep k).c5)
  go_enter Tryz.func54, Tryz.ntmps54
  go_wp2_with fail
  have hInh := fun (x v : Value) => (⟨fun h => h _ ((Kp.refl W0).drew), fun h _ _ => h⟩ : (∀ Wz9, (fun W => Kp W0 W) Wz9 → x = v) ↔ x = v)
  dsimp only at hInh
  refine wp_region_quietC (C := fun W => Kp W0 W) (by kernel_rfl) (by kernel_rfl) ((Kp.refl W0).drew) ?_
  repeat (first | go_big_quiet_step ((intro hW; first | (go_at_call 72; refine (chas_no _ g q p s l _ (h.keep hW) _ (by omega)).mono ?_; rintro e w' ⟨rfl, rfl⟩; exact ⟨rfl, hW⟩) | (with_reducible rfl) | (obtain ⟨c0, c1, c2, c3, c4⟩ := HC.out _ hW; (try go_simp); first | done | with_reducible rfl | exact ⟨rfl, rfl⟩))) | quiet_step ((intro hW; first | (go_at_call 72; refine (chas_no _ g q p s l _ (h.keep hW) _ (by omega)).mono ?_; rintro e w' ⟨rfl, rfl⟩; exact ⟨rfl, hW⟩) | (with_reducible rfl) | (obtain ⟨c0, c1, c2, c3, c4⟩ := HC.out _ hW; (try go_simp); first | done | with_reducible rfl | exact ⟨rfl, rfl⟩))))
  refine wpQuiet_nil ?_
  intro wq hwq
  clear hInh
  go_wp2_with fail
  go_ret
  exact ⟨rfl, hwq⟩
set_option maxHeartbeats 800000 in
theorem copened_yes (W0 : World) (g q : Nat) (p s : Int) (l : List (Int × Int)) (k : Nat) (h : ChAt W0 g q p s l k) (hl : l.length ≤ 100) (hk : k < l.length) (he : 0 < epo l k) :
    Calls Tryz.prog 54 #[.pointer (some ⟨g, 0, none⟩)] W0 fun e w' => e = .returned (.bool true) ∧ Kp W0 w' := by
  have HC := Lib.hid (fun W (k : Kp W0 W) => (h.keep k).c5)
  have HE := Lib.hid (fun W (k9 : Kp W0 W) => (h.keep k9).eu k hk)
  have d1 : decide (0 < epo l k) = true := by simpa using he
  have hk2 : (k : Int) < (l.length : Int) := by omega
  go_enter Tryz.func54, Tryz.ntmps54
  go_wp2_with fail
  have hInh := fun (x v : Value) => (⟨fun h => h _ ((Kp.refl W0).drew), fun h _ _ => h⟩ : (∀ Wz9, (fun W => Kp W0 W) Wz9 → x = v) ↔ x = v)
  dsimp only at hInh
  refine wp_region_quietC (C := fun W => Kp W0 W) (by kernel_rfl) (by kernel_rfl) ((Kp.refl W0).drew) ?_
  repeat (first | go_big_quiet_step ((intro hW; first | (go_at_call 72; refine (chas_yes _ g q p s l _ (h.keep hW) _ (by omega) (by omega)).mono ?_; rintro e w' ⟨rfl, rfl⟩; exact ⟨rfl, hW⟩) | (with_reducible rfl) | (obtain ⟨c0, c1, c2, c3, c4⟩ := HC.out _ hW; obtain ⟨e0, e1⟩ := HE.out _ hW; (try go_simp); first | done | with_reducible rfl | exact ⟨rfl, rfl⟩))) | quiet_step ((intro hW; first | (go_at_call 72; refine (chas_yes _ g q p s l _ (h.keep hW) _ (by omega) (by omega)).mono ?_; rintro e w' ⟨rfl, rfl⟩; exact ⟨rfl, hW⟩) | (with_reducible rfl) | (obtain ⟨c0, c1, c2, c3, c4⟩ := HC.out _ hW; obtain ⟨e0, e1⟩ := HE.out _ hW; (try go_simp); first | done | with_reducible rfl | exact ⟨rfl, rfl⟩))))
  refine wpQuiet_nil ?_
  intro wq hwq
  clear hInh
  go_wp2_with fail
  go_ret
  exact ⟨rfl, hwq⟩
end Go.Proofs.YtnhogmheedeeiaaGreat
/- The contracts of package chart: Left, Avail, Take, Erase, Set, New and the small ones. -/
namespace Go.Proofs.YtnhogmheedeeiaaGreat
open Go.RowKit
set_option linter.unusedVariables false
set_option maxRecDepth 20000

def leftF (s : Int) (l : List (Int × Int)) (o : Int) : Int := if o < 0 then 0 else s - 1 - uso l o.toNat
theorem slotsK (p s r : Int) (h : RightG p s r) (w : World) :
    Calls Tryz.prog 55 #[geo p s r] w fun e w' => e = .returned (.int .i64 (s - 1)) ∧ Kp w w' :=
  (slots_yes p s r h w).mono fun _ _ ⟨he, hw⟩ => ⟨he, hw ▸ ((Kp.one _ _).alloc _)⟩
set_option maxHeartbeats 800000 in
theorem cleft_any (W0 : World) (g q : Nat) (p s : Int) (l : List (Int × Int)) (o : Int) (h : ChAt W0 g q p s l o) (ok : ChOk p s l o) :
    Calls Tryz.prog 22 #[.pointer (some ⟨g, 0, none⟩)] W0 fun e w' => e = .returned (.int .i64 (leftF s l o)) ∧ Kp W0 w' := by
  have hlen := ok.len
  rcases ok.op with rfl | ⟨k, hk, rfl, he⟩
  · have H1 := Lib.hid (copened_no W0 g q p s l h)
    go_enter Tryz.func22, Tryz.ntmps22
    go_wp2_with fail
    refine (H1.out).mono ?_
    rintro e w1 ⟨rfl, hk1⟩
    go_wp2_with fail
    go_ret
    exact ⟨rfl, hk1⟩
  · have H1 := Lib.hid (copened_yes W0 g q p s l k h (by omega) hk he)
    have hl : leftF s l (k : Int) = s - 1 - uso l k := by unfold leftF; rw [if_neg (by omega)]; simp
    rw [hl]
    have hR := ok.right
    have u0 := ok.us0 k
    have u1 := ok.us1 k
    obtain ⟨r1, r2, r3, r4, r5, r6⟩ := id ok.right
    have hk2 : (k : Int) < (l.length : Int) := by omega
    have hwr : IntKind.i64.wrap (s - 1 - uso l k) = s - 1 - uso l k := IntWalk.i64_in _ (by omega)
    go_enter Tryz.func22, Tryz.ntmps22
    go_wp2_with fail
    refine (H1.out).mono ?_
    rintro e w1 ⟨rfl, hk1⟩
    have HC := Lib.hid (fun W (k : Kp w1 W) => ((h.keep hk1).keep k).c5)
    have HE := Lib.hid (fun W (k9 : Kp w1 W) => ((h.keep hk1).keep k9).eu k hk)
    go_wp2_with fail
    have hInh := fun (x v : Value) => (⟨fun h => h _ ((Kp.refl w1).drew), fun h _ _ => h⟩ : (∀ Wz9, (fun W => Kp w1 W) Wz9 → x = v) ↔ x = v)
    dsimp only at hInh
    refine wp_region_quietC (C := fun W => Kp w1 W) (by kernel_rfl) (by kernel_rfl) ((Kp.refl w1).drew) ?_
    repeat (first | go_big_quiet_step ((intro hW; first | (go_at_call 55; refine (slotsK p s _ hR _).mono ?_; rintro e w' ⟨rfl, hk9⟩; exact ⟨rfl, hW.trans hk9⟩) | (with_reducible rfl) | (obtain ⟨c0, c1, c2, c3, c4⟩ := HC.out _ hW; obtain ⟨e0, e1⟩ := HE.out _ hW; (try go_simp); first | done | with_reducible rfl | exact ⟨rfl, rfl⟩))) | quiet_step ((intro hW; first | (go_at_call 55; refine (slotsK p s _ hR _).mono ?_; rintro e w' ⟨rfl, hk9⟩; exact ⟨rfl, hW.trans hk9⟩) | (with_reducible rfl) | (obtain ⟨c0, c1, c2, c3, c4⟩ := HC.out _ hW; obtain ⟨e0, e1⟩ := HE.out _ hW; (try go_simp); first | done | with_reducible rfl | exact ⟨rfl, rfl⟩))))
    refine wpQuiet_nil ?_
    intro wq hwq
    clear hInh
    go_wp2_with fail
    go_ret
    exact ⟨rfl, hk1.trans hwq⟩
/-- What may be taken. -/
def availF (s : Int) (l : List (Int × Int)) (o : Int) : Int := leftF s l o + (s - 1) * (if (frees l l.length : Int) - 2 < 0 then 0 else (frees l l.length : Int) - 2)
theorem leftF_bd {p s : Int} {l : List (Int × Int)} {o : Int} (ok : ChOk p s l o) : 0 ≤ leftF s l o ∧ leftF s l o ≤ 9 := by
  obtain ⟨r1, r2, r3, r4, r5, r6⟩ := ok.right
  have := ok.us0 o.toNat
  have := ok.us1 o.toNat
  unfold leftF; split <;> omega
end Go.Proofs.YtnhogmheedeeiaaGreat
/- The contracts of package chart: Take, Erase, Set, New and the small ones. -/
namespace Go.Proofs.YtnhogmheedeeiaaGreat
open Go.RowKit
set_option linter.unusedVariables false
set_option maxRecDepth 20000

theorem pageK (p s r a b : Int) (h : RightG p s r) (ha : 0 ≤ a) (ha2 : a < r) (hb : 0 ≤ b) (hb2 : b < s) (w : World) :
    Calls Tryz.prog 77 #[geo p s r, .int .i64 a, .int .i64 b] w fun e w' => e = .returned (.tuple #[.int .i64 (a * s + b), .bool true]) ∧ Kp w w' := page_yes p s r a b h ha ha2 hb hb2 w
set_option maxHeartbeats 800000 in
theorem ctake_no (W0 : World) (g q : Nat) (p s : Int) (l : List (Int × Int)) (o : Int) (h : ChAt W0 g q p s l o) (ok : ChOk p s l o) (hz : leftF s l o ≤ 0) :
    Calls Tryz.prog 48 #[.pointer (some ⟨g, 0, none⟩)] W0 fun e w' => e = .returned (.tuple #[.int .i64 0, .bool false]) ∧ Kp W0 w' := by
  have H1 := Lib.hid (cleft_any W0 g q p s l o h ok)
  generalize leftF s l o = lf at *
  go_enter Tryz.func48, Tryz.ntmps48
  go_wp2_with fail
  refine (H1.out).mono ?_
  rintro e w1 ⟨rfl, hk1⟩
  go_wp2_with fail
  go_ret2
  exact ⟨rfl, hk1⟩
set_option maxHeartbeats 1600000 in
theorem ctake_yes (W0 : World) (g q : Nat) (p s : Int) (l : List (Int × Int)) (k : Nat) (h : ChAt W0 g q p s l k) (ok : ChOk p s l k) (hk : k < l.length) (hz : uso l k < s - 1) :
    Calls Tryz.prog 48 #[.pointer (some ⟨g, 0, none⟩)] W0 fun e w' => e = .returned (.tuple #[.int .i64 ((k : Int) * s + (uso l k + 1)), .bool true]) ∧ ChAt w' g q p s (l.set k (epo l k, uso l k + 1)) k ∧ Mv [g, q] W0 w' := by
  have H1 := Lib.hid (cleft_any W0 g q p s l k h ok)
  have hl : leftF s l (k : Int) = s - 1 - uso l k := by unfold leftF; rw [if_neg (by omega)]; simp
  rw [hl] at H1
  clear hl
  have hR := ok.right
  have hlen := ok.len
  have u0 := ok.us0 k
  obtain ⟨r1, r2, r3, r4, r5, r6⟩ := id ok.right
  have hk2 : (k : Int) < (l.length : Int) := by omega
  go_enter Tryz.func48, Tryz.ntmps48
  go_wp2_with fail
  refine (H1.out).mono ?_
  rintro e w1 ⟨rfl, hk1⟩
  have h1 := h.keep hk1
  have HC := Lib.hid (fun W (k : Kp w1 W) => (h1.keep k).c5)
  go_wp2_with fail
  have hInh := fun (x v : Value) => (⟨fun h => h _ ((Kp.refl w1).drew), fun h _ _ => h⟩ : (∀ Wz9, (fun W => Kp w1 W) Wz9 → x = v) ↔ x = v)
  dsimp only at hInh
  refine wp_region_quietC (C := fun W => Kp w1 W) (by kernel_rfl) (by kernel_rfl) ((Kp.refl w1).drew) ?_
  repeat (first | go_big_quiet_step ((intro hW; first | fail | (with_reducible rfl) | (obtain ⟨c0, c1, c2, c3, c4⟩ := HC.out _ hW; (try go_simp); first | done | with_reducible rfl | exact ⟨rfl, rfl⟩))) | quiet_step ((intro hW; first | fail | (with_reducible rfl) | (obtain ⟨c0, c1, c2, c3, c4⟩ := HC.out _ hW; (try go_simp); first | done | with_reducible rfl | exact ⟨rfl, rfl⟩))))
  refine wpQuiet_nil ?_
  intro wq hwq
  clear hInh
  have h2 := h1.keep hwq
  obtain ⟨e0, e1⟩ := h2.eu k hk
  have f1 := (h2.fr k).2
  go_wp2_with fail
  have h3 := h2.put1 k hk (uso l k + 1)
  rw [ep_in l k hk] at h3
  have hm3 : Mv [g, q] W0 (wq.setCell ⟨q, k * 2 + 1, none⟩ (.int .i64 (uso l k + 1))) := (Mv.of (hk1.trans hwq)).set (by simp) _
  have hk3 : k < (l.set k (epo l k, uso l k + 1)).length := by simpa using hk
  have hl3 : (l.set k (epo l k, uso l k + 1)).length = l.length := List.length_set
  have hu3 : uso (l.set k (epo l k, uso l k + 1)) k = uso l k + 1 := by unfold uso; simp [hk]
  generalize wq.setCell ⟨q, k * 2 + 1, none⟩ (.int .i64 (uso l k + 1)) = w3 at *
  have HC3 := Lib.hid (fun W (k : Kp w3 W) => (h3.keep k).c5)
  have HE3 := Lib.hid (fun W (k9 : Kp w3 W) => (h3.keep k9).eu k hk3)
  rw [hl3] at HC3
  rw [hu3] at HE3
  clear e0 e1 f1 hl3 hu3
  have hInh := fun (x v : Value) => (⟨fun h => h _ ((Kp.refl w3).drew), fun h _ _ => h⟩ : (∀ Wz9, (fun W => Kp w3 W) Wz9 → x = v) ↔ x = v)
  dsimp only at hInh
  refine wp_region_quietC (C := fun W => Kp w3 W) (by kernel_rfl) (by kernel_rfl) ((Kp.refl w3).drew) ?_
  repeat (first | go_big_quiet_step ((intro hW; first | (go_at_call 77; refine (pageK p s _ _ _ hR (by omega) (by omega) (by omega) (by omega) _).mono ?_; rintro e w' ⟨rfl, hk9⟩; exact ⟨rfl, hW.trans hk9⟩) | (with_reducible rfl) | (obtain ⟨c0, c1, c2, c3, c4⟩ := HC3.out _ hW; obtain ⟨e0, e1⟩ := HE3.out _ hW; (try go_simp); first | done | with_reducible rfl | exact ⟨rfl, rfl⟩))) | quiet_step ((intro hW; first | (go_at_call 77; refine (pageK p s _ _ _ hR (by omega) (by omega) (by omega) (by omega) _).mono ?_; rintro e w' ⟨rfl, hk9⟩; exact ⟨rfl, hW.trans hk9⟩) | (with_reducible rfl) | (obtain ⟨c0, c1, c2, c3, c4⟩ := HC3.out _ hW; obtain ⟨e0, e1⟩ := HE3.out _ hW; (try go_simp); first | done | with_reducible rfl | exact ⟨rfl, rfl⟩))))
  refine wpQuiet_nil ?_
  intro wq hwq
  clear hInh
  go_wp2_with fail
  go_ret2
  exact ⟨rfl, h3.keep hwq, hm3.trans (Mv.of hwq)⟩

set_option maxHeartbeats 800000 in
theorem cerase_arg (W0 : World) (g q : Nat) (p s : Int) (l : List (Int × Int)) (o : Int) (h : ChAt W0 g q p s l o) (i : Int) (hi : i < 0 ∨ (l.length : Int) ≤ i) :
    Calls Tryz.prog 39 #[.pointer (some ⟨g, 0, none⟩), .int .i64 i] W0 fun e w' => e = .returned (.int .i64 1) ∧ Kp W0 w' := by
  go_enter Tryz.func39, Tryz.ntmps39
  go_wp2_with fail
  refine (chas_no W0 g q p s l o h i hi).mono ?_
  rintro e w1 ⟨rfl, rfl⟩
  go_wp2_with fail
  go_ret
  exact ⟨rfl, Kp.refl _⟩
set_option maxHeartbeats 800000 in
theorem cerase_state (W0 : World) (g q : Nat) (p s : Int) (l : List (Int × Int)) (o : Int) (h : ChAt W0 g q p s l o) (hl : l.length ≤ 100) (k : Nat) (hk : k < l.length) (hz : epo l k = 0 ∨ (epo l k ≠ 0 ∧ o = k)) :
    Calls Tryz.prog 39 #[.pointer (some ⟨g, 0, none⟩), .int .i64 k] W0 fun e w' => e = .returned (.int .i64 7) ∧ Kp W0 w' := by
  obtain ⟨c0, c1, c2, c3, c4⟩ := h.c5
  obtain ⟨e0, e1⟩ := h.eu k hk
  have hk2 : (k : Int) < (l.length : Int) := by omega
  rcases hz with hz | ⟨hz, rfl⟩
  · rw [hz] at e0
    clear hz
    go_enter Tryz.func39, Tryz.ntmps39
    go_wp2_with fail
    refine (chas_yes W0 g q p s l o h _ (by omega) (by omega)).mono ?_
    rintro e w1 ⟨rfl, rfl⟩
    go_wp2_with fail
    go_ret
    exact ⟨rfl, Kp.refl _⟩
  · have hb : (epo l k == 0) = false := by simpa using hz
    clear hz
    go_enter Tryz.func39, Tryz.ntmps39
    go_wp2_with fail
    refine (chas_yes W0 g q p s l _ h _ (by omega) (by omega)).mono ?_
    rintro e w1 ⟨rfl, rfl⟩
    go_wp2_with fail
    go_ret
    exact ⟨rfl, Kp.refl _⟩
set_option maxHeartbeats 800000 in
theorem cerase_ok (W0 : World) (g q : Nat) (p s : Int) (l : List (Int × Int)) (o : Int) (h : ChAt W0 g q p s l o) (hl : l.length ≤ 100) (k : Nat) (hk : k < l.length) (hz : epo l k ≠ 0) (ho : o ≠ k) :
    Calls Tryz.prog 39 #[.pointer (some ⟨g, 0, none⟩), .int .i64 k] W0 fun e w' => e = .returned (.int .i64 0) ∧ ChAt w' g q p s (l.set k (0, 0)) o ∧ Mv [g, q] W0 w' := by
  obtain ⟨c0, c1, c2, c3, c4⟩ := h.c5
  obtain ⟨e0, e1⟩ := h.eu k hk
  obtain ⟨f0, f1⟩ := h.fr k
  have hk2 : (k : Int) < (l.length : Int) := by omega
  have hb : (epo l k == 0) = false := by simpa using hz
  have hb2 : (o == (k : Int)) = false := by simpa using ho
  clear hz ho
  go_enter Tryz.func39, Tryz.ntmps39
  go_wp2_with fail
  refine (chas_yes W0 g q p s l _ h _ (by omega) (by omega)).mono ?_
  rintro e w1 ⟨rfl, rfl⟩
  go_wp2_with fail
  go_ret
  exact ⟨rfl, h.put k 0 0, ((Mv.refl W0).set (by simp) _).set (by simp) _⟩

set_option maxHeartbeats 800000 in
theorem cset_arg (W0 : World) (g q : Nat) (p s : Int) (l : List (Int × Int)) (o : Int) (h : ChAt W0 g q p s l o) (hR : RightG p s (l.length : Nat)) (i e u : Int)
    (hi : (i < 0 ∨ (l.length : Int) ≤ i) ∨ (0 ≤ i ∧ i < (l.length : Int) ∧ e < 1) ∨ (0 ≤ i ∧ i < (l.length : Int) ∧ 1 ≤ e ∧ 2147483647 < e) ∨ (0 ≤ i ∧ i < (l.length : Int) ∧ 1 ≤ e ∧ e ≤ 2147483647 ∧ u < 0) ∨ (0 ≤ i ∧ i < (l.length : Int) ∧ 1 ≤ e ∧ e ≤ 2147483647 ∧ 0 ≤ u ∧ s - 1 < u)) :
    Calls Tryz.prog 41 #[.pointer (some ⟨g, 0, none⟩), .int .i64 i, .int .u32 e, .int .i64 u] W0 fun x w' => x = .returned (.int .i64 1) ∧ Kp W0 w' := by
  obtain ⟨c0, c1, c2, c3, c4⟩ := h.c5
  obtain ⟨r1, r2, r3, r4, r5, r6⟩ := id hR
  rcases hi with hi | ⟨i0, i1, h1⟩ | ⟨i0, i1, h1, h2⟩ | ⟨i0, i1, h1, h2, h3⟩ | ⟨i0, i1, h1, h2, h3, h4⟩
  · go_enter Tryz.func41, Tryz.ntmps41
    go_wp2_with fail
    refine (chas_no W0 g q p s l o h i hi).mono ?_
    rintro e w1 ⟨rfl, rfl⟩
    go_wp2_with fail
    go_ret
    exact ⟨rfl, Kp.refl _⟩
  · go_enter Tryz.func41, Tryz.ntmps41
    go_wp2_with fail
    refine (chas_yes W0 g q p s l o h i i0 i1).mono ?_
    rintro e w1 ⟨rfl, rfl⟩
    go_wp2_with fail
    go_ret
    exact ⟨rfl, Kp.refl _⟩
  · go_enter Tryz.func41, Tryz.ntmps41
    go_wp2_with fail
    refine (chas_yes W0 g q p s l o h i i0 i1).mono ?_
    rintro e w1 ⟨rfl, rfl⟩
    go_wp2_with fail
    go_ret
    exact ⟨rfl, Kp.refl _⟩
  · go_enter Tryz.func41, Tryz.ntmps41
    go_wp2_with fail
    refine (chas_yes W0 g q p s l o h i i0 i1).mono ?_
    rintro e w1 ⟨rfl, rfl⟩
    go_wp2_with fail
    go_ret
    exact ⟨rfl, Kp.refl _⟩
  · have hd : decide (s - 1 < u) = true := by simpa using h4
    go_enter Tryz.func41, Tryz.ntmps41
    go_wp2_with fail
    refine (chas_yes W0 g q p s l o h i i0 i1).mono ?_
    rintro e w1 ⟨rfl, rfl⟩
    go_wp2_with fail
    refine (slotsK p s _ hR _).mono ?_
    rintro e w1 ⟨rfl, hk1⟩
    go_wp2_with fail
    go_ret
    exact ⟨rfl, hk1⟩
set_option maxHeartbeats 800000 in
theorem cset_state (W0 : World) (g q : Nat) (p s : Int) (l : List (Int × Int)) (o : Int) (h : ChAt W0 g q p s l o) (hR : RightG p s (l.length : Nat)) (k : Nat) (hk : k < l.length) (e u : Int)
    (h1 : 1 ≤ e) (h2 : e ≤ 2147483647) (h3 : 0 ≤ u) (h4 : u ≤ s - 1) (hz : 0 < epo l k) :
    Calls Tryz.prog 41 #[.pointer (some ⟨g, 0, none⟩), .int .i64 k, .int .u32 e, .int .i64 u] W0 fun x w' => x = .returned (.int .i64 7) ∧ Kp W0 w' := by
  obtain ⟨c0, c1, c2, c3, c4⟩ := h.c5
  obtain ⟨r1, r2, r3, r4, r5, r6⟩ := id hR
  have hd : decide (s - 1 < u) = false := by simpa using h4
  have hk2 : (k : Int) < (l.length : Int) := by omega
  go_enter Tryz.func41, Tryz.ntmps41
  go_wp2_with fail
  refine (chas_yes W0 g q p s l o h _ (by omega) (by omega)).mono ?_
  rintro e w1 ⟨rfl, rfl⟩
  go_wp2_with fail
  refine (slotsK p s _ hR _).mono ?_
  rintro e w1 ⟨rfl, hk1⟩
  clear c0 c1 c2 c3 c4
  obtain ⟨c0, c1, c2, c3, c4⟩ := (h.keep hk1).c5
  obtain ⟨e0, e1⟩ := (h.keep hk1).eu k hk
  go_wp2_with fail
  go_ret
  exact ⟨rfl, hk1⟩
set_option maxHeartbeats 800000 in
theorem cset_ok (W0 : World) (g q : Nat) (p s : Int) (l : List (Int × Int)) (o : Int) (h : ChAt W0 g q p s l o) (hR : RightG p s (l.length : Nat)) (k : Nat) (hk : k < l.length) (e u : Int)
    (h1 : 1 ≤ e) (h2 : e ≤ 2147483647) (h3 : 0 ≤ u) (h4 : u ≤ s - 1) (hz : epo l k = 0) :
    Calls Tryz.prog 41 #[.pointer (some ⟨g, 0, none⟩), .int .i64 k, .int .u32 e, .int .i64 u] W0 fun x w' => x = .returned (.int .i64 0) ∧ ChAt w' g q p s (l.set k (e, u)) o ∧ Mv [g, q] W0 w' := by
  obtain ⟨c0, c1, c2, c3, c4⟩ := h.c5
  obtain ⟨r1, r2, r3, r4, r5, r6⟩ := id hR
  have hd : decide (s - 1 < u) = false := by simpa using h4
  have hk2 : (k : Int) < (l.length : Int) := by omega
  go_enter Tryz.func41, Tryz.ntmps41
  go_wp2_with fail
  refine (chas_yes W0 g q p s l o h _ (by omega) (by omega)).mono ?_
  rintro e' w1 ⟨rfl, rfl⟩
  go_wp2_with fail
  refine (slotsK p s _ hR _).mono ?_
  rintro e' w1 ⟨rfl, hk1⟩
  clear c0 c1 c2 c3 c4
  obtain ⟨c0, c1, c2, c3, c4⟩ := (h.keep hk1).c5
  obtain ⟨e0, e1⟩ := (h.keep hk1).eu k hk
  obtain ⟨f0, f1⟩ := (h.keep hk1).fr k
  rw [hz] at e0
  clear hz
  go_wp2_with fail
  go_ret
  exact ⟨rfl, (h.keep hk1).put k e u, ((Mv.of hk1).set (by simp) _).set (by simp) _⟩
end Go.Proofs.YtnhogmheedeeiaaGreat
/- The contracts of package chart: New, Open, Oldest, Resume, the small ones; of none. -/
namespace Go.Proofs.YtnhogmheedeeiaaGreat
open Go.RowKit
set_option linter.unusedVariables false
set_option maxRecDepth 20000

/-- A new account. -/
def CNewPost (w : World) (p s : Int) (n : Nat) (e : Ending) (w' : World) : Prop :=
  ∃ g q : Nat, e = .returned (.pointer (some ⟨g, 0, none⟩)) ∧ w.heap.size ≤ g ∧ w.heap.size ≤ q ∧ ChAt w' g q p s (List.replicate n (0, 0)) (-1) ∧ Kp w w'
theorem Bk.atc (W : World) (t : TypeId) (cs : List Value) (g : Nat) (h : W.heap.size = g) : Bk (W.alloc (.cells cs.toArray t)) g t cs := by subst h; exact Bk.new W t cs
theorem new_at (p s : Int) (n : Nat) (W : World) (q g : Nat) (hq : q = W.heap.size) (hg : g = W.heap.size + 1) :
    ChAt ((W.alloc (.cells (flat (List.replicate n (0, 0))).toArray 97)).alloc (.cells #[.int .i64 p, .int .i64 s, .int .i64 n, .slice (some ⟨q, 0, none⟩) n n, .int .i64 (-1)] 95)) g q p s (List.replicate n (0, 0)) (-1) := by
  subst hq
  subst hg
  refine ⟨?_, (Bk.new W 97 (flat (List.replicate n (0, 0)))).alloc _, by omega⟩
  rw [List.length_replicate]
  exact Bk.atc _ _ [_, _, _, _, _] _ (World.size_alloc _ _)
set_option maxHeartbeats 800000 in
theorem cnew_yes (p s : Int) (n : Nat) (hR : RightG p s n) (w : World) :
    Calls Tryz.prog 27 #[geo p s n] w (CNewPost w p s n) := by
  obtain ⟨r1, r2, r3, r4, r5, r6⟩ := id hR
  have hmk := make_states n (by omega)
  go_enter Tryz.func27, Tryz.ntmps27
  go_wp2_with fail
  refine (right_yes p s n hR _).mono ?_
  rintro e w1 ⟨rfl, rfl⟩
  go_wp2_with fail
  go_region
  all_goals go_wp2_with fail
  all_goals go_ret
  all_goals exact ⟨w.heap.size + 1 + 1 + 1, w.heap.size + 1 + 1, rfl, by omega, by omega, (new_at p s n _ _ _ (by simp [go_sem]) (by simp [go_sem])).keep (Kp.refl _).drew, by (repeat (first | with_reducible exact Kp.refl _ | with_reducible assumption | with_reducible refine Kp.alloc ?_ _ | with_reducible refine Kp.drew ?_ | with_reducible refine Kp.drewN ?_ _ | exact Kp.refl _ | assumption | refine Kp.alloc ?_ _ | refine Kp.drew ?_ | refine Kp.drewN ?_ _ | refine Kp.trans ?_ (by assumption)))⟩
set_option maxHeartbeats 800000 in
theorem cnew_no (p s r : Int) (hR : ¬ RightG p s r) (w : World) :
    Calls Tryz.prog 27 #[geo p s r] w fun e w' => e = .returned (.pointer none) ∧ Kp w w' := by
  go_enter Tryz.func27, Tryz.ntmps27
  go_wp2_with fail
  refine (right_no p s r hR _).mono ?_
  rintro e w1 ⟨rfl, rfl⟩
  go_wp2_with fail
  go_ret
  exact ⟨rfl, by (repeat (first | with_reducible exact Kp.refl _ | with_reducible assumption | with_reducible refine Kp.alloc ?_ _ | with_reducible refine Kp.drew ?_ | with_reducible refine Kp.drewN ?_ _ | exact Kp.refl _ | assumption | refine Kp.alloc ?_ _ | refine Kp.drew ?_ | refine Kp.drewN ?_ _ | refine Kp.trans ?_ (by assumption)))⟩

set_option maxHeartbeats 800000 in
theorem copen_no (W0 : World) (g q : Nat) (p s : Int) (l : List (Int × Int)) (o : Int) (h : ChAt W0 g q p s l o) (hl : l.length ≤ 100) (hr : ∀ k, 0 ≤ epo l k) (hz : frees l l.length = 0 ∨ (0 < frees l l.length ∧ 2147483647 ≤ (nwst l l.length).2)) :
    Calls Tryz.prog 75 #[.pointer (some ⟨g, 0, none⟩)] W0 fun e w' => e = .returned (.tuple #[.int .i64 0, .int .u32 0, .bool false]) ∧ Kp W0 w' := by
  have HN := Lib.hid (cnewest_any W0 g q p s l o h hl hr)
  have HF := Lib.hid (fun W (k : Kp W0 W) => cfree_any W g q p s l o (h.keep k) hl hr)
  generalize nwst l l.length = z at *
  generalize frees l l.length = f at *
  rcases hz with rfl | ⟨h0, h1⟩
  · go_enter Tryz.func75, Tryz.ntmps75
    go_wp2_with fail
    refine (HN.out).mono ?_
    rintro e w1 ⟨rfl, hk1⟩
    go_wp2_with fail
    refine (HF.out _ hk1).mono ?_
    rintro e w2 ⟨rfl, hk2⟩
    go_wp2_with fail
    go_ret3
    exact ⟨rfl, hk1.trans hk2⟩
  · have hb : ((f : Int) == 0) = false := by simp; omega
    go_enter Tryz.func75, Tryz.ntmps75
    go_wp2_with fail
    refine (HN.out).mono ?_
    rintro e w1 ⟨rfl, hk1⟩
    go_wp2_with fail
    refine (HF.out _ hk1).mono ?_
    rintro e w2 ⟨rfl, hk2⟩
    go_wp2_with fail
    go_ret3
    exact ⟨rfl, hk1.trans hk2⟩

/-- The j-th region behind the newest one. -/
def nth (l : List (Int × Int)) (j : Nat) : Nat := (((nwst l l.length).1 + (j : Int)) % (l.length : Int)).toNat
theorem nwst_at (l : List (Int × Int)) : ∀ k : Nat, -1 ≤ (nwst l k).1 ∧ (nwst l k).1 < (k : Int)
  | 0 => by simp [nwst]
  | k + 1 => by have := nwst_at l k; unfold nwst; split <;> simp <;> omega
set_option maxHeartbeats 1600000 in
theorem copen_yes (W0 : World) (g q : Nat) (p s : Int) (l : List (Int × Int)) (o : Int) (h : ChAt W0 g q p s l o) (hl0 : 0 < l.length) (hl : l.length ≤ 100) (hr : ∀ k, 0 ≤ epo l k) (hf : 0 < frees l l.length) (ht : (nwst l l.length).2 < 2147483647)
    (j : Nat) (hj : 1 ≤ j) (hj2 : j ≤ l.length) (hn : ∀ i, 1 ≤ i → i < j → epo l (nth l i) ≠ 0) (hz : epo l (nth l j) = 0) :
    Calls Tryz.prog 75 #[.pointer (some ⟨g, 0, none⟩)] W0 fun e w' => e = .returned (.tuple #[.int .i64 (nth l j : Nat), .int .u32 ((nwst l l.length).2 + 1), .bool true]) ∧ ChAt w' g q p s (l.set (nth l j) ((nwst l l.length).2 + 1, 0)) (nth l j : Nat) ∧ Mv [g, q] W0 w' := by
  have HN := Lib.hid (cnewest_any W0 g q p s l o h hl hr)
  have HF := Lib.hid (fun W (k : Kp W0 W) => cfree_any W g q p s l o (h.keep k) hl hr)
  have hat := nwst_at l l.length
  have htp := nwst_top l l.length
  have hnth : ∀ i : Nat, 1 ≤ i → ((nwst l l.length).1 + (i : Int)) % (l.length : Int) = (nth l i : Nat) ∧ nth l i < l.length := by
    intro i hi
    have h1 := Int.emod_nonneg ((nwst l l.length).1 + (i : Int)) (show (l.length : Int) ≠ 0 by omega)
    have h2 := Int.emod_lt_of_pos ((nwst l l.length).1 + (i : Int)) (show 0 < (l.length : Int) by omega)
    unfold nth
    omega
  generalize nwst l l.length = z at *
  generalize frees l l.length = f at *
  have hb : ((f : Int) == 0) = false := by simp; omega
  have hd0 : ((l.length : Int) == 0) = false := beq_eq_false_iff_ne.2 (by omega)
  have HT := Lib.hid hnth
  clear hnth
  have HNN := Lib.hid hn
  have HZ := Lib.hid hz
  clear hn hz
  go_enter Tryz.func75, Tryz.ntmps75
  go_wp2_with fail
  refine (HN.out).mono ?_
  rintro e w1 ⟨rfl, hk1⟩
  go_wp2_with fail
  refine (HF.out _ hk1).mono ?_
  rintro e w2 ⟨rfl, hk2⟩
  have h2 := h.keep (hk1.trans hk2)
  have hK2 := hk1.trans hk2
  obtain ⟨c0, c1, c2, c3, c4⟩ := h2.c5
  go_wp2_with fail
  go_loop [8] (fun i => ∃ k : Nat, 1 ≤ k ∧ k ≤ j ∧ i = .int .i64 k) (fun i => j - (intOf i).toNat)
  case atStart => exact ⟨1, by omega, by omega, rfl⟩
  case round =>
    obtain ⟨k, hk1', hk2', rfl⟩ := hrel
    obtain ⟨hm, hml⟩ := HT.out k hk1'
    obtain ⟨e0, e1⟩ := h2.eu (nth l k) hml
    obtain ⟨f0, f1⟩ := h2.fr (nth l k)
    have hml2 : ((nth l k : Nat) : Int) < (l.length : Int) := by omega
    have h0 : 0 ≤ z.1 + (k : Int) := by omega
    have hf4 := h2.box.free 4
    by_cases hkj : k < j
    · have hne := HNN.out k hk1' hkj
      have hb3 : (epo l (nth l k) == 0) = false := by simpa using hne
      clear hne
      generalize nth l k = m at *
      go_wp2_with fail
      go_round
      case rel => exact ⟨k + 1, by omega, by omega, by go_num⟩
      case measure => simp [intOf]; omega
    · obtain rfl : k = j := by omega
      rw [HZ.out] at e0
      have hgq : ¬ (q = g) := Ne.symm h2.ne
      have hgq2 : ¬ (g = q) := h2.ne
      generalize hmm : nth l k = m at *
      have HM := Lib.hid hmm
      clear hmm
      go_wp2_with fail
      go_ret3
      rw [HM.out]
      exact ⟨rfl, (h2.put m (z.2 + 1) 0).opn (m : Nat), (((Mv.of hK2).set (by simp) _).set (by simp) _).set (by simp) _⟩
end Go.Proofs.YtnhogmheedeeiaaGreat
/- The contracts of package chart, of none; 'alive'. -/
namespace Go.Proofs.YtnhogmheedeeiaaGreat
open Go.RowKit
set_option linter.unusedVariables false
set_option maxRecDepth 20000

theorem nhas (i : Int) (w : World) : Calls Tryz.prog 72 #[.pointer none, .int .i64 i] w fun e w' => e = .returned (.bool false) ∧ w = w' := by
  go_enter Tryz.func72, Tryz.ntmps72
  go_wp2
  go_ret
  exact ⟨rfl, rfl⟩
theorem nopened (w : World) : Calls Tryz.prog 54 #[.pointer none] w fun e w' => e = .returned (.bool false) ∧ Kp w w' := by
  go_enter Tryz.func54, Tryz.ntmps54
  go_wp2_with fail
  go_quiet (fail)
  go_wp2_with fail
  go_ret
  exact ⟨rfl, by (repeat (first | with_reducible exact Kp.refl _ | with_reducible assumption | with_reducible refine Kp.alloc ?_ _ | with_reducible refine Kp.drew ?_ | with_reducible refine Kp.drewN ?_ _ | exact Kp.refl _ | assumption | refine Kp.alloc ?_ _ | refine Kp.drew ?_ | refine Kp.drewN ?_ _ | refine Kp.trans ?_ (by assumption)))⟩
theorem nopen (w : World) : Calls Tryz.prog 75 #[.pointer none] w fun e w' => e = .returned (.tuple #[.int .i64 0, .int .u32 0, .bool false]) ∧ Kp w w' := by
  go_enter Tryz.func75, Tryz.ntmps75
  go_wp2
  go_ret3
  exact ⟨rfl, Kp.refl _⟩
theorem nfree (w : World) : Calls Tryz.prog 24 #[.pointer none] w fun e w' => e = .returned (.int .i64 0) ∧ Kp w w' := by
  go_enter Tryz.func24, Tryz.ntmps24
  go_wp2
  go_ret
  exact ⟨rfl, Kp.refl _⟩
theorem nleft (w : World) : Calls Tryz.prog 22 #[.pointer none] w fun e w' => e = .returned (.int .i64 0) ∧ Kp w w' := by
  go_enter Tryz.func22, Tryz.ntmps22
  go_wp2_with fail
  refine (nopened _).mono ?_
  rintro e w1 ⟨rfl, hk⟩
  go_wp2_with fail
  go_ret
  exact ⟨rfl, hk⟩
theorem ntake (w : World) : Calls Tryz.prog 48 #[.pointer none] w fun e w' => e = .returned (.tuple #[.int .i64 0, .bool false]) ∧ Kp w w' := by
  go_enter Tryz.func48, Tryz.ntmps48
  go_wp2_with fail
  refine (nleft _).mono ?_
  rintro e w1 ⟨rfl, hk⟩
  go_wp2_with fail
  go_ret2
  exact ⟨rfl, hk⟩
theorem nepoch (i : Int) (w : World) : Calls Tryz.prog 37 #[.pointer none, .int .i64 i] w fun e w' => e = .returned (.int .u32 0) ∧ Kp w w' := by
  go_enter Tryz.func37, Tryz.ntmps37
  go_wp2_with fail
  refine (nhas _ _).mono ?_
  rintro e w1 ⟨rfl, rfl⟩
  go_wp2_with fail
  go_ret
  exact ⟨rfl, Kp.refl _⟩
theorem nused (i : Int) (w : World) : Calls Tryz.prog 38 #[.pointer none, .int .i64 i] w fun e w' => e = .returned (.int .i64 0) ∧ Kp w w' := by
  go_enter Tryz.func38, Tryz.ntmps38
  go_wp2_with fail
  refine (nhas _ _).mono ?_
  rintro e w1 ⟨rfl, rfl⟩
  go_wp2_with fail
  go_ret
  exact ⟨rfl, Kp.refl _⟩
theorem nset (i e u : Int) (w : World) : Calls Tryz.prog 41 #[.pointer none, .int .i64 i, .int .u32 e, .int .i64 u] w fun e w' => e = .returned (.int .i64 1) ∧ Kp w w' := by
  go_enter Tryz.func41, Tryz.ntmps41
  go_wp2_with fail
  refine (nhas _ _).mono ?_
  rintro e w1 ⟨rfl, rfl⟩
  go_wp2_with fail
  go_ret
  exact ⟨rfl, Kp.refl _⟩
theorem nerase (i : Int) (w : World) : Calls Tryz.prog 39 #[.pointer none, .int .i64 i] w fun e w' => e = .returned (.int .i64 1) ∧ Kp w w' := by
  go_enter Tryz.func39, Tryz.ntmps39
  go_wp2_with fail
  refine (nhas _ _).mono ?_
  rintro e w1 ⟨rfl, rfl⟩
  go_wp2_with fail
  go_ret
  exact ⟨rfl, Kp.refl _⟩
theorem ngeom (w : World) : Calls Tryz.prog 46 #[.pointer none] w fun e w' => e = .returned (geo 0 0 0) ∧ Kp w w' := by
  go_enter Tryz.func46, Tryz.ntmps46
  go_wp2
  refine bodyPost_ret (v := geo 0 0 0) (by simp [results, Tryz.results46, go_sem]) rfl ⟨rfl, ?_⟩
  (repeat (first | with_reducible exact Kp.refl _ | with_reducible assumption | with_reducible refine Kp.alloc ?_ _ | with_reducible refine Kp.drew ?_ | with_reducible refine Kp.drewN ?_ _ | exact Kp.refl _ | assumption | refine Kp.alloc ?_ _ | refine Kp.drew ?_ | refine Kp.drewN ?_ _ | refine Kp.trans ?_ (by assumption)))

theorem ok4 (l : List (Int × Int)) (o : Int) (h4 : l.length = 4) (hb : l.all (fun x => decide (0 ≤ x.1 ∧ x.1 ≤ 2147483647 ∧ 0 ≤ x.2 ∧ x.2 ≤ 2)) = true) (ho : o = -1 ∨ ∃ k : Nat, k < l.length ∧ o = k ∧ 0 < epo l k) : ChOk 32 3 l o := by
  have hk : ∀ k, 0 ≤ epo l k ∧ epo l k ≤ 2147483647 ∧ 0 ≤ uso l k ∧ uso l k ≤ 2 := by
    intro k
    by_cases h : k < l.length
    · have := List.all_eq_true.1 hb l[k] (List.getElem_mem h)
      rw [← ep_in l k h, ← us_in l k h]
      simpa using this
    · unfold epo uso
      simp [List.getD_eq_getElem?_getD, List.getElem?_eq_none (by omega : l.length ≤ k)]
  refine ⟨?_, fun k => (hk k).1, fun k => (hk k).2.1, fun k => (hk k).2.2.1, fun k => by have := (hk k).2.2.2; omega, ho⟩
  rw [h4]; unfold RightG; omega

theorem crep0 (n k : Nat) : epo (List.replicate n (0, 0)) k = 0 ∧ uso (List.replicate n (0, 0)) k = 0 := by
  unfold epo uso
  simp only [List.getD_eq_getElem?_getD, List.getElem?_replicate]
  by_cases h : k < n
  · rw [if_pos h]; exact ⟨rfl, rfl⟩
  · rw [if_neg h]; exact ⟨rfl, rfl⟩
abbrev lv (a b : Int) : List (Int × Int) := [(a, b), (0, 0), (0, 0), (0, 0)]
theorem aok (u : Int) (h0 : 0 ≤ u) (h2 : u ≤ 2) : ChOk 32 3 (lv 1 u) ((0 : Nat) : Int) := by
  have : u = 0 ∨ u = 1 ∨ u = 2 := by omega
  rcases this with rfl | rfl | rfl <;> exact ok4 _ _ rfl (by decide) (Or.inr ⟨0, by decide, rfl, by decide⟩)
theorem a_open (w : World) (g q : Nat) (h : ChAt w g q 32 3 (lv 0 0) (-1)) :
    Calls Tryz.prog 75 #[.pointer (some ⟨g, 0, none⟩)] w fun e w' => e = .returned (.tuple #[.int .i64 0, .int .u32 1, .bool true]) ∧ ChAt w' g q 32 3 (lv 1 0) ((0 : Nat) : Int) ∧ Mv [g, q] w w' := by
  have H := copen_yes w g q 32 3 (lv 0 0) (-1) h (by decide) (by decide) (fun k => by have := crep0 4 k; exact Int.le_of_eq this.1.symm) (by decide) (by decide) 1 (by omega) (by decide) (fun i h1 h2 => by omega) (by decide)
  have e1 : (lv 0 0).set (nth (lv 0 0) 1) ((nwst (lv 0 0) (lv 0 0).length).2 + 1, 0) = lv 1 0 := by decide
  have e2 : nth (lv 0 0) 1 = 0 := by decide
  have e3 : (nwst (lv 0 0) (lv 0 0).length).2 + 1 = 1 := by decide
  rwa [e1, e2, e3] at H
theorem a_take0 (w : World) (g q : Nat) (h : ChAt w g q 32 3 (lv 1 0) ((0 : Nat) : Int)) :
    Calls Tryz.prog 48 #[.pointer (some ⟨g, 0, none⟩)] w fun e w' => e = .returned (.tuple #[.int .i64 1, .bool true]) ∧ ChAt w' g q 32 3 (lv 1 1) ((0 : Nat) : Int) ∧ Mv [g, q] w w' :=
  ctake_yes w g q 32 3 (lv 1 0) 0 h (aok 0 (by omega) (by omega)) (by decide) (by decide)
theorem a_take1 (w : World) (g q : Nat) (h : ChAt w g q 32 3 (lv 1 1) ((0 : Nat) : Int)) :
    Calls Tryz.prog 48 #[.pointer (some ⟨g, 0, none⟩)] w fun e w' => e = .returned (.tuple #[.int .i64 2, .bool true]) ∧ ChAt w' g q 32 3 (lv 1 2) ((0 : Nat) : Int) ∧ Mv [g, q] w w' :=
  ctake_yes w g q 32 3 (lv 1 1) 0 h (aok 1 (by omega) (by omega)) (by decide) (by decide)
theorem a_take2 (w : World) (g q : Nat) (h : ChAt w g q 32 3 (lv 1 2) ((0 : Nat) : Int)) :
    Calls Tryz.prog 48 #[.pointer (some ⟨g, 0, none⟩)] w fun e w' => e = .returned (.tuple #[.int .i64 0, .bool false]) ∧ Kp w w' :=
  ctake_no w g q 32 3 (lv 1 2) _ h (aok 2 (by omega) (by omega)) (by decide)
theorem a_left (w : World) (g q : Nat) (h : ChAt w g q 32 3 (lv 1 2) ((0 : Nat) : Int)) :
    Calls Tryz.prog 22 #[.pointer (some ⟨g, 0, none⟩)] w fun e w' => e = .returned (.int .i64 0) ∧ Kp w w' :=
  cleft_any w g q 32 3 (lv 1 2) _ h (aok 2 (by omega) (by omega))
end Go.Proofs.YtnhogmheedeeiaaGreat
/- The contracts of package chart: Oldest, Resume; facts on lists. -/
namespace Go.Proofs.YtnhogmheedeeiaaGreat
open Go.RowKit
set_option linter.unusedVariables false
set_option maxRecDepth 20000

theorem nwst_ge (l : List (Int × Int)) : ∀ m k : Nat, k < m → epo l k ≤ (nwst l m).2
  | 0, k, h => by omega
  | m + 1, k, h => by
    have ih := nwst_ge l m
    unfold nwst
    by_cases e : k = m
    · subst e; split <;> simp_all
    · have := ih k (by omega); split <;> simp <;> omega
theorem epo_set (l : List (Int × Int)) (k j : Nat) (x : Int × Int) (hk : k < l.length) : epo (l.set k x) j = if j = k then x.1 else epo l j := by
  unfold epo
  simp only [List.getD_eq_getElem?_getD, List.getElem?_set]
  by_cases h : k = j
  · subst h; simp [hk]
  · rw [if_neg h, if_neg (fun e => h e.symm)]
theorem uso_set (l : List (Int × Int)) (k j : Nat) (x : Int × Int) (hk : k < l.length) : uso (l.set k x) j = if j = k then x.2 else uso l j := by
  unfold uso
  simp only [List.getD_eq_getElem?_getD, List.getElem?_set]
  by_cases h : k = j
  · subst h; simp [hk]
  · rw [if_neg h, if_neg (fun e => h e.symm)]
theorem frees_set_lo (l : List (Int × Int)) (k : Nat) (x : Int × Int) (hk : k < l.length) : ∀ m, m ≤ k → frees (l.set k x) m = frees l m
  | 0, _ => rfl
  | m + 1, h => by simp only [frees]; rw [frees_set_lo l k x hk m (by omega), epo_set l k m x hk, if_neg (by omega : ¬ m = k)]
theorem frees_set (l : List (Int × Int)) (k : Nat) (x : Int × Int) (hk : k < l.length) : ∀ m, k < m → frees (l.set k x) m + (if epo l k = 0 then 1 else 0) = frees l m + (if x.1 = 0 then 1 else 0)
  | m + 1, h => by
    rw [frees, frees, epo_set _ _ _ _ hk]
    by_cases e : m = k
    · subst e; rw [if_pos rfl, frees_set_lo l m x hk m (Nat.le_refl _)]; split <;> split <;> omega
    · have := frees_set l k x hk m (by omega); rw [if_neg e]; omega
theorem frees_rep (n : Nat) : ∀ m, frees (List.replicate n (0, 0)) m = m
  | 0 => rfl
  | m + 1 => by rw [frees, frees_rep n m, (crep0 n m).1]; rfl
theorem repOk (p s : Int) (n : Nat) (h : RightG p s n) : ChOk p s (List.replicate n (0, 0)) (-1) := by
  obtain ⟨r1, r2, r3, r4, r5, r6⟩ := id h
  refine ⟨by rw [List.length_replicate]; exact h, fun k => ?_, fun k => ?_, fun k => ?_, fun k => ?_, Or.inl rfl⟩
  · rw [(crep0 n k).1]; omega
  · rw [(crep0 n k).1]; omega
  · rw [(crep0 n k).2]; omega
  · rw [(crep0 n k).2]; omega

/-- The taken region of the least epoch that is not open. -/
def oldF (l : List (Int × Int)) (o : Int) : Nat → Nat × Bool
  | 0 => (0, false)
  | k + 1 => if 0 < epo l k ∧ o ≠ k ∧ ((oldF l o k).2 = false ∨ epo l k < epo l (oldF l o k).1) then (k, true) else oldF l o k
theorem oldF_lt (l : List (Int × Int)) (o : Int) : ∀ k, (oldF l o k).1 ≤ k
  | 0 => Nat.le_refl _
  | k + 1 => by have := oldF_lt l o k; unfold oldF; split <;> simp <;> omega
theorem oldF_in (l : List (Int × Int)) (o : Int) : ∀ k, 0 < k → (oldF l o k).1 < k
  | k + 1, _ => by have := oldF_lt l o k; unfold oldF; split <;> simp <;> omega

theorem copened_any (W : World) (g q : Nat) (p s : Int) (l : List (Int × Int)) (o : Int) (h : ChAt W g q p s l o) (ok : ChOk p s l o) :
    Calls Tryz.prog 54 #[.pointer (some ⟨g, 0, none⟩)] W fun e w' => e = .returned (.bool (decide (0 ≤ o))) ∧ Kp W w' := by
  have hlen := ok.len
  rcases ok.op with rfl | ⟨k, hk, rfl, he⟩
  · exact copened_no W g q p s l h
  · have : decide (0 ≤ (k : Int)) = true := by simp
    rw [this]; exact copened_yes W g q p s l k h (by omega) hk he

end Go.Proofs.YtnhogmheedeeiaaGreat
/- The walk of ChartEnd. -/
namespace Go.Proofs.YtnhogmheedeeiaaGreat
open Go.RowKit
set_option linter.unusedVariables false
set_option maxRecDepth 20000

theorem pickN (n : Int) (m : Nat) (hm : 0 < m) (hm2 : m ≤ 1000) (h1 : -9223372036854775808 ≤ n) (h2 : n ≤ 9223372036854775807) (k : Nat) (hk : n % (m : Int) = k) (w : World) :
    Calls Tryz.prog 7 #[.int .i64 n, .int .i64 (m : Int)] w fun e w' => e = .returned (.int .i64 (k : Int)) ∧ w = w' := by
  rw [← hk]; exact pick_any n m (by omega) (by omega) h1 h2 w

end Go.Proofs.YtnhogmheedeeiaaGreat
/- The contracts of package chart: Resume, the small ones. -/
namespace Go.Proofs.YtnhogmheedeeiaaGreat
open Go.RowKit
set_option linter.unusedVariables false
set_option maxRecDepth 20000

theorem oldF_rep (n : Nat) (o : Int) : ∀ m, oldF (List.replicate n (0, 0)) o m = (0, false)
  | 0 => rfl
  | m + 1 => by rw [oldF, if_neg (fun hx => by have := (crep0 n m).1; omega), oldF_rep n o m]
end Go.Proofs.YtnhogmheedeeiaaGreat
/- The reference's account in memory, and the contracts of its small methods: the same functions of the same lists as the program's account. -/
namespace Go.Proofs.YtnhogmheedeeiaaGreat
open Go.RowKit
set_option linter.unusedVariables false
set_option maxRecDepth 20000

def eps (l : List (Int × Int)) : List Value := l.map fun x => .int .u32 x.1
def uss (l : List (Int × Int)) : List Value := l.map fun x => .int .i64 x.2
/-- The reference's account: its struct is block g, epochs block e, used slots block u. -/
structure RcAt (W : World) (g e u : Nat) (p s : Int) (l : List (Int × Int)) (o : Int) : Prop where
  box : Bk W g 82 [.int .i64 p, .int .i64 s, .int .i64 (l.length : Nat), .slice (some ⟨e, 0, none⟩) l.length l.length, .slice (some ⟨u, 0, none⟩) l.length l.length, .int .i64 o]
  er : Bk W e 29 (eps l)
  ur : Bk W u 3 (uss l)
  ge : g ≠ e
  gu : g ≠ u
  eu : e ≠ u
section
variable {W W' : World} {g e u : Nat} {p s : Int} {l : List (Int × Int)} {o : Int}
theorem RcAt.keep (h : RcAt W g e u p s l o) (k : Kp W W') : RcAt W' g e u p s l o := ⟨h.box.keep k, h.er.keep k, h.ur.keep k, h.ge, h.gu, h.eu⟩
theorem RcAt.c6 (h : RcAt W g e u p s l o) : W.cell? ⟨g, 0, none⟩ = some (.int .i64 p) ∧ W.cell? ⟨g, 1, none⟩ = some (.int .i64 s) ∧ W.cell? ⟨g, 2, none⟩ = some (.int .i64 (l.length : Nat)) ∧ W.cell? ⟨g, 3, none⟩ = some (.slice (some ⟨e, 0, none⟩) l.length l.length) ∧ W.cell? ⟨g, 4, none⟩ = some (.slice (some ⟨u, 0, none⟩) l.length l.length) ∧ W.cell? ⟨g, 5, none⟩ = some (.int .i64 o) :=
  ⟨h.box.cell 0, h.box.cell 1, h.box.cell 2, h.box.cell 3, h.box.cell 4, h.box.cell 5⟩
theorem RcAt.c2 (h : RcAt W g e u p s l o) (i : Nat) (hi : i < l.length) : W.cell? ⟨e, i, none⟩ = some (.int .u32 (epo l i)) ∧ W.cell? ⟨u, i, none⟩ = some (.int .i64 (uso l i)) := by
  rw [h.er.cell, h.ur.cell, ← ep_in l i hi, ← us_in l i hi]
  simp [eps, uss, hi]
theorem RcAt.fr (h : RcAt W g e u p s l o) (i : Nat) : W.frozen? ⟨e, i, none⟩ = false ∧ W.frozen? ⟨u, i, none⟩ = false := ⟨h.er.free _, h.ur.free _⟩
theorem RcAt.put (h : RcAt W g e u p s l o) (i : Nat) (a b : Int) : RcAt ((W.setCell ⟨e, i, none⟩ (.int .u32 a)).setCell ⟨u, i, none⟩ (.int .i64 b)) g e u p s (l.set i (a, b)) o := by
  refine ⟨?_, ?_, ?_, h.ge, h.gu, h.eu⟩
  · rw [List.length_set]; exact (h.box.far h.ge _).far h.gu _
  · have := (h.er.put i (.int .u32 a)).far (p := ⟨u, i, none⟩) h.eu (.int .i64 b)
    have e2 : eps (l.set i (a, b)) = (eps l).set i (.int .u32 a) := by simp [eps, List.map_set]
    rw [e2]; exact this
  · have := (h.ur.far (p := ⟨e, i, none⟩) (Ne.symm h.eu) (.int .u32 a)).put i (.int .i64 b)
    have e2 : uss (l.set i (a, b)) = (uss l).set i (.int .i64 b) := by simp [uss, List.map_set]
    rw [e2]; exact this
theorem RcAt.put1 (h : RcAt W g e u p s l o) (i : Nat) (hi : i < l.length) (b : Int) : RcAt (W.setCell ⟨u, i, none⟩ (.int .i64 b)) g e u p s (l.set i (epo l i, b)) o := by
  refine ⟨?_, ?_, ?_, h.ge, h.gu, h.eu⟩
  · rw [List.length_set]; exact h.box.far h.gu _
  · have := h.er.far (p := ⟨u, i, none⟩) h.eu (.int .i64 b)
    have e2 : eps (l.set i (epo l i, b)) = eps l := by
      simp only [eps, List.map_set]
      rw [← ep_in l i hi]
      apply List.ext_getElem (by simp)
      intro j h1 h2
      rw [List.getElem_set]
      split
      · subst_vars; simp
      · rfl
    rw [e2]; exact this
  · have := h.ur.put i (.int .i64 b)
    have e2 : uss (l.set i (epo l i, b)) = (uss l).set i (.int .i64 b) := by simp [uss, List.map_set]
    rw [e2]; exact this
theorem RcAt.opn (h : RcAt W g e u p s l o) (k : Int) : RcAt (W.setCell ⟨g, 5, none⟩ (.int .i64 k)) g e u p s l k :=
  ⟨h.box.put 5 _, h.er.far (Ne.symm h.ge) _, h.ur.far (Ne.symm h.gu) _, h.ge, h.gu, h.eu⟩
theorem RcAt.mv {S : List Nat} (h : RcAt W g e u p s l o) (k : Mv S W W') (hg : g ∉ S) (he : e ∉ S) (hu : u ∉ S) : RcAt W' g e u p s l o :=
  ⟨h.box.mv k hg, h.er.mv k he, h.ur.mv k hu, h.ge, h.gu, h.eu⟩
end

set_option maxHeartbeats 800000 in
theorem rfree_any (W : World) (g e u : Nat) (p s : Int) (l : List (Int × Int)) (o : Int) (h : RcAt W g e u p s l o) (hl : l.length ≤ 100) :
    Calls Tryz.prog 25 #[.pointer (some ⟨g, 0, none⟩)] W fun x w' => x = .returned (.int .i64 (frees l l.length : Nat)) ∧ Kp W w' := by
  obtain ⟨c0, c1, c2, c3, c4, c5⟩ := h.c6
  go_enter Tryz.func25, Tryz.ntmps25
  go_wp2_with fail
  go_loopw [3, 4] (fun n i wr => ∃ k : Nat, k ≤ l.length ∧ i = .int .i64 k ∧ n = .int .i64 (frees l k : Nat) ∧ Kp W wr) (fun _ i _ => l.length - (intOf i).toNat)
  case atStart => exact ⟨0, by omega, rfl, rfl, Kp.refl W⟩
  case round =>
    obtain ⟨k, hk, rfl, rfl, hKr⟩ := hrel
    have hf := frees_le l k
    clear c0 c1 c2 c3 c4 c5
    obtain ⟨c0, c1, c2, c3, c4, c5⟩ := (h.keep hKr).c6
    by_cases hlt : k < l.length
    · obtain ⟨e0, e1⟩ := (h.keep hKr).c2 k hlt
      by_cases hz : epo l k = 0
      · have hs : frees l (k + 1) = frees l k + 1 := by rw [frees, if_pos hz]
        have HS := Lib.hid hs
        rw [hz] at e0
        clear hs hz
        go_wp2_with fail
        go_roundw
        case rel => exact ⟨k + 1, by omega, by go_num, by rw [HS.out]; go_num, hKr⟩
        case measure => simp [intOf]; omega
      · have hs : frees l (k + 1) = frees l k := by rw [frees, if_neg hz]; rfl
        have HS := Lib.hid hs
        have hb : (epo l k == 0) = false := by simpa using hz
        clear hs hz
        go_wp2_with fail
        go_roundw
        case rel => exact ⟨k + 1, by omega, by go_num, by rw [HS.out], hKr⟩
        case measure => simp [intOf]; omega
    · obtain rfl : k = l.length := by omega
      go_wp2_with fail
      go_ret
      exact ⟨rfl, hKr⟩
end Go.Proofs.YtnhogmheedeeiaaGreat
/- The contracts of the reference's account: is, Left, Avail, Take, Erase, Set. -/
namespace Go.Proofs.YtnhogmheedeeiaaGreat
open Go.RowKit
set_option linter.unusedVariables false
set_option maxRecDepth 20000

theorem rslotsK (p s r : Int) (h : RightG p s r) (w : World) :
    Calls Tryz.prog 56 #[geo p s r] w fun e w' => e = .returned (.int .i64 (s - 1)) ∧ Kp w w' :=
  (rslots_any p s r h w).mono fun _ _ ⟨he, hw⟩ => ⟨he, hw ▸ Kp.one _ _⟩
set_option maxHeartbeats 400000 in
theorem ris_yes (W : World) (g b u : Nat) (p s : Int) (l : List (Int × Int)) (o : Int) (h : RcAt W g b u p s l o) (i : Int) (h0 : 0 ≤ i) (hi : i < (l.length : Int)) :
    Calls Tryz.prog 42 #[.pointer (some ⟨g, 0, none⟩), .int .i64 i] W fun e w' => e = .returned (.bool true) ∧ W = w' := by
  obtain ⟨c0, c1, c2, c3, c4, c5⟩ := h.c6
  have d1 : decide (i < (l.length : Int)) = true := by simpa using hi
  go_enter Tryz.func42, Tryz.ntmps42
  go_wp2
  go_ret
  exact ⟨rfl, rfl⟩
set_option maxHeartbeats 400000 in
theorem ris_no (W : World) (g b u : Nat) (p s : Int) (l : List (Int × Int)) (o : Int) (h : RcAt W g b u p s l o) (i : Int) (hi : i < 0 ∨ (l.length : Int) ≤ i) :
    Calls Tryz.prog 42 #[.pointer (some ⟨g, 0, none⟩), .int .i64 i] W fun e w' => e = .returned (.bool false) ∧ W = w' := by
  obtain ⟨c0, c1, c2, c3, c4, c5⟩ := h.c6
  have hi' : i < 0 ∨ (0 ≤ i ∧ (l.length : Int) ≤ i) := by omega
  rcases hi' with h1 | ⟨h1, h2⟩
  · go_enter Tryz.func42, Tryz.ntmps42
    go_wp2
    go_ret
    exact ⟨rfl, rfl⟩
  · have d1 : decide (i < (l.length : Int)) = false := by simp; omega
    go_enter Tryz.func42, Tryz.ntmps42
    go_wp2
    go_ret
    exact ⟨rfl, rfl⟩
set_option maxHeartbeats 800000 in
theorem rerase_arg (W0 : World) (g b u : Nat) (p s : Int) (l : List (Int × Int)) (o : Int) (h : RcAt W0 g b u p s l o) (i : Int) (hi : i < 0 ∨ (l.length : Int) ≤ i) :
    Calls Tryz.prog 44 #[.pointer (some ⟨g, 0, none⟩), .int .i64 i] W0 fun e w' => e = .returned (.int .i64 1) ∧ Kp W0 w' := by
  go_enter Tryz.func44, Tryz.ntmps44
  go_wp2_with fail
  refine (ris_no W0 g b u p s l o h i hi).mono ?_
  rintro e w1 ⟨rfl, rfl⟩
  go_wp2_with fail
  go_ret
  exact ⟨rfl, Kp.refl _⟩
set_option maxHeartbeats 800000 in
theorem rerase_state (W0 : World) (g b u : Nat) (p s : Int) (l : List (Int × Int)) (o : Int) (h : RcAt W0 g b u p s l o) (hl : l.length ≤ 100) (k : Nat) (hk : k < l.length) (hz : epo l k = 0 ∨ (epo l k ≠ 0 ∧ o = k)) :
    Calls Tryz.prog 44 #[.pointer (some ⟨g, 0, none⟩), .int .i64 k] W0 fun e w' => e = .returned (.int .i64 7) ∧ Kp W0 w' := by
  obtain ⟨c0, c1, c2, c3, c4, c5⟩ := h.c6
  obtain ⟨e0, e1⟩ := h.c2 k hk
  have hk2 : (k : Int) < (l.length : Int) := by omega
  rcases hz with hz | ⟨hz, rfl⟩
  · rw [hz] at e0
    clear hz
    go_enter Tryz.func44, Tryz.ntmps44
    go_wp2_with fail
    refine (ris_yes W0 g b u p s l o h _ (by omega) (by omega)).mono ?_
    rintro e w1 ⟨rfl, rfl⟩
    go_wp2_with fail
    go_ret
    exact ⟨rfl, Kp.refl _⟩
  · have hb : (epo l k == 0) = false := by simpa using hz
    clear hz
    go_enter Tryz.func44, Tryz.ntmps44
    go_wp2_with fail
    refine (ris_yes W0 g b u p s l _ h _ (by omega) (by omega)).mono ?_
    rintro e w1 ⟨rfl, rfl⟩
    go_wp2_with fail
    go_ret
    exact ⟨rfl, Kp.refl _⟩
set_option maxHeartbeats 800000 in
theorem rerase_ok (W0 : World) (g b u : Nat) (p s : Int) (l : List (Int × Int)) (o : Int) (h : RcAt W0 g b u p s l o) (hl : l.length ≤ 100) (k : Nat) (hk : k < l.length) (hz : epo l k ≠ 0) (ho : o ≠ k) :
    Calls Tryz.prog 44 #[.pointer (some ⟨g, 0, none⟩), .int .i64 k] W0 fun e w' => e = .returned (.int .i64 0) ∧ RcAt w' g b u p s (l.set k (0, 0)) o ∧ Mv [g, b, u] W0 w' := by
  obtain ⟨c0, c1, c2, c3, c4, c5⟩ := h.c6
  obtain ⟨e0, e1⟩ := h.c2 k hk
  obtain ⟨f0, f1⟩ := h.fr k
  have hk2 : (k : Int) < (l.length : Int) := by omega
  have hb : (epo l k == 0) = false := by simpa using hz
  have hb2 : (o == (k : Int)) = false := by simpa using ho
  clear hz ho
  have n1 := h.ge
  have n2 := h.gu
  have n3 := h.eu
  have n4 := Ne.symm h.ge
  have n5 := Ne.symm h.gu
  have n6 := Ne.symm h.eu
  go_enter Tryz.func44, Tryz.ntmps44
  go_wp2_with fail
  refine (ris_yes W0 g b u p s l _ h _ (by omega) (by omega)).mono ?_
  rintro e w1 ⟨rfl, rfl⟩
  go_wp2_with fail
  go_ret
  exact ⟨rfl, h.put k 0 0, ((Mv.refl W0).set (by simp) _).set (by simp) _⟩

end Go.Proofs.YtnhogmheedeeiaaGreat
/- The contracts of the reference's account: Left, Avail, Take. -/
namespace Go.Proofs.YtnhogmheedeeiaaGreat
open Go.RowKit
set_option linter.unusedVariables false
set_option maxRecDepth 20000

set_option maxHeartbeats 800000 in
theorem rleft_any (W0 : World) (g b u : Nat) (p s : Int) (l : List (Int × Int)) (o : Int) (h : RcAt W0 g b u p s l o) (ok : ChOk p s l o) :
    Calls Tryz.prog 23 #[.pointer (some ⟨g, 0, none⟩)] W0 fun e w' => e = .returned (.int .i64 (leftF s l o)) ∧ Kp W0 w' := by
  have hlen := ok.len
  rcases ok.op with rfl | ⟨k, hk, rfl, he⟩
  · obtain ⟨c0, c1, c2, c3, c4, c5⟩ := h.c6
    go_enter Tryz.func23, Tryz.ntmps23
    go_wp2_with fail
    go_ret
    exact ⟨rfl, Kp.refl _⟩
  · have hl : leftF s l (k : Int) = s - 1 - uso l k := by unfold leftF; rw [if_neg (by omega)]; simp
    rw [hl]
    have hR := ok.right
    have u0 := ok.us0 k
    have u1 := ok.us1 k
    obtain ⟨r1, r2, r3, r4, r5, r6⟩ := id ok.right
    have hk2 : (k : Int) < (l.length : Int) := by omega
    have hwr : IntKind.i64.wrap (s - 1 - uso l k) = s - 1 - uso l k := IntWalk.i64_in _ (by omega)
    have HC := Lib.hid (fun W (k9 : Kp W0 W) => (h.keep k9).c6)
    have HE := Lib.hid (fun W (k9 : Kp W0 W) => (h.keep k9).c2 k hk)
    obtain ⟨c0, c1, c2, c3, c4, c5⟩ := h.c6
    go_enter Tryz.func23, Tryz.ntmps23
    go_wp2_with fail
    have hInh := fun (x v : Value) => (⟨fun h => h _ ((Kp.refl W0).drew), fun h _ _ => h⟩ : (∀ Wz9, (fun W => Kp W0 W) Wz9 → x = v) ↔ x = v)
    dsimp only at hInh
    refine wp_region_quietC (C := fun W => Kp W0 W) (by kernel_rfl) (by kernel_rfl) ((Kp.refl W0).drew) ?_
    repeat (first | go_big_quiet_step ((intro hW; first | (go_at_call 56; refine (rslotsK p s _ hR _).mono ?_; rintro e w' ⟨rfl, hk9⟩; exact ⟨rfl, hW.trans hk9⟩) | (with_reducible rfl) | (obtain ⟨c0, c1, c2, c3, c4, c5⟩ := HC.out _ hW; obtain ⟨e0, e1⟩ := HE.out _ hW; (try go_simp); first | done | with_reducible rfl | exact ⟨rfl, rfl⟩))) | quiet_step ((intro hW; first | (go_at_call 56; refine (rslotsK p s _ hR _).mono ?_; rintro e w' ⟨rfl, hk9⟩; exact ⟨rfl, hW.trans hk9⟩) | (with_reducible rfl) | (obtain ⟨c0, c1, c2, c3, c4, c5⟩ := HC.out _ hW; obtain ⟨e0, e1⟩ := HE.out _ hW; (try go_simp); first | done | with_reducible rfl | exact ⟨rfl, rfl⟩))))
    refine wpQuiet_nil ?_
    intro wq hwq
    clear hInh
    go_wp2_with fail
    go_ret
    exact ⟨rfl, hwq⟩
set_option maxHeartbeats 800000 in
theorem rtake_no (W0 : World) (g b u : Nat) (p s : Int) (l : List (Int × Int)) (o : Int) (h : RcAt W0 g b u p s l o) (ok : ChOk p s l o) (hz : leftF s l o ≤ 0) :
    Calls Tryz.prog 53 #[.pointer (some ⟨g, 0, none⟩)] W0 fun e w' => e = .returned (.tuple #[.int .i64 0, .bool false]) ∧ Kp W0 w' := by
  have H1 := Lib.hid (rleft_any W0 g b u p s l o h ok)
  have hz2 : leftF s l o = 0 := by have := leftF_bd ok; omega
  rw [hz2] at H1
  clear hz hz2
  go_enter Tryz.func53, Tryz.ntmps53
  go_wp2_with fail
  refine (H1.out).mono ?_
  rintro e w1 ⟨rfl, hk1⟩
  go_wp2_with fail
  go_ret2
  exact ⟨rfl, hk1⟩
set_option maxHeartbeats 1600000 in
theorem rtake_yes (W0 : World) (g b u : Nat) (p s : Int) (l : List (Int × Int)) (k : Nat) (h : RcAt W0 g b u p s l k) (ok : ChOk p s l k) (hk : k < l.length) (hz : uso l k < s - 1) :
    Calls Tryz.prog 53 #[.pointer (some ⟨g, 0, none⟩)] W0 fun e w' => e = .returned (.tuple #[.int .i64 ((k : Int) * s + (uso l k + 1)), .bool true]) ∧ RcAt w' g b u p s (l.set k (epo l k, uso l k + 1)) k ∧ Mv [g, b, u] W0 w' := by
  have H1 := Lib.hid (rleft_any W0 g b u p s l k h ok)
  have hl : leftF s l (k : Int) = s - 1 - uso l k := by unfold leftF; rw [if_neg (by omega)]; simp
  rw [hl] at H1
  clear hl
  have hR := ok.right
  have hlen := ok.len
  have u0 := ok.us0 k
  obtain ⟨r1, r2, r3, r4, r5, r6⟩ := id ok.right
  have hk2 : (k : Int) < (l.length : Int) := by omega
  have hd : decide (s - 1 - uso l k = 0) = false := by simp; omega
  have hd2 : (s - 1 - uso l k == 0) = false := by simp; omega
  have hw1 : IntKind.i64.wrap (uso l k + 1) = uso l k + 1 := IntWalk.i64_in _ (by omega)
  have hm := mul2 (a := (k : Int)) (b := s) (by omega) (by omega) (by omega) (by omega)
  have hw2 : IntKind.i64.wrap ((k : Int) * s) = (k : Int) * s := IntWalk.i64_in _ (by omega)
  have hw3 : IntKind.i64.wrap ((k : Int) * s + (uso l k + 1)) = (k : Int) * s + (uso l k + 1) := IntWalk.i64_in _ (by omega)
  have n1 := h.ge
  have n2 := h.gu
  have n3 := h.eu
  have n4 := Ne.symm h.ge
  have n5 := Ne.symm h.gu
  have n6 := Ne.symm h.eu
  go_enter Tryz.func53, Tryz.ntmps53
  go_wp2_with fail
  refine (H1.out).mono ?_
  rintro e w1 ⟨rfl, hk1⟩
  have h1 := h.keep hk1
  have HC := Lib.hid (fun W (k9 : Kp w1 W) => (h1.keep k9).c6)
  have HE := Lib.hid (fun W (k9 : Kp w1 W) => (h1.keep k9).c2 k hk)
  go_wp2_with fail
  have hInh := fun (x v : Value) => (⟨fun h => h _ ((Kp.refl w1).drew), fun h _ _ => h⟩ : (∀ Wz9, (fun W => Kp w1 W) Wz9 → x = v) ↔ x = v)
  dsimp only at hInh
  refine wp_region_head 12 (C := fun W => Kp w1 W) (by kernel_rfl) (by kernel_rfl) ((Kp.refl w1).drew) ?_
  simp only [List.take_succ_cons, List.take_zero, List.drop_succ_cons, List.drop_zero]
  repeat (first | go_big_quiet_step ((intro hW; first | fail | (with_reducible rfl) | (obtain ⟨c0, c1, c2, c3, c4, c5⟩ := HC.out _ hW; obtain ⟨e0, e1⟩ := HE.out _ hW; (try go_simp); first | done | with_reducible rfl | exact ⟨rfl, rfl⟩))) | quiet_step ((intro hW; first | fail | (with_reducible rfl) | (obtain ⟨c0, c1, c2, c3, c4, c5⟩ := HC.out _ hW; obtain ⟨e0, e1⟩ := HE.out _ hW; (try go_simp); first | done | with_reducible rfl | exact ⟨rfl, rfl⟩))))
  refine wpQuiet_nil ?_
  intro wq hwq
  clear hInh
  have h2 := h1.keep hwq
  obtain ⟨c0, c1, c2, c3, c4, c5⟩ := h2.c6
  obtain ⟨e0, e1⟩ := h2.c2 k hk
  obtain ⟨f0, f1⟩ := h2.fr k
  go_wp2_with fail
  have h3 := h2.put1 k hk (uso l k + 1)
  have hm3 : Mv [g, b, u] W0 (wq.setCell ⟨u, k, none⟩ (.int .i64 (uso l k + 1))) := (Mv.of (hk1.trans hwq)).set (by simp) _
  have hk3 : k < (l.set k (epo l k, uso l k + 1)).length := by simpa using hk
  have hl3 : (l.set k (epo l k, uso l k + 1)).length = l.length := List.length_set
  have hu3 : uso (l.set k (epo l k, uso l k + 1)) k = uso l k + 1 := by unfold uso; simp [hk]
  generalize wq.setCell ⟨u, k, none⟩ (.int .i64 (uso l k + 1)) = w3 at *
  have HC3 := Lib.hid (fun W (k : Kp w3 W) => (h3.keep k).c6)
  have HE3 := Lib.hid (fun W (k9 : Kp w3 W) => (h3.keep k9).c2 k hk3)
  rw [hl3] at HC3
  rw [hu3] at HE3
  clear e0 e1 f0 f1 hl3 hu3 c0 c1 c2 c3 c4 c5
  have hInh := fun (x v : Value) => (⟨fun h => h _ ((Kp.refl w3).drew), fun h _ _ => h⟩ : (∀ Wz9, (fun W => Kp w3 W) Wz9 → x = v) ↔ x = v)
  dsimp only at hInh
  refine wp_region_quietC (C := fun W => Kp w3 W) (by kernel_rfl) (by kernel_rfl) ((Kp.refl w3).drew) ?_
  repeat (first | go_big_quiet_step ((intro hW; first | fail | (with_reducible rfl) | (obtain ⟨c0, c1, c2, c3, c4, c5⟩ := HC3.out _ hW; obtain ⟨e0, e1⟩ := HE3.out _ hW; (try go_simp); first | done | with_reducible rfl | exact ⟨rfl, rfl⟩))) | quiet_step ((intro hW; first | fail | (with_reducible rfl) | (obtain ⟨c0, c1, c2, c3, c4, c5⟩ := HC3.out _ hW; obtain ⟨e0, e1⟩ := HE3.out _ hW; (try go_simp); first | done | with_reducible rfl | exact ⟨rfl, rfl⟩))))
  refine wpQuiet_nil ?_
  intro wq hwq
  clear hInh
  go_wp2_with fail
  go_ret2
  exact ⟨rfl, h3.keep hwq, hm3.trans (Mv.of hwq)⟩
end Go.Proofs.YtnhogmheedeeiaaGreat
/- The contracts of the reference's account: Resume, Oldest, Open. -/
namespace Go.Proofs.YtnhogmheedeeiaaGreat
open Go.RowKit
set_option linter.unusedVariables false
set_option maxRecDepth 20000

theorem nwst_is (l : List (Int × Int)) : ∀ m : Nat, ((nwst l m).1 = -1 ∧ (nwst l m).2 = 0) ∨ ∃ k : Nat, k < m ∧ (nwst l m).1 = k ∧ (nwst l m).2 = epo l k ∧ 0 < epo l k
  | 0 => Or.inl ⟨rfl, rfl⟩
  | m + 1 => by
    have h1 := nwst_is l m
    have h0 := nwst_top l m
    rw [nwst]
    by_cases h : (nwst l m).2 < epo l m
    · rw [if_pos h]; exact Or.inr ⟨m, by omega, rfl, rfl, by omega⟩
    · rw [if_neg h]
      rcases h1 with h1 | ⟨k, hk, h1⟩
      · exact Or.inl h1
      · exact Or.inr ⟨k, by omega, h1⟩

end Go.Proofs.YtnhogmheedeeiaaGreat
/- The contracts of the reference's account: Oldest. -/
namespace Go.Proofs.YtnhogmheedeeiaaGreat
open Go.RowKit
set_option linter.unusedVariables false
set_option maxRecDepth 20000

theorem oldF_no (l : List (Int × Int)) (o : Int) : ∀ k, (oldF l o k).2 = false → (oldF l o k).1 = 0
  | 0, _ => rfl
  | k + 1, h => by
    have ih := oldF_no l o k
    rw [oldF] at h ⊢
    split
    · rename_i hc; rw [if_pos hc] at h; cases h
    · rename_i hc; rw [if_neg hc] at h; exact ih h
/-- The reference's 'at'. -/
def oldAt (z : Nat × Bool) : Int := if z.2 = true then z.1 else -1

end Go.Proofs.YtnhogmheedeeiaaGreat
/- The contracts of the reference's account: Open. -/
namespace Go.Proofs.YtnhogmheedeeiaaGreat
open Go.RowKit
set_option linter.unusedVariables false
set_option maxRecDepth 20000

/-- The reference's 'top'. -/
def rtop (l : List (Int × Int)) (k : Nat) : Nat := (nwst l k).1.toNat
theorem rtop_ep (l : List (Int × Int)) (h0 : ∀ k, 0 ≤ epo l k) (k : Nat) (hk : 0 < k) : epo l (rtop l k) = (nwst l k).2 := by
  unfold rtop
  rcases nwst_is l k with ⟨h1, h2⟩ | ⟨m, hm, h1, h2, h3⟩
  · have := nwst_ge l k 0 hk
    have := h0 0
    rw [h1]
    show epo l 0 = _
    omega
  · rw [h1, h2]; rfl
theorem rtop_step (l : List (Int × Int)) (h0 : ∀ k, 0 ≤ epo l k) (k : Nat) : rtop l (k + 1) = if epo l (rtop l k) < epo l k then k else rtop l k := by
  rcases Nat.eq_zero_or_pos k with rfl | hk
  · have : rtop l 0 = 0 := rfl
    rw [this, if_neg (by omega)]
    unfold rtop nwst
    split <;> rfl
  · rw [rtop_ep l h0 k hk]
    unfold rtop
    rw [nwst]
    split <;> rfl
theorem rtop_lt (l : List (Int × Int)) (k n : Nat) (hk : k ≤ n) (hn : 0 < n) : rtop l k < n := by
  have := nwst_at l k
  unfold rtop
  omega
theorem nth_cast (l : List (Int × Int)) (hl : 0 < l.length) (j : Nat) : ((nth l j : Nat) : Int) = ((nwst l l.length).1 + (j : Int)) % (l.length : Int) := by
  unfold nth
  have := Int.emod_nonneg ((nwst l l.length).1 + (j : Int)) (show (l.length : Int) ≠ 0 by omega)
  omega
theorem nth_lt (l : List (Int × Int)) (hl : 0 < l.length) (j : Nat) : nth l j < l.length := by
  have h1 := nth_cast l hl j
  have := Int.emod_lt_of_pos ((nwst l l.length).1 + (j : Int)) (show 0 < (l.length : Int) by omega)
  omega
theorem nth_step (l : List (Int × Int)) (hl : 0 < l.length) (j : Nat) : (((nth l j : Nat) : Int) + 1) % (l.length : Int) = (nth l (j + 1) : Nat) := by
  rw [nth_cast l hl, nth_cast l hl, Int.emod_add_emod]
  congr 1
  omega
/-- How far from the newest. -/
def idx (a n m : Int) : Nat := ((m - a - 1) % n).toNat + 1
theorem idx_emod (a n j : Int) (h1 : 1 ≤ j) (h2 : j ≤ n) : idx a n ((a + j) % n) = j.toNat := by
  unfold idx
  have e : ((a + j) % n - a - 1) % n = (j - 1) % n := by
    rw [show (a + j) % n - a - 1 = (a + j) % n - (a + 1) by omega, Int.emod_sub_emod]
    congr 1; omega
  rw [e, Int.emod_eq_of_lt (by omega) (by omega)]
  omega
theorem idx_nth (l : List (Int × Int)) (j : Nat) (h1 : 1 ≤ j) (h2 : j ≤ l.length) : idx (nwst l l.length).1 l.length (nth l j : Nat) = j := by
  rw [nth_cast l (by omega), idx_emod _ _ _ (by omega) (by omega)]
  omega
theorem nth_idx (l : List (Int × Int)) (k : Nat) (hk : k < l.length) : nth l (idx (nwst l l.length).1 l.length k) = k ∧ 1 ≤ idx (nwst l l.length).1 l.length k ∧ idx (nwst l l.length).1 l.length k ≤ l.length := by
  have h1 := Int.emod_nonneg ((k : Int) - (nwst l l.length).1 - 1) (show (l.length : Int) ≠ 0 by omega)
  have h2 := Int.emod_lt_of_pos ((k : Int) - (nwst l l.length).1 - 1) (show 0 < (l.length : Int) by omega)
  refine ⟨?_, by unfold idx; omega, by unfold idx; omega⟩
  have h3 := nth_cast l (by omega) (idx (nwst l l.length).1 l.length k)
  have h4 : ((idx (nwst l l.length).1 l.length k : Nat) : Int) = ((k : Int) - (nwst l l.length).1 - 1) % (l.length : Int) + 1 := by unfold idx; omega
  rw [h4] at h3
  have h5 : ((nwst l l.length).1 + (((k : Int) - (nwst l l.length).1 - 1) % (l.length : Int) + 1)) % (l.length : Int) = k := by
    rw [show (nwst l l.length).1 + (((k : Int) - (nwst l l.length).1 - 1) % (l.length : Int) + 1) = ((k : Int) - (nwst l l.length).1 - 1) % (l.length : Int) + ((nwst l l.length).1 + 1) by omega, Int.emod_add_emod]
    rw [show (k : Int) - (nwst l l.length).1 - 1 + ((nwst l l.length).1 + 1) = k by omega]
    exact Int.emod_eq_of_lt (by omega) (by omega)
  rw [h5] at h3
  omega
theorem frees_ex (l : List (Int × Int)) : ∀ m, 0 < frees l m → ∃ k, k < m ∧ epo l k = 0
  | 0, h => by simp [frees] at h
  | m + 1, h => by
    by_cases e : epo l m = 0
    · exact ⟨m, by omega, e⟩
    · rw [frees, if_neg e] at h
      obtain ⟨k, hk, hz⟩ := frees_ex l m (by omega)
      exact ⟨k, by omega, hz⟩
theorem least_ex (p : Nat → Prop) : ∀ n, p n → ∃ j, j ≤ n ∧ p j ∧ ∀ i, i < j → ¬ p i := by
  intro n
  induction n using Nat.strongRecOn with
  | _ n ih =>
    intro h
    by_cases e : ∃ i, i < n ∧ p i
    · obtain ⟨i, hi, hp⟩ := e
      obtain ⟨j, h1, h2, h3⟩ := ih i hi hp
      exact ⟨j, by omega, h2, h3⟩
    · exact ⟨n, Nat.le_refl _, h, fun i hi hp => e ⟨i, hi, hp⟩⟩
theorem first_ex (l : List (Int × Int)) (hf : 0 < frees l l.length) : ∃ j, 1 ≤ j ∧ j ≤ l.length ∧ (∀ i, 1 ≤ i → i < j → epo l (nth l i) ≠ 0) ∧ epo l (nth l j) = 0 := by
  obtain ⟨k, hk, hz⟩ := frees_ex l _ hf
  obtain ⟨e1, e2, e3⟩ := nth_idx l k hk
  obtain ⟨j, h1, h2, h3⟩ := least_ex (fun j => 1 ≤ j ∧ epo l (nth l j) = 0) (idx (nwst l l.length).1 l.length k) ⟨e2, by rw [e1]; exact hz⟩
  exact ⟨j, h2.1, by omega, fun i hi hij hx => h3 i hij ⟨hi, hx⟩, h2.2⟩

set_option maxHeartbeats 1600000 in
theorem ropen_no (W0 : World) (g b u : Nat) (p s : Int) (l : List (Int × Int)) (o : Int) (h : RcAt W0 g b u p s l o) (ok : ChOk p s l o) (hz : frees l l.length = 0 ∨ (0 < frees l l.length ∧ 2147483647 ≤ (nwst l l.length).2)) :
    Calls Tryz.prog 51 #[.pointer (some ⟨g, 0, none⟩)] W0 fun e w' => e = .returned (.tuple #[.int .i64 0, .int .u32 0, .bool false]) ∧ Kp W0 w' := by
  have hlen := ok.len
  have h00 := ok.ep0
  have HST := Lib.hid (rtop_step l h00)
  have HEP := Lib.hid (rtop_ep l h00 l.length (by omega))
  have HLT := Lib.hid (fun k (hk : k ≤ l.length) => rtop_lt l k l.length hk (by omega))
  have HF := Lib.hid (fun W (k : Kp W0 W) => rfree_any W g b u p s l o (h.keep k) (by omega))
  have HZ := Lib.hid hz
  have h10 := ok.ep1
  clear hz
  obtain ⟨c0, c1, c2, c3, c4, c5⟩ := h.c6
  go_enter Tryz.func51, Tryz.ntmps51
  go_wp2_with fail
  go_loopw [5, 6] (fun a i wr => ∃ k : Nat, k ≤ l.length ∧ i = .int .i64 k ∧ a = .int .i64 (rtop l k : Nat) ∧ Kp W0 wr) (fun _ i _ => l.length - (intOf i).toNat)
  case atStart => exact ⟨0, by omega, rfl, rfl, Kp.refl W0⟩
  case round =>
    obtain ⟨k, hk, rfl, rfl, hKr⟩ := hrel
    clear c0 c1 c2 c3 c4 c5
    have hr := h.keep hKr
    obtain ⟨c0, c1, c2, c3, c4, c5⟩ := hr.c6
    have htl := HLT.out k hk
    have htl2 : ((rtop l k : Nat) : Int) < (l.length : Int) := by omega
    by_cases hlt : k < l.length
    · have hlt2 : (k : Int) < (l.length : Int) := by omega
      have HC := Lib.hid (fun W (k9 : Kp wr W) => (hr.keep k9).c6)
      have HE := Lib.hid (fun W (k9 : Kp wr W) => (hr.keep k9).c2 k hlt)
      have HE2 := Lib.hid (fun W (k9 : Kp wr W) => (hr.keep k9).c2 (rtop l k) htl)
      have hs := HST.out k
      by_cases hc : epo l (rtop l k) < epo l k
      · rw [if_pos hc] at hs
        have HS := Lib.hid hs
        have hcd : decide (epo l (rtop l k) < epo l k) = true := by simpa using hc
        clear hs
        generalize rtop l k = t at *
        go_wp2_with fail
        have hInh := fun (x v : Value) => (⟨fun h => h _ ((Kp.refl wr).drew), fun h _ _ => h⟩ : (∀ Wz9, (fun W => Kp wr W) Wz9 → x = v) ↔ x = v)
        dsimp only at hInh
        refine wp_region_quietC (C := fun W => Kp wr W) (by kernel_rfl) (by kernel_rfl) ((Kp.refl wr).drew) ?_
        repeat (first | go_big_quiet_step ((intro hW; first | fail | (with_reducible rfl) | (obtain ⟨c0, c1, c2, c3, c4, c5⟩ := HC.out _ hW; obtain ⟨e0, e1⟩ := HE.out _ hW; obtain ⟨e2, e3⟩ := HE2.out _ hW; (try go_simp); first | done | with_reducible rfl | exact ⟨rfl, rfl⟩))) | quiet_step ((intro hW; first | fail | (with_reducible rfl) | (obtain ⟨c0, c1, c2, c3, c4, c5⟩ := HC.out _ hW; obtain ⟨e0, e1⟩ := HE.out _ hW; obtain ⟨e2, e3⟩ := HE2.out _ hW; (try go_simp); first | done | with_reducible rfl | exact ⟨rfl, rfl⟩))))
        refine wpQuiet_nil ?_
        intro wq hwq
        clear hInh
        go_wp2_with fail
        go_roundw
        case rel => exact ⟨k + 1, by omega, by go_num, by rw [HS.out], hKr.trans hwq⟩
        case measure => simp [intOf]; omega
      · rw [if_neg hc] at hs
        have HS := Lib.hid hs
        have hcd : decide (epo l (rtop l k) < epo l k) = false := by simpa using hc
        clear hs
        generalize rtop l k = t at *
        go_wp2_with fail
        have hInh := fun (x v : Value) => (⟨fun h => h _ ((Kp.refl wr).drew), fun h _ _ => h⟩ : (∀ Wz9, (fun W => Kp wr W) Wz9 → x = v) ↔ x = v)
        dsimp only at hInh
        refine wp_region_quietC (C := fun W => Kp wr W) (by kernel_rfl) (by kernel_rfl) ((Kp.refl wr).drew) ?_
        repeat (first | go_big_quiet_step ((intro hW; first | fail | (with_reducible rfl) | (obtain ⟨c0, c1, c2, c3, c4, c5⟩ := HC.out _ hW; obtain ⟨e0, e1⟩ := HE.out _ hW; obtain ⟨e2, e3⟩ := HE2.out _ hW; (try go_simp); first | done | with_reducible rfl | exact ⟨rfl, rfl⟩))) | quiet_step ((intro hW; first | fail | (with_reducible rfl) | (obtain ⟨c0, c1, c2, c3, c4, c5⟩ := HC.out _ hW; obtain ⟨e0, e1⟩ := HE.out _ hW; obtain ⟨e2, e3⟩ := HE2.out _ hW; (try go_simp); first | done | with_reducible rfl | exact ⟨rfl, rfl⟩))))
        refine wpQuiet_nil ?_
        intro wq hwq
        clear hInh
        go_wp2_with fail
        go_roundw
        case rel => exact ⟨k + 1, by omega, by go_num, by rw [HS.out], hKr.trans hwq⟩
        case measure => simp [intOf]; omega
    · obtain rfl : k = l.length := by omega
      obtain ⟨e0, e1⟩ := hr.c2 (rtop l l.length) htl
      have hep := HEP.out
      have h0 := h00 (rtop l l.length)
      have h1 := h10 (rtop l l.length)
      generalize rtop l l.length = t at *
      rw [hep] at e0 h0 h1
      clear hep HEP h00 h10
      generalize (nwst l l.length).2 = z at *
      have hw1 : IntKind.u32.wrap (z + 1) = z + 1 := by simp [IntKind.wrap, IntKind.bits, IntKind.signed]; omega
      have hz := HZ.out
      rcases hz with hz | ⟨hz, hz2⟩
      · rw [hz] at HF
        clear HZ hz
        go_wp2_with fail
        refine (HF.out _ hKr).mono ?_
        rintro e w2 ⟨rfl, hk2⟩
        go_wp2_with fail
        go_ret3
        exact ⟨rfl, hKr.trans hk2⟩
      · clear HZ
        have hb : ((frees l l.length : Int) == 0) = false := by simp; omega
        generalize frees l l.length = f at *
        go_wp2_with fail
        refine (HF.out _ hKr).mono ?_
        rintro e w2 ⟨rfl, hk2⟩
        go_wp2_with fail
        go_ret3
        exact ⟨rfl, hKr.trans hk2⟩
end Go.Proofs.YtnhogmheedeeiaaGreat
/- The contracts of the reference's account: Open, where it opens. -/
namespace Go.Proofs.YtnhogmheedeeiaaGreat
open Go.RowKit
set_option linter.unusedVariables false
set_option maxRecDepth 20000

theorem rtop_next (l : List (Int × Int)) (h0 : ∀ k, 0 ≤ epo l k) (hl : 0 < l.length) : ((nwst l l.length).2 = 0 → ((l.length : Int) - 1 + 1) % (l.length : Int) = (nth l 1 : Nat)) ∧ ((nwst l l.length).2 ≠ 0 → (((rtop l l.length : Nat) : Int) + 1) % (l.length : Int) = (nth l 1 : Nat)) := by
  have h1 := nth_cast l hl 1
  rcases nwst_is l l.length with ⟨h2, h3⟩ | ⟨m, hm, h2, h3, h4⟩
  · refine ⟨fun _ => ?_, fun hx => absurd h3 hx⟩
    rw [h1, h2]
    rw [show (l.length : Int) - 1 + 1 = l.length by omega, show (-1 + ((1 : Nat) : Int)) = 0 by rfl, Int.emod_self, Int.zero_emod]
  · refine ⟨fun hx => by omega, fun _ => ?_⟩
    rw [h1, h2]
    unfold rtop
    rw [h2]
    rfl

set_option maxRecDepth 20000 in
set_option maxHeartbeats 3200000 in
theorem ropen_yes (W0 : World) (g b u : Nat) (p s : Int) (l : List (Int × Int)) (o : Int) (h : RcAt W0 g b u p s l o) (ok : ChOk p s l o) (hf : 0 < frees l l.length) (ht : (nwst l l.length).2 < 2147483647)
    (j : Nat) (hj : 1 ≤ j) (hj2 : j ≤ l.length) (hn : ∀ i, 1 ≤ i → i < j → epo l (nth l i) ≠ 0) (hz : epo l (nth l j) = 0) :
    Calls Tryz.prog 51 #[.pointer (some ⟨g, 0, none⟩)] W0 fun e w' => e = .returned (.tuple #[.int .i64 (nth l j : Nat), .int .u32 ((nwst l l.length).2 + 1), .bool true]) ∧ RcAt w' g b u p s (l.set (nth l j) ((nwst l l.length).2 + 1, 0)) (nth l j : Nat) ∧ Mv [g, b, u] W0 w' := by
  have hlen := ok.len
  have h00 := ok.ep0
  have HST := Lib.hid (rtop_step l h00)
  have HEP := Lib.hid (rtop_ep l h00 l.length (by omega))
  have HLT := Lib.hid (fun k (hk : k ≤ l.length) => rtop_lt l k l.length hk (by omega))
  have HF := Lib.hid (fun W (k : Kp W0 W) => rfree_any W g b u p s l o (h.keep k) (by omega))
  have HTN := Lib.hid (rtop_next l h00 (by omega))
  have HNS := Lib.hid (fun i => nth_step l (by omega) i)
  have HNL := Lib.hid (fun i => nth_lt l (by omega) i)
  have HIX := Lib.hid (fun i => idx_nth l i)
  have HN := Lib.hid hn
  have HZ := Lib.hid hz
  have n1 := h.ge
  have n2 := h.gu
  have n3 := h.eu
  have n4 := Ne.symm h.ge
  have n5 := Ne.symm h.gu
  have n6 := Ne.symm h.eu
  clear hz hn
  obtain ⟨c0, c1, c2, c3, c4, c5⟩ := h.c6
  go_enter Tryz.func51, Tryz.ntmps51
  go_wp2_with fail
  go_loopw [5, 6] (fun a i wr => ∃ k : Nat, k ≤ l.length ∧ i = .int .i64 k ∧ a = .int .i64 (rtop l k : Nat) ∧ Kp W0 wr) (fun _ i _ => l.length - (intOf i).toNat)
  case atStart => exact ⟨0, by omega, rfl, rfl, Kp.refl W0⟩
  case round =>
    obtain ⟨k, hk, rfl, rfl, hKr⟩ := hrel
    clear c0 c1 c2 c3 c4 c5
    have hr := h.keep hKr
    obtain ⟨c0, c1, c2, c3, c4, c5⟩ := hr.c6
    have htl := HLT.out k hk
    have htl2 : ((rtop l k : Nat) : Int) < (l.length : Int) := by omega
    by_cases hlt : k < l.length
    · have hlt2 : (k : Int) < (l.length : Int) := by omega
      have HC := Lib.hid (fun W (k9 : Kp wr W) => (hr.keep k9).c6)
      have HE := Lib.hid (fun W (k9 : Kp wr W) => (hr.keep k9).c2 k hlt)
      have HE2 := Lib.hid (fun W (k9 : Kp wr W) => (hr.keep k9).c2 (rtop l k) htl)
      have hs := HST.out k
      by_cases hc : epo l (rtop l k) < epo l k
      · rw [if_pos hc] at hs
        have HS := Lib.hid hs
        have hcd : decide (epo l (rtop l k) < epo l k) = true := by simpa using hc
        clear hs
        generalize rtop l k = t at *
        go_wp2_with fail
        have hInh := fun (x v : Value) => (⟨fun h => h _ ((Kp.refl wr).drew), fun h _ _ => h⟩ : (∀ Wz9, (fun W => Kp wr W) Wz9 → x = v) ↔ x = v)
        dsimp only at hInh
        refine wp_region_quietC (C := fun W => Kp wr W) (by kernel_rfl) (by kernel_rfl) ((Kp.refl wr).drew) ?_
        repeat (first | go_big_quiet_step ((intro hW; first | fail | (with_reducible rfl) | (obtain ⟨c0, c1, c2, c3, c4, c5⟩ := HC.out _ hW; obtain ⟨e0, e1⟩ := HE.out _ hW; obtain ⟨e2, e3⟩ := HE2.out _ hW; (try go_simp); first | done | with_reducible rfl | exact ⟨rfl, rfl⟩))) | quiet_step ((intro hW; first | fail | (with_reducible rfl) | (obtain ⟨c0, c1, c2, c3, c4, c5⟩ := HC.out _ hW; obtain ⟨e0, e1⟩ := HE.out _ hW; obtain ⟨e2, e3⟩ := HE2.out _ hW; (try go_simp); first | done | with_reducible rfl | exact ⟨rfl, rfl⟩))))
        refine wpQuiet_nil ?_
        intro wq hwq
        clear hInh
        go_wp2_with fail
        go_roundw
        case rel => exact ⟨k + 1, by omega, by go_num, by rw [HS.out], hKr.trans hwq⟩
        case measure => simp [intOf]; omega
      · rw [if_neg hc] at hs
        have HS := Lib.hid hs
        have hcd : decide (epo l (rtop l k) < epo l k) = false := by simpa using hc
        clear hs
        generalize rtop l k = t at *
        go_wp2_with fail
        have hInh := fun (x v : Value) => (⟨fun h => h _ ((Kp.refl wr).drew), fun h _ _ => h⟩ : (∀ Wz9, (fun W => Kp wr W) Wz9 → x = v) ↔ x = v)
        dsimp only at hInh
        refine wp_region_quietC (C := fun W => Kp wr W) (by kernel_rfl) (by kernel_rfl) ((Kp.refl wr).drew) ?_
        repeat (first | go_big_quiet_step ((intro hW; first | fail | (with_reducible rfl) | (obtain ⟨c0, c1, c2, c3, c4, c5⟩ := HC.out _ hW; obtain ⟨e0, e1⟩ := HE.out _ hW; obtain ⟨e2, e3⟩ := HE2.out _ hW; (try go_simp); first | done | with_reducible rfl | exact ⟨rfl, rfl⟩))) | quiet_step ((intro hW; first | fail | (with_reducible rfl) | (obtain ⟨c0, c1, c2, c3, c4, c5⟩ := HC.out _ hW; obtain ⟨e0, e1⟩ := HE.out _ hW; obtain ⟨e2, e3⟩ := HE2.out _ hW; (try go_simp); first | done | with_reducible rfl | exact ⟨rfl, rfl⟩))))
        refine wpQuiet_nil ?_
        intro wq hwq
        clear hInh
        go_wp2_with fail
        go_roundw
        case rel => exact ⟨k + 1, by omega, by go_num, by rw [HS.out], hKr.trans hwq⟩
        case measure => simp [intOf]; omega
    · obtain rfl : k = l.length := by omega
      obtain ⟨e0, e1⟩ := hr.c2 (rtop l l.length) htl
      have hep := HEP.out
      have htn := HTN.out
      have h0 := h00 (rtop l l.length)
      rw [hep] at e0 h0
      clear hep h00
      have HZ2 := Lib.hid (rfl : (nwst l l.length).2 = (nwst l l.length).2)
      have hz1 : 0 ≤ (nwst l l.length).2 ∧ (nwst l l.length).2 < 2147483647 := ⟨h0, ht⟩
      have hw1 : IntKind.u32.wrap ((nwst l l.length).2 + 1) = (nwst l l.length).2 + 1 := by simp [IntKind.wrap, IntKind.bits, IntKind.signed]; omega
      have hb : ((frees l l.length : Int) == 0) = false := by simp; omega
      have hl0 : ((l.length : Int) == 0) = false := beq_eq_false_iff_ne.2 (by omega)
      generalize hzz : (nwst l l.length).2 = z at *
      generalize hff : frees l l.length = f at *
      generalize htt : rtop l l.length = t at *
      have HZZ := Lib.hid hzz
      clear hzz hff htt HZ2
      by_cases hz0 : z = 0
      all_goals
        first
          | (have hq := htn.1 hz0; have hzb : (z == 0) = true := by simp [hz0])
          | (have hq := htn.2 hz0; have hzb : (z == 0) = false := by simp [hz0])
        have HQ := Lib.hid hq
        clear hq htn hz0
        go_wp2_with fail
        refine (HF.out _ hKr).mono ?_
        rintro e w2 ⟨rfl, hk2⟩
        have hr2 := hr.keep hk2
        clear c0 c1 c2 c3 c4 c5 e0 e1
        obtain ⟨c0, c1, c2, c3, c4, c5⟩ := hr2.c6
        obtain ⟨e0, e1⟩ := hr2.c2 t htl
        rw [HEP.out] at e0
        go_wp2_with fail
        go_loop [8] (fun a => ∃ k : Nat, 1 ≤ k ∧ k ≤ j ∧ a = .int .i64 (nth l k : Nat)) (fun a => j - idx (nwst l l.length).1 l.length (intOf a))
        case atStart =>
          refine ⟨1, by omega, by omega, ?_⟩
          rw [← HQ.out]
          try rw [show (l.length : Int) - 1 + 1 = l.length by omega, Int.emod_self]
        case round =>
          obtain ⟨k, hk1, hk2', rfl⟩ := hrel
          have hnl := HNL.out k
          have hnl2 : ((nth l k : Nat) : Int) < (l.length : Int) := by omega
          have hns := HNS.out k
          have hix := HIX.out k hk1 (by omega)
          obtain ⟨d0, d1⟩ := hr2.c2 (nth l k) hnl
          by_cases hkj : k < j
          · have hne := HN.out k hk1 hkj
            have hix2 := HIX.out (k + 1) (by omega) (by omega)
            have hnb : (epo l (nth l k) != 0) = true := by simpa using hne
            have HX := Lib.hid hix
            have HX2 := Lib.hid hix2
            have HNSk := Lib.hid hns
            clear hne hix hix2 hns
            go_wp2_with fail
            case roundEnd =>
              refine ⟨⟨k + 1, by omega, by omega, by rw [HNSk.out]⟩, ?_⟩
              rw [HNSk.out]
              show j - idx (nwst l l.length).1 l.length (nth l (k + 1) : Nat) < j - idx (nwst l l.length).1 l.length (nth l k : Nat)
              rw [HX.out, HX2.out]
              omega
          · obtain rfl : k = j := by omega
            rw [HZ.out] at d0
            obtain ⟨f0, f1⟩ := hr2.fr (nth l k)
            have f5 := hr2.box.free 5
            have hK2 := hKr.trans hk2
            clear hns hix
            go_wp2_with fail
            go_ret3
            rw [HZZ.out]
            exact ⟨rfl, (hr2.put (nth l k) (z + 1) 0).opn (nth l k : Nat), (((Mv.of hK2).set (by simp) _).set (by simp) _).set (by simp) _⟩
end Go.Proofs.YtnhogmheedeeiaaGreat
/- Both accounts, call by call. -/
namespace Go.Proofs.YtnhogmheedeeiaaGreat
open Go.RowKit
set_option linter.unusedVariables false
set_option maxRecDepth 20000

theorem ChAt.mv {W W' : World} {S : List Nat} {g q : Nat} {p s : Int} {l : List (Int × Int)} {o : Int} (h : ChAt W g q p s l o) (k : Mv S W W') (hg : g ∉ S) (hq : q ∉ S) : ChAt W' g q p s l o :=
  ⟨h.box.mv k hg, h.row.mv k hq, h.ne⟩
set_option maxHeartbeats 400000 in
theorem cused_in (W : World) (g q : Nat) (p s : Int) (l : List (Int × Int)) (o : Int) (h : ChAt W g q p s l o) (hl : l.length ≤ 100) (i : Nat) (hi : i < l.length) :
    Calls Tryz.prog 38 #[.pointer (some ⟨g, 0, none⟩), .int .i64 i] W fun e w' => e = .returned (.int .i64 (uso l i)) ∧ Kp W w' := by
  obtain ⟨c0, c1, c2, c3, c4⟩ := h.c5
  obtain ⟨e0, e1⟩ := h.eu i hi
  have hi2 : (i : Int) < (l.length : Int) := by omega
  go_enter Tryz.func38, Tryz.ntmps38
  go_wp2_with fail
  refine (chas_yes W g q p s l o h _ (by omega) (by omega)).mono ?_
  rintro e w' ⟨rfl, rfl⟩
  go_wp2_with fail
  go_ret
  exact ⟨rfl, Kp.refl _⟩
theorem cepochK (W : World) (g q : Nat) (p s : Int) (l : List (Int × Int)) (o : Int) (h : ChAt W g q p s l o) (hl : l.length ≤ 100) (i : Nat) (hi : i < l.length) :
    Calls Tryz.prog 37 #[.pointer (some ⟨g, 0, none⟩), .int .i64 i] W fun e w' => e = .returned (.int .u32 (epo l i)) ∧ Kp W w' :=
  (cepoch_in W g q p s l o h hl i hi).mono fun e w' ⟨h1, h2⟩ => ⟨by rw [h1, ep_in], h2 ▸ Kp.refl _⟩
set_option maxHeartbeats 400000 in
theorem cused_out (W : World) (g q : Nat) (p s : Int) (l : List (Int × Int)) (o : Int) (h : ChAt W g q p s l o) (i : Int) (hi : i < 0 ∨ (l.length : Int) ≤ i) :
    Calls Tryz.prog 38 #[.pointer (some ⟨g, 0, none⟩), .int .i64 i] W fun e w' => e = .returned (.int .i64 0) ∧ Kp W w' := by
  go_enter Tryz.func38, Tryz.ntmps38
  go_wp2_with fail
  refine (chas_no W g q p s l o h i hi).mono ?_
  rintro e w' ⟨rfl, rfl⟩
  go_wp2_with fail
  go_ret
  exact ⟨rfl, Kp.refl _⟩
set_option maxHeartbeats 400000 in
theorem cepoch_out (W : World) (g q : Nat) (p s : Int) (l : List (Int × Int)) (o : Int) (h : ChAt W g q p s l o) (i : Int) (hi : i < 0 ∨ (l.length : Int) ≤ i) :
    Calls Tryz.prog 37 #[.pointer (some ⟨g, 0, none⟩), .int .i64 i] W fun e w' => e = .returned (.int .u32 0) ∧ Kp W w' := by
  go_enter Tryz.func37, Tryz.ntmps37
  go_wp2_with fail
  refine (chas_no W g q p s l o h i hi).mono ?_
  rintro e w' ⟨rfl, rfl⟩
  go_wp2_with fail
  go_ret
  exact ⟨rfl, Kp.refl _⟩
set_option maxHeartbeats 400000 in
theorem cgeom_any (W : World) (g q : Nat) (p s : Int) (l : List (Int × Int)) (o : Int) (h : ChAt W g q p s l o) :
    Calls Tryz.prog 46 #[.pointer (some ⟨g, 0, none⟩)] W fun e w' => e = .returned (geo p s (l.length : Nat)) ∧ Kp W w' := by
  have c0 := fun O => ((h.keep (Kp.one W O)).c5).1
  have c1 := fun O => ((h.keep (Kp.one W O)).c5).2.1
  have c2 := fun O => ((h.keep (Kp.one W O)).c5).2.2.1
  go_enter Tryz.func46, Tryz.ntmps46
  go_wp2_with fail
  refine bodyPost_ret (v := geo p s (l.length : Nat)) (by simp [results, Tryz.results46, go_sem]) rfl ⟨rfl, ?_⟩
  (repeat (first | with_reducible exact Kp.refl _ | with_reducible assumption | with_reducible refine Kp.alloc ?_ _ | with_reducible refine Kp.drew ?_ | with_reducible refine Kp.drewN ?_ _ | exact Kp.refl _ | assumption | refine Kp.alloc ?_ _ | refine Kp.drew ?_ | refine Kp.drewN ?_ _ | refine Kp.trans ?_ (by assumption)))

theorem ok_put {p s : Int} {l : List (Int × Int)} {o : Int} (ok : ChOk p s l o) (k : Nat) (hk : k < l.length) (a b : Int) (a0 : 0 ≤ a) (a1 : a ≤ 2147483647) (b0 : 0 ≤ b) (b1 : b ≤ s - 1) (o' : Int) (ho : (o' = o ∧ (o ≠ k ∨ 0 < a)) ∨ (o' = k ∧ 0 < a)) : ChOk p s (l.set k (a, b)) o' := by
  refine ⟨by rw [List.length_set]; exact ok.right, fun j => ?_, fun j => ?_, fun j => ?_, fun j => ?_, ?_⟩
  · rw [epo_set _ _ _ _ hk]; split; exact a0; exact ok.ep0 j
  · rw [epo_set _ _ _ _ hk]; split; exact a1; exact ok.ep1 j
  · rw [uso_set _ _ _ _ hk]; split; exact b0; exact ok.us0 j
  · rw [uso_set _ _ _ _ hk]; split; exact b1; exact ok.us1 j
  · rw [List.length_set]
    rcases ho with ⟨rfl, h1⟩ | ⟨rfl, h1⟩
    · rcases ok.op with h2 | ⟨m, hm, rfl, h3⟩
      · exact Or.inl h2
      · refine Or.inr ⟨m, hm, rfl, ?_⟩
        rw [epo_set _ _ _ _ hk]
        split
        · subst_vars; rcases h1 with h1 | h1
          · exact absurd rfl h1
          · exact h1
        · exact h3
    · exact Or.inr ⟨k, hk, rfl, by rw [epo_set _ _ _ _ hk, if_pos rfl]; exact h1⟩

/-- A call of both accounts: one answer, one account behind it. -/
def Both (f f' : Nat) (args : List Value) (p s : Int) (l : List (Int × Int)) (o : Int) (v : Value) (l' : List (Int × Int)) (o' : Int) : Prop :=
  l'.length = l.length ∧ ChOk p s l' o' ∧
  (∀ (W : World) (g q : Nat), ChAt W g q p s l o → Calls Tryz.prog f (Value.pointer (some ⟨g, 0, none⟩) :: args).toArray W fun e w' => e = .returned v ∧ ChAt w' g q p s l' o' ∧ Mv [g, q] W w') ∧
  (∀ (W : World) (g b u : Nat), RcAt W g b u p s l o → Calls Tryz.prog f' (Value.pointer (some ⟨g, 0, none⟩) :: args).toArray W fun e w' => e = .returned v ∧ RcAt w' g b u p s l' o' ∧ Mv [g, b, u] W w')
theorem both_same {f f' : Nat} {args : List Value} {p s : Int} {l : List (Int × Int)} {o : Int} {v : Value} (ok : ChOk p s l o)
    (h1 : ∀ (W : World) (g q : Nat), ChAt W g q p s l o → Calls Tryz.prog f (Value.pointer (some ⟨g, 0, none⟩) :: args).toArray W fun e w' => e = .returned v ∧ Kp W w')
    (h2 : ∀ (W : World) (g b u : Nat), RcAt W g b u p s l o → Calls Tryz.prog f' (Value.pointer (some ⟨g, 0, none⟩) :: args).toArray W fun e w' => e = .returned v ∧ Kp W w') : Both f f' args p s l o v l o :=
  ⟨rfl, ok, fun W g q h => (h1 W g q h).mono fun e w' ⟨a, b⟩ => ⟨a, h.keep b, Mv.of b⟩, fun W g b u h => (h2 W g b u h).mono fun e w' ⟨a, b⟩ => ⟨a, h.keep b, Mv.of b⟩⟩

theorem both_open {p s : Int} {l : List (Int × Int)} {o : Int} (ok : ChOk p s l o) : ∃ (a e : Int) (d : Bool), ∃ l' o', Both 75 51 [] p s l o (.tuple #[.int .i64 a, .int .u32 e, .bool d]) l' o' := by
  have hl := ok.len
  by_cases hz : frees l l.length = 0 ∨ (0 < frees l l.length ∧ 2147483647 ≤ (nwst l l.length).2)
  · exact ⟨0, 0, false, l, o, both_same ok (fun W g q h => copen_no W g q p s l o h (by omega) ok.ep0 hz) (fun W g b u h => ropen_no W g b u p s l o h ok hz)⟩
  · obtain ⟨j, h1, h2, h3, h4⟩ := first_ex l (by omega)
    have hk := nth_lt l (by omega) j
    have ht := nwst_top l l.length
    obtain ⟨r1, r2, r3, r4, r5, r6⟩ := ok.right
    refine ⟨(nth l j : Nat), (nwst l l.length).2 + 1, true, l.set (nth l j) ((nwst l l.length).2 + 1, 0), (nth l j : Nat), List.length_set, ok_put ok (nth l j) hk ((nwst l l.length).2 + 1) 0 (by omega) (by omega) (by omega) (by omega) (nth l j : Nat) (Or.inr ⟨rfl, by omega⟩), fun W g q h => ?_, fun W g b u h => ?_⟩
    · exact copen_yes W g q p s l o h (by omega) (by omega) ok.ep0 (by omega) (by omega) j h1 h2 h3 h4
    · exact ropen_yes W g b u p s l o h ok (by omega) (by omega) j h1 h2 h3 h4
theorem both_take {p s : Int} {l : List (Int × Int)} {o : Int} (ok : ChOk p s l o) : ∃ (a : Int) (d : Bool), ∃ l', Both 48 53 [] p s l o (.tuple #[.int .i64 a, .bool d]) l' o := by
  by_cases hz : leftF s l o ≤ 0
  · exact ⟨0, false, l, both_same ok (fun W g q h => ctake_no W g q p s l o h ok hz) (fun W g b u h => rtake_no W g b u p s l o h ok hz)⟩
  · rcases ok.op with rfl | ⟨k, hk, rfl, he⟩
    · exact absurd (Int.le_refl 0) hz
    · have hu : uso l k < s - 1 := by unfold leftF at hz; rw [if_neg (by omega)] at hz; simp at hz; omega
      have := ok.ep1 k
      have := ok.us0 k
      refine ⟨(k : Int) * s + (uso l k + 1), true, l.set k (epo l k, uso l k + 1), List.length_set, ok_put ok k hk (epo l k) (uso l k + 1) (by omega) (by omega) (by omega) (by omega) (k : Int) (Or.inr ⟨rfl, he⟩), fun W g q h => ?_, fun W g b u h => ?_⟩
      · exact ctake_yes W g q p s l k h ok hk hu
      · exact rtake_yes W g b u p s l k h ok hk hu
theorem both_erase {p s : Int} {l : List (Int × Int)} {o : Int} (ok : ChOk p s l o) (i : Int) : ∃ c l', Both 39 44 [.int .i64 i] p s l o (.int .i64 c) l' o := by
  have hl := ok.len
  by_cases hbad : i < 0 ∨ (l.length : Int) ≤ i
  · exact ⟨1, l, both_same ok (fun W g q h => cerase_arg W g q p s l o h i hbad) (fun W g b u h => rerase_arg W g b u p s l o h i hbad)⟩
  · obtain ⟨k, rfl⟩ : ∃ k : Nat, i = k := ⟨i.toNat, by omega⟩
    have hk : k < l.length := by omega
    by_cases hz : epo l k = 0 ∨ (epo l k ≠ 0 ∧ o = k)
    · exact ⟨7, l, both_same ok (fun W g q h => cerase_state W g q p s l o h (by omega) k hk hz) (fun W g b u h => rerase_state W g b u p s l o h (by omega) k hk hz)⟩
    · have h0 := ok.ep0 k
      obtain ⟨r1, r2, r3, r4, r5, r6⟩ := ok.right
      refine ⟨0, l.set k (0, 0), List.length_set, ok_put ok k hk 0 0 (by omega) (by omega) (by omega) (by omega) o (Or.inl ⟨rfl, Or.inl (by omega)⟩), fun W g q h => ?_, fun W g b u h => ?_⟩
      · exact cerase_ok W g q p s l o h (by omega) k hk (by omega) (by omega)
      · exact rerase_ok W g b u p s l o h (by omega) k hk (by omega) (by omega)
end Go.Proofs.YtnhogmheedeeiaaGreat
/- The walk of ChartPlays: step, same. -/
namespace Go.Proofs.YtnhogmheedeeiaaGreat
open Go.RowKit
set_option linter.unusedVariables false
set_option maxRecDepth 20000

/-- Both accounts stand in memory. -/
structure Two (W : World) (g q h b u : Nat) (p s : Int) (l : List (Int × Int)) (o : Int) : Prop where
  ch : ChAt W g q p s l o
  rc : RcAt W h b u p s l o
  ok : ChOk p s l o
  d : g ∉ [h, b, u] ∧ q ∉ [h, b, u] ∧ h ∉ [g, q] ∧ b ∉ [g, q] ∧ u ∉ [g, q]
section
variable {W W' : World} {g q h b u : Nat} {p s : Int} {l l' : List (Int × Int)} {o o' : Int}
theorem Two.keep (t : Two W g q h b u p s l o) (k : Kp W W') : Two W' g q h b u p s l o := ⟨t.ch.keep k, t.rc.keep k, t.ok, t.d⟩
theorem sub1 (x : Nat) (hx : x ∈ [g, q]) : x ∈ [g, q, h, b, u] := by simp at hx ⊢; omega
theorem sub2 (x : Nat) (hx : x ∈ [h, b, u]) : x ∈ [g, q, h, b, u] := by simp at hx ⊢; omega
end

/-- What a step leaves. -/
def Steps (W : World) (g q h b u : Nat) (p s : Int) (n : Nat) (e : Ending) (w' : World) : Prop :=
  e = .returned (.bool true) ∧ ∃ l' o', l'.length = n ∧ Two w' g q h b u p s l' o' ∧ Mv [g, q, h, b, u] W w'

end Go.Proofs.YtnhogmheedeeiaaGreat
/- The walk of ChartPlays: same. -/
namespace Go.Proofs.YtnhogmheedeeiaaGreat
open Go.RowKit
set_option linter.unusedVariables false
set_option maxRecDepth 20000

end Go.Proofs.YtnhogmheedeeiaaGreat
/- The reference's account made anew. -/
namespace Go.Proofs.YtnhogmheedeeiaaGreat
open Go.RowKit
set_option linter.unusedVariables false
set_option maxRecDepth 20000

theorem madeq (z : Value) (n : Nat) : madeCells #[z] n = (List.replicate n z).toArray := by
  apply Array.ext
  · simp [madeCells]
  · intro i h1 h2
    simp [madeCells, Nat.mod_one]
theorem info_u32 : (Tryz.prog.info? 29).map (fun i => (i.zero, i.size, i.bytes)) = some (some (.int .u32 0), 1, 4) := by kernel_rfl
theorem info_i64 : (Tryz.prog.info? 3).map (fun i => (i.zero, i.size, i.bytes)) = some (some (.int .i64 0), 1, 8) := by kernel_rfl
theorem make_u32 (n : Nat) (hn : n ≤ 1000) (W : World) : (Instr.makeSlice 79 (.int .i64 (n : Int)) (.int .i64 (n : Int))).run Tryz.prog W =
    .ok (.slice (some ⟨W.heap.size, 0, none⟩) n n) (W.alloc (.cells (eps (List.replicate n (0, 0))).toArray 29)) := by
  have := run_make_row' (P := Tryz.prog) 79 29 (.int .u32 0) 4 Tryz.underlying79 info_u32 rfl .i64 .i64 n (by omega) (by omega) W
  rw [madeq] at this
  simpa [eps] using this
theorem make_i64 (n : Nat) (hn : n ≤ 1000) (W : World) : (Instr.makeSlice 80 (.int .i64 (n : Int)) (.int .i64 (n : Int))).run Tryz.prog W =
    .ok (.slice (some ⟨W.heap.size, 0, none⟩) n n) (W.alloc (.cells (uss (List.replicate n (0, 0))).toArray 3)) := by
  have := run_make_row' (P := Tryz.prog) 80 3 (.int .i64 0) 8 Tryz.underlying80 info_i64 rfl .i64 .i64 n (by omega) (by omega) W
  rw [madeq] at this
  simpa [uss] using this
def RNew (w : World) (p s : Int) (n : Nat) (e : Ending) (w' : World) : Prop :=
  ∃ g b u, e = .returned (.pointer (some ⟨g, 0, none⟩)) ∧ (w.heap.size ≤ g ∧ w.heap.size ≤ b ∧ w.heap.size ≤ u) ∧ RcAt w' g b u p s (List.replicate n (0, 0)) (-1) ∧ Kp w w'
set_option maxHeartbeats 1600000 in
theorem rnew_any (p s : Int) (n : Nat) (hR : RightG p s n) (w : World) :
    Calls Tryz.prog 30 #[geo p s n] w (RNew w p s n) := by
  obtain ⟨r1, r2, r3, r4, r5, r6⟩ := id hR
  have hm1 := make_u32 n (by omega)
  have hm2 := make_i64 n (by omega)
  go_enter Tryz.func30, Tryz.ntmps30
  go_wp2_with fail
  go_region
  all_goals
    go_wp2_with fail
    go_ret
    first
    | exact ⟨w.heap.size + 1 + 1 + 1, w.heap.size + 1, w.heap.size + 1 + 1, rfl, ⟨by omega, by omega, by omega⟩, ⟨by rw [List.length_replicate]; exact (Bk.atc _ _ _ _ (by simp)).drew, (((Bk.atc _ _ _ _ (by simp)).alloc _).alloc _).drew, ((Bk.atc _ _ _ _ (by simp)).alloc _).drew, by omega, by omega, by omega⟩, by (repeat (first | with_reducible exact Kp.refl _ | with_reducible assumption | with_reducible refine Kp.alloc ?_ _ | with_reducible refine Kp.drew ?_ | with_reducible refine Kp.drewN ?_ _ | exact Kp.refl _ | assumption | refine Kp.alloc ?_ _ | refine Kp.drew ?_ | refine Kp.drewN ?_ _ | refine Kp.trans ?_ (by assumption)))⟩
    | exact ⟨w.heap.size + 1 + 1 + 1, w.heap.size + 1 + 1, w.heap.size + 1, rfl, ⟨by omega, by omega, by omega⟩, ⟨by rw [List.length_replicate]; exact (Bk.atc _ _ _ _ (by simp)).drew, ((Bk.atc _ _ _ _ (by simp)).alloc _).drew, (((Bk.atc _ _ _ _ (by simp)).alloc _).alloc _).drew, by omega, by omega, by omega⟩, by (repeat (first | with_reducible exact Kp.refl _ | with_reducible assumption | with_reducible refine Kp.alloc ?_ _ | with_reducible refine Kp.drew ?_ | with_reducible refine Kp.drewN ?_ _ | exact Kp.refl _ | assumption | refine Kp.alloc ?_ _ | refine Kp.drew ?_ | refine Kp.drewN ?_ _ | refine Kp.trans ?_ (by assumption)))⟩
end Go.Proofs.YtnhogmheedeeiaaGreat
