/- Merged texts: Chart, Chart2, Chart3, Chart4, Chart5, Chart6, Chart7, Chart8, LawChart, Chart9, RChart, RChart2, RChart3, RChart4, RChart5, RChart6, RChart7, RChart8, LawChart6, LawChart7, RNew. -/
import Derived.Test.YtecelmhiffcaeaaGA
import Derived.Laws.MakeOwn
import Derived.OpenShut
import Derived.Deep.DeepCutAuto
import Derived.Deep.CutBlock
import Derived.Deep.OwnRows
set_option linter.unusedSimpArgs false
set_option linter.unusedVariables false
/- Accounts in memory: what they are, how they are kept. -/
namespace Go.Proofs.Ytecelmhiffcaeaa
open Go.RowKit
set_option linter.unusedVariables false
set_option maxRecDepth 20000

/-- The regions' cells: epoch and used, region by region. -/
def flat (l : List (Int × Int)) : List Value := l.flatMap fun x => [.int .u32 x.1, .int .i64 x.2]
theorem flat_cons (x : Int × Int) (l : List (Int × Int)) : flat (x :: l) = .int .u32 x.1 :: .int .i64 x.2 :: flat l := rfl
theorem flat_len (l : List (Int × Int)) : (flat l).length = 2 * l.length := by
  induction l with
  | nil => rfl
  | cons x l ih => rw [flat_cons]; simp [ih]; omega
theorem flat_get0 (l : List (Int × Int)) : ∀ i : Nat, (flat l)[2 * i]? = (l[i]?).map fun x => .int .u32 x.1 := by
  induction l with
  | nil => intro i; simp [flat]
  | cons x l ih =>
    intro i
    rw [flat_cons]
    cases i with
    | zero => rfl
    | succ i => rw [show 2 * (i + 1) = (2 * i + 1) + 1 by omega]; simp [ih i]
theorem flat_get1 (l : List (Int × Int)) : ∀ i : Nat, (flat l)[2 * i + 1]? = (l[i]?).map fun x => .int .i64 x.2 := by
  induction l with
  | nil => intro i; simp [flat]
  | cons x l ih =>
    intro i
    rw [flat_cons]
    cases i with
    | zero => rfl
    | succ i => rw [show 2 * (i + 1) + 1 = (2 * i + 1) + 1 + 1 by omega]; simp [ih i]
theorem flat_set (l : List (Int × Int)) : ∀ (i : Nat) (a b : Int), ((flat l).set (2 * i) (.int .u32 a)).set (2 * i + 1) (.int .i64 b) = flat (l.set i (a, b)) := by
  induction l with
  | nil => intro i a b; simp [flat]
  | cons x l ih =>
    intro i a b
    cases i with
    | zero => rfl
    | succ i =>
      rw [flat_cons, show 2 * (i + 1) + 1 = (2 * i + 1) + 1 + 1 by omega, show 2 * (i + 1) = (2 * i) + 1 + 1 by omega]
      simp [ih i a b, flat_cons]
theorem flat_set1 (l : List (Int × Int)) : ∀ (i : Nat) (b : Int), i < l.length → (flat l).set (2 * i + 1) (.int .i64 b) = flat (l.set i ((l.getD i (0, 0)).1, b)) := by
  induction l with
  | nil => intro i b h; simp at h
  | cons x l ih =>
    intro i b h
    cases i with
    | zero => rfl
    | succ i =>
      rw [flat_cons, show 2 * (i + 1) + 1 = (2 * i + 1) + 1 + 1 by omega]
      simp [ih i b (by simpa using h), flat_cons]
theorem flat_zero (n : Nat) : madeCells #[.int .u32 0, .int .i64 0] (n * 2) = (flat (List.replicate n (0, 0))).toArray := by
  apply Array.ext_getElem?
  intro i
  rw [show (flat (List.replicate n (0, 0))).toArray[i]? = (flat (List.replicate n (0, 0)))[i]? from by simp]
  obtain ⟨j, hj | hj⟩ : ∃ j, i = 2 * j ∨ i = 2 * j + 1 := ⟨i / 2, by omega⟩
  · subst hj
    rw [flat_get0]
    by_cases h : j < n
    · simp [madeCells, h, show 2 * j < n * 2 by omega]
    · simp [madeCells, h, show ¬ 2 * j < n * 2 by omega]
  · subst hj
    rw [flat_get1]
    by_cases h : j < n
    · simp [madeCells, h, show 2 * j + 1 < n * 2 by omega, show (2 * j + 1) % 2 = 1 by omega]
    · simp [madeCells, h, show ¬ 2 * j + 1 < n * 2 by omega]

/-- An account in memory: its struct is block g, its regions are block q. -/
structure ChAt (W : World) (g q : Nat) (p s : Int) (l : List (Int × Int)) (o : Int) : Prop where
  box : Bk W g 94 [.int .i64 p, .int .i64 s, .int .i64 (l.length : Nat), .slice (some ⟨q, 0, none⟩) l.length l.length, .int .i64 o]
  row : Bk W q 124 (flat l)
  ne : g ≠ q
theorem ChAt.keep {W W' : World} {g q : Nat} {p s : Int} {l : List (Int × Int)} {o : Int} (h : ChAt W g q p s l o) (k : Kp W W') : ChAt W' g q p s l o := ⟨h.box.keep k, h.row.keep k, h.ne⟩
theorem ChAt.c5 {W : World} {g q : Nat} {p s : Int} {l : List (Int × Int)} {o : Int} (h : ChAt W g q p s l o) :
    W.cell? ⟨g, 0, none⟩ = some (.int .i64 p) ∧ W.cell? ⟨g, 1, none⟩ = some (.int .i64 s) ∧ W.cell? ⟨g, 2, none⟩ = some (.int .i64 (l.length : Nat)) ∧ W.cell? ⟨g, 3, none⟩ = some (.slice (some ⟨q, 0, none⟩) l.length l.length) ∧ W.cell? ⟨g, 4, none⟩ = some (.int .i64 o) :=
  ⟨h.box.cell 0, h.box.cell 1, h.box.cell 2, h.box.cell 3, h.box.cell 4⟩
theorem ChAt.ep {W : World} {g q : Nat} {p s : Int} {l : List (Int × Int)} {o : Int} (h : ChAt W g q p s l o) (i : Nat) (hi : i < l.length) :
    W.cell? ⟨q, i * 2, none⟩ = some (.int .u32 l[i].1) ∧ W.cell? ⟨q, i * 2 + 1, none⟩ = some (.int .i64 l[i].2) := by
  rw [h.row.cell, h.row.cell, Nat.mul_comm, flat_get0, flat_get1, List.getElem?_eq_getElem hi]; exact ⟨rfl, rfl⟩
theorem ChAt.fr {W : World} {g q : Nat} {p s : Int} {l : List (Int × Int)} {o : Int} (h : ChAt W g q p s l o) (i : Nat) :
    W.frozen? ⟨q, i * 2, none⟩ = false ∧ W.frozen? ⟨q, i * 2 + 1, none⟩ = false := ⟨h.row.free _, h.row.free _⟩
/-- A region's state is another. -/
theorem ChAt.put {W : World} {g q : Nat} {p s : Int} {l : List (Int × Int)} {o : Int} (h : ChAt W g q p s l o) (i : Nat) (a b : Int) :
    ChAt ((W.setCell ⟨q, i * 2, none⟩ (.int .u32 a)).setCell ⟨q, i * 2 + 1, none⟩ (.int .i64 b)) g q p s (l.set i (a, b)) o := by
  refine ⟨?_, ?_, h.ne⟩
  · rw [List.length_set]; exact (h.box.far h.ne _).far h.ne _
  · have := (h.row.put (i * 2) (.int .u32 a)).put (i * 2 + 1) (.int .i64 b)
    rwa [Nat.mul_comm, flat_set, Nat.mul_comm 2] at this
theorem ChAt.put1 {W : World} {g q : Nat} {p s : Int} {l : List (Int × Int)} {o : Int} (h : ChAt W g q p s l o) (i : Nat) (hi : i < l.length) (b : Int) :
    ChAt (W.setCell ⟨q, i * 2 + 1, none⟩ (.int .i64 b)) g q p s (l.set i (l[i].1, b)) o := by
  refine ⟨?_, ?_, h.ne⟩
  · rw [List.length_set]; exact (h.box.far h.ne _)
  · have := h.row.put (i * 2 + 1) (.int .i64 b)
    rw [Nat.mul_comm, flat_set1 _ _ _ hi] at this
    rw [Nat.mul_comm]
    simpa [hi] using this
theorem ChAt.opn {W : World} {g q : Nat} {p s : Int} {l : List (Int × Int)} {o : Int} (h : ChAt W g q p s l o) (k : Int) :
    ChAt (W.setCell ⟨g, 4, none⟩ (.int .i64 k)) g q p s l k :=
  ⟨h.box.put 4 _, h.row.far (Ne.symm h.ne) _, h.ne⟩

theorem info_state : (Try.prog.info? 124).map (fun i => (i.zero, i.size, i.bytes)) = some (some (.agg #[.int .u32 0, .int .i64 0]), 2, 16) := by kernel_rfl
theorem make_states (n : Nat) (hn : n ≤ 100) (W : World) : (Instr.makeSlice 92 (.int .i64 (n : Int)) (.int .i64 (n : Int))).run Try.prog W =
    .ok (.slice (some ⟨W.heap.size, 0, none⟩) n n) (W.alloc (.cells (flat (List.replicate n (0, 0))).toArray 124)) := by
  obtain ⟨i, hi, hzz⟩ := Option.map_eq_some_iff.1 info_state
  simp only [Prod.mk.injEq] at hzz
  obtain ⟨hz, hs, hb⟩ := hzz
  have := run_make (P := Try.prog) W 92 124 i _ Try.underlying92 hi hz .i64 .i64 n n (by omega) (Int.le_refl _) (by rw [hb]; omega) (by omega)
  rw [this, hs]
  simp only [Int.toNat_natCast]
  rw [← flat_zero]
  rfl

set_option maxHeartbeats 400000 in
theorem chas_yes (W : World) (g q : Nat) (p s : Int) (l : List (Int × Int)) (o : Int) (h : ChAt W g q p s l o) (i : Int) (h0 : 0 ≤ i) (hi : i < (l.length : Int)) :
    Calls Try.prog 91 #[.pointer (some ⟨g, 0, none⟩), .int .i64 i] W fun e w' => e = .returned (.bool true) ∧ W = w' := by
  obtain ⟨c0, c1, c2, c3, c4⟩ := h.c5
  have d1 : decide (i < (l.length : Int)) = true := by simpa using hi
  go_enter Try.func91, Try.ntmps91
  go_wp2
  go_ret
  exact ⟨rfl, rfl⟩
set_option maxHeartbeats 400000 in
theorem chas_no (W : World) (g q : Nat) (p s : Int) (l : List (Int × Int)) (o : Int) (h : ChAt W g q p s l o) (i : Int) (hi : i < 0 ∨ (l.length : Int) ≤ i) :
    Calls Try.prog 91 #[.pointer (some ⟨g, 0, none⟩), .int .i64 i] W fun e w' => e = .returned (.bool false) ∧ W = w' := by
  obtain ⟨c0, c1, c2, c3, c4⟩ := h.c5
  have hi' : i < 0 ∨ (0 ≤ i ∧ (l.length : Int) ≤ i) := by omega
  rcases hi' with h1 | ⟨h1, h2⟩
  · go_enter Try.func91, Try.ntmps91
    go_wp2
    go_ret
    exact ⟨rfl, rfl⟩
  · have d1 : decide (i < (l.length : Int)) = false := by simp; omega
    go_enter Try.func91, Try.ntmps91
    go_wp2
    go_ret
    exact ⟨rfl, rfl⟩
end Go.Proofs.Ytecelmhiffcaeaa
/- The contracts of package chart: what reads. -/
namespace Go.Proofs.Ytecelmhiffcaeaa
open Go.RowKit
set_option linter.unusedVariables false
set_option maxRecDepth 20000

/-- The epoch of a region, the used slots. -/
def epo (l : List (Int × Int)) (k : Nat) : Int := (l.getD k (0, 0)).1
def uso (l : List (Int × Int)) (k : Nat) : Int := (l.getD k (0, 0)).2
theorem ep_in (l : List (Int × Int)) (k : Nat) (h : k < l.length) : l[k].1 = epo l k := by unfold epo; simp [h]
theorem us_in (l : List (Int × Int)) (k : Nat) (h : k < l.length) : l[k].2 = uso l k := by unfold uso; simp [h]
theorem ChAt.eu {W : World} {g q : Nat} {p s : Int} {l : List (Int × Int)} {o : Int} (h : ChAt W g q p s l o) (i : Nat) (hi : i < l.length) :
    W.cell? ⟨q, i * 2, none⟩ = some (.int .u32 (epo l i)) ∧ W.cell? ⟨q, i * 2 + 1, none⟩ = some (.int .i64 (uso l i)) := by
  have := h.ep i hi
  rwa [ep_in, us_in] at this
/-- What holds of every account. -/
structure ChOk (p s : Int) (l : List (Int × Int)) (o : Int) : Prop where
  right : RightG p s (l.length : Nat)
  ep0 : ∀ k, 0 ≤ epo l k
  ep1 : ∀ k, epo l k ≤ 2147483647
  us0 : ∀ k, 0 ≤ uso l k
  us1 : ∀ k, uso l k ≤ s - 1
  op : o = -1 ∨ ∃ k : Nat, k < l.length ∧ o = k ∧ 0 < epo l k
theorem ChOk.len {p s : Int} {l : List (Int × Int)} {o : Int} (h : ChOk p s l o) : 4 ≤ l.length ∧ l.length ≤ 12 := by
  obtain ⟨h1, h2, h3, h4, h5, h6⟩ := h.right; omega

def frees (l : List (Int × Int)) : Nat → Nat
  | 0 => 0
  | k + 1 => frees l k + if epo l k = 0 then 1 else 0
theorem frees_le (l : List (Int × Int)) : ∀ k, frees l k ≤ k
  | 0 => Nat.le_refl _
  | k + 1 => by have := frees_le l k; unfold frees; split <;> omega
def nwst (l : List (Int × Int)) : Nat → Int × Int
  | 0 => (-1, 0)
  | k + 1 => if (nwst l k).2 < epo l k then (k, epo l k) else nwst l k
theorem nwst_top (l : List (Int × Int)) : ∀ k, 0 ≤ (nwst l k).2
  | 0 => Int.le_refl _
  | k + 1 => by have := nwst_top l k; unfold nwst; split <;> simp <;> omega

set_option maxHeartbeats 800000 in
theorem cfree_any (W : World) (g q : Nat) (p s : Int) (l : List (Int × Int)) (o : Int) (h : ChAt W g q p s l o) (hl : l.length ≤ 100) (hr : ∀ k, 0 ≤ epo l k) :
    Calls Try.prog 93 #[.pointer (some ⟨g, 0, none⟩)] W fun e w' => e = .returned (.int .i64 (frees l l.length : Nat)) ∧ Kp W w' := by
  obtain ⟨c0, c1, c2, c3, c4⟩ := h.c5
  go_enter Try.func93, Try.ntmps93
  go_wp2_with fail
  go_loopw [3, 13] (fun n i wr => ∃ k : Nat, k ≤ l.length ∧ i = .int .i64 k ∧ n = .int .i64 (frees l k : Nat) ∧ Kp W wr) (fun _ i _ => l.length - (intOf i).toNat)
  case atStart => exact ⟨0, by omega, rfl, rfl, Kp.refl W⟩
  case round =>
    obtain ⟨k, hk, rfl, rfl, hKr⟩ := hrel
    have hf := frees_le l k
    clear c0 c1 c2 c3 c4
    by_cases hlt : k < l.length
    · obtain ⟨e0, e1⟩ := (h.keep hKr).eu k hlt
      by_cases hz : epo l k = 0
      · have hs : frees l (k + 1) = frees l k + 1 := by rw [frees, if_pos hz]
        have HS := Lib.hid hs
        rw [hz] at e0
        clear hs hz
        go_wp2_with fail
        go_roundw
        case rel => exact ⟨k + 1, by omega, by go_num, by rw [HS.out]; go_num, hKr.alloc _⟩
        case measure => simp [intOf]; omega
      · have hs : frees l (k + 1) = frees l k := by rw [frees, if_neg hz]; rfl
        have HS := Lib.hid hs
        have hb : (epo l k == 0) = false := by simpa using hz
        clear hs hz
        go_wp2_with fail
        go_roundw
        case rel => exact ⟨k + 1, by omega, by go_num, by rw [HS.out], hKr.alloc _⟩
        case measure => simp [intOf]; omega
    · obtain rfl : k = l.length := by omega
      go_wp2_with fail
      go_ret
      exact ⟨rfl, hKr⟩

set_option maxHeartbeats 800000 in
theorem cnewest_any (W : World) (g q : Nat) (p s : Int) (l : List (Int × Int)) (o : Int) (h : ChAt W g q p s l o) (hl : l.length ≤ 100) (hr : ∀ k, 0 ≤ epo l k) :
    Calls Try.prog 92 #[.pointer (some ⟨g, 0, none⟩)] W fun e w' => e = .returned (.tuple #[.int .i64 (nwst l l.length).1, .int .u32 (nwst l l.length).2]) ∧ Kp W w' := by
  obtain ⟨c0, c1, c2, c3, c4⟩ := h.c5
  go_enter Try.func92, Try.ntmps92
  go_wp2_with fail
  go_loopw [4, 5, 13] (fun a t i wr => ∃ k : Nat, k ≤ l.length ∧ i = .int .i64 k ∧ a = .int .i64 (nwst l k).1 ∧ t = .int .u32 (nwst l k).2 ∧ Kp W wr) (fun _ _ i _ => l.length - (intOf i).toNat)
  case atStart => exact ⟨0, by omega, rfl, rfl, rfl, Kp.refl W⟩
  case round =>
    obtain ⟨k, hk, rfl, rfl, rfl, hKr⟩ := hrel
    clear c0 c1 c2 c3 c4
    have ht := nwst_top l k
    by_cases hlt : k < l.length
    · obtain ⟨e0, e1⟩ := (h.keep hKr).eu k hlt
      have hs : nwst l (k + 1) = if (nwst l k).2 < epo l k then ((k : Int), epo l k) else nwst l k := rfl
      have HS := Lib.hid hs
      clear hs
      generalize nwst l k = z at *
      by_cases hz : z.2 < epo l k
      · go_wp2_with fail
        go_region
        go_wp2_with fail
        go_roundw
        case rel => exact ⟨k + 1, by omega, by go_num, by rw [HS.out, if_pos hz], by rw [HS.out, if_pos hz], by (repeat (first | with_reducible exact Kp.refl _ | with_reducible assumption | with_reducible refine Kp.alloc ?_ _ | with_reducible refine Kp.drew ?_ | with_reducible refine Kp.drewN ?_ _ | exact Kp.refl _ | assumption | refine Kp.alloc ?_ _ | refine Kp.drew ?_ | refine Kp.drewN ?_ _ | refine Kp.trans ?_ (by assumption)))⟩
        case measure => simp [intOf]; omega
      · go_wp2_with fail
        go_roundw
        case rel => exact ⟨k + 1, by omega, by go_num, by rw [HS.out, if_neg hz], by rw [HS.out, if_neg hz], hKr.alloc _⟩
        case measure => simp [intOf]; omega
    · obtain rfl : k = l.length := by omega
      go_wp2_with fail
      go_ret2
      exact ⟨rfl, hKr⟩
end Go.Proofs.Ytecelmhiffcaeaa
/- The contracts of package chart: what is open, what is left. -/
namespace Go.Proofs.Ytecelmhiffcaeaa
open Go.RowKit
set_option linter.unusedVariables false
set_option maxRecDepth 20000

set_option maxHeartbeats 800000 in
theorem copened_no (W0 : World) (g q : Nat) (p s : Int) (l : List (Int × Int)) (h : ChAt W0 g q p s l (-1)) :
    Calls Try.prog 71 #[.pointer (some ⟨g, 0, none⟩)] W0 fun e w' => e = .returned (.bool false) ∧ Kp W0 w' := by
  have HC := Lib.hid (fun W (k : Kp W0 W) => (h.keep k).c5)
  go_enter Try.func71, Try.ntmps71
  go_wp2_with fail
  have hInh := fun (x v : Value) => (⟨fun h => h _ ((Kp.refl W0).drew), fun h _ _ => h⟩ : (∀ Wz9, (fun W => Kp W0 W) Wz9 → x = v) ↔ x = v)
  dsimp only at hInh
  refine wp_region_quietC (C := fun W => Kp W0 W) (by kernel_rfl) (by kernel_rfl) ((Kp.refl W0).drew) ?_
  repeat (first | go_big_quiet_step ((intro hW; first | (go_at_call 91; refine (chas_no _ g q p s l _ (h.keep hW) _ (by omega)).mono ?_; rintro e w' ⟨rfl, rfl⟩; exact ⟨rfl, hW⟩) | (with_reducible rfl) | (obtain ⟨c0, c1, c2, c3, c4⟩ := HC.out _ hW; (try go_simp); first | done | with_reducible rfl | exact ⟨rfl, rfl⟩))) | quiet_step ((intro hW; first | (go_at_call 91; refine (chas_no _ g q p s l _ (h.keep hW) _ (by omega)).mono ?_; rintro e w' ⟨rfl, rfl⟩; exact ⟨rfl, hW⟩) | (with_reducible rfl) | (obtain ⟨c0, c1, c2, c3, c4⟩ := HC.out _ hW; (try go_simp); first | done | with_reducible rfl | exact ⟨rfl, rfl⟩))))
  refine wpQuiet_nil ?_
  intro wq hwq
  clear hInh
  go_wp2_with fail
  go_ret
  exact ⟨rfl, hwq⟩
set_option maxHeartbeats 800000 in
theorem copened_yes (W0 : World) (g q : Nat) (p s : Int) (l : List (Int × Int)) (k : Nat) (h : ChAt W0 g q p s l k) (hl : l.length ≤ 100) (hk : k < l.length) (he : 0 < epo l k) :
    Calls Try.prog 71 #[.pointer (some ⟨g, 0, none⟩)] W0 fun e w' => e = .returned (.bool true) ∧ Kp W0 w' := by
  have HC := Lib.hid (fun W (k : Kp W0 W) => (h.keep k).c5)
  have HE := Lib.hid (fun W (k9 : Kp W0 W) => (h.keep k9).eu k hk)
  have d1 : decide (0 < epo l k) = true := by simpa using he
  have hk2 : (k : Int) < (l.length : Int) := by omega
  go_enter Try.func71, Try.ntmps71
  go_wp2_with fail
  have hInh := fun (x v : Value) => (⟨fun h => h _ ((Kp.refl W0).drew), fun h _ _ => h⟩ : (∀ Wz9, (fun W => Kp W0 W) Wz9 → x = v) ↔ x = v)
  dsimp only at hInh
  refine wp_region_quietC (C := fun W => Kp W0 W) (by kernel_rfl) (by kernel_rfl) ((Kp.refl W0).drew) ?_
  repeat (first | go_big_quiet_step ((intro hW; first | (go_at_call 91; refine (chas_yes _ g q p s l _ (h.keep hW) _ (by omega) (by omega)).mono ?_; rintro e w' ⟨rfl, rfl⟩; exact ⟨rfl, hW⟩) | (with_reducible rfl) | (obtain ⟨c0, c1, c2, c3, c4⟩ := HC.out _ hW; obtain ⟨e0, e1⟩ := HE.out _ hW; (try go_simp); first | done | with_reducible rfl | exact ⟨rfl, rfl⟩))) | quiet_step ((intro hW; first | (go_at_call 91; refine (chas_yes _ g q p s l _ (h.keep hW) _ (by omega) (by omega)).mono ?_; rintro e w' ⟨rfl, rfl⟩; exact ⟨rfl, hW⟩) | (with_reducible rfl) | (obtain ⟨c0, c1, c2, c3, c4⟩ := HC.out _ hW; obtain ⟨e0, e1⟩ := HE.out _ hW; (try go_simp); first | done | with_reducible rfl | exact ⟨rfl, rfl⟩))))
  refine wpQuiet_nil ?_
  intro wq hwq
  clear hInh
  go_wp2_with fail
  go_ret
  exact ⟨rfl, hwq⟩
end Go.Proofs.Ytecelmhiffcaeaa
/- The contracts of package chart: Left, Avail, Take, Erase, Set, New and the small ones. -/
namespace Go.Proofs.Ytecelmhiffcaeaa
open Go.RowKit
set_option linter.unusedVariables false
set_option maxRecDepth 20000

def leftF (s : Int) (l : List (Int × Int)) (o : Int) : Int := if o < 0 then 0 else s - 1 - uso l o.toNat
theorem slotsK (p s r : Int) (h : RightG p s r) (w : World) :
    Calls Try.prog 72 #[geo p s r] w fun e w' => e = .returned (.int .i64 (s - 1)) ∧ Kp w w' :=
  (slots_yes p s r h w).mono fun _ _ ⟨he, hw⟩ => ⟨he, hw ▸ ((Kp.one _ _).alloc _)⟩
set_option maxHeartbeats 800000 in
theorem cleft_any (W0 : World) (g q : Nat) (p s : Int) (l : List (Int × Int)) (o : Int) (h : ChAt W0 g q p s l o) (ok : ChOk p s l o) :
    Calls Try.prog 50 #[.pointer (some ⟨g, 0, none⟩)] W0 fun e w' => e = .returned (.int .i64 (leftF s l o)) ∧ Kp W0 w' := by
  have hlen := ok.len
  rcases ok.op with rfl | ⟨k, hk, rfl, he⟩
  · have H1 := Lib.hid (copened_no W0 g q p s l h)
    go_enter Try.func50, Try.ntmps50
    go_wp2_with fail
    refine (H1.out).mono ?_
    rintro e w1 ⟨rfl, hk1⟩
    go_wp2_with fail
    go_ret
    exact ⟨rfl, hk1⟩
  · have H1 := Lib.hid (copened_yes W0 g q p s l k h (by omega) hk he)
    have hl : leftF s l (k : Int) = s - 1 - uso l k := by unfold leftF; rw [if_neg (by omega)]; simp
    rw [hl]
    have hR := ok.right
    have u0 := ok.us0 k
    have u1 := ok.us1 k
    obtain ⟨r1, r2, r3, r4, r5, r6⟩ := id ok.right
    have hk2 : (k : Int) < (l.length : Int) := by omega
    have hwr : IntKind.i64.wrap (s - 1 - uso l k) = s - 1 - uso l k := IntWalk.i64_in _ (by omega)
    go_enter Try.func50, Try.ntmps50
    go_wp2_with fail
    refine (H1.out).mono ?_
    rintro e w1 ⟨rfl, hk1⟩
    have HC := Lib.hid (fun W (k : Kp w1 W) => ((h.keep hk1).keep k).c5)
    have HE := Lib.hid (fun W (k9 : Kp w1 W) => ((h.keep hk1).keep k9).eu k hk)
    go_wp2_with fail
    have hInh := fun (x v : Value) => (⟨fun h => h _ ((Kp.refl w1).drew), fun h _ _ => h⟩ : (∀ Wz9, (fun W => Kp w1 W) Wz9 → x = v) ↔ x = v)
    dsimp only at hInh
    refine wp_region_quietC (C := fun W => Kp w1 W) (by kernel_rfl) (by kernel_rfl) ((Kp.refl w1).drew) ?_
    repeat (first | go_big_quiet_step ((intro hW; first | (go_at_call 72; refine (slotsK p s _ hR _).mono ?_; rintro e w' ⟨rfl, hk9⟩; exact ⟨rfl, hW.trans hk9⟩) | (with_reducible rfl) | (obtain ⟨c0, c1, c2, c3, c4⟩ := HC.out _ hW; obtain ⟨e0, e1⟩ := HE.out _ hW; (try go_simp); first | done | with_reducible rfl | exact ⟨rfl, rfl⟩))) | quiet_step ((intro hW; first | (go_at_call 72; refine (slotsK p s _ hR _).mono ?_; rintro e w' ⟨rfl, hk9⟩; exact ⟨rfl, hW.trans hk9⟩) | (with_reducible rfl) | (obtain ⟨c0, c1, c2, c3, c4⟩ := HC.out _ hW; obtain ⟨e0, e1⟩ := HE.out _ hW; (try go_simp); first | done | with_reducible rfl | exact ⟨rfl, rfl⟩))))
    refine wpQuiet_nil ?_
    intro wq hwq
    clear hInh
    go_wp2_with fail
    go_ret
    exact ⟨rfl, hk1.trans hwq⟩
/-- What may be taken. -/
def availF (s : Int) (l : List (Int × Int)) (o : Int) : Int := leftF s l o + (s - 1) * (if (frees l l.length : Int) - 2 < 0 then 0 else (frees l l.length : Int) - 2)
theorem leftF_bd {p s : Int} {l : List (Int × Int)} {o : Int} (ok : ChOk p s l o) : 0 ≤ leftF s l o ∧ leftF s l o ≤ 9 := by
  obtain ⟨r1, r2, r3, r4, r5, r6⟩ := ok.right
  have := ok.us0 o.toNat
  have := ok.us1 o.toNat
  unfold leftF; split <;> omega
end Go.Proofs.Ytecelmhiffcaeaa
/- The contracts of package chart: Take, Erase, Set, New and the small ones. -/
namespace Go.Proofs.Ytecelmhiffcaeaa
open Go.RowKit
set_option linter.unusedVariables false
set_option maxRecDepth 20000

theorem pageK (p s r a b : Int) (h : RightG p s r) (ha : 0 ≤ a) (ha2 : a < r) (hb : 0 ≤ b) (hb2 : b < s) (w : World) :
    Calls Try.prog 40 #[geo p s r, .int .i64 a, .int .i64 b] w fun e w' => e = .returned (.tuple #[.int .i64 (a * s + b), .bool true]) ∧ Kp w w' := page_yes p s r a b h ha ha2 hb hb2 w
set_option maxHeartbeats 800000 in
theorem ctake_no (W0 : World) (g q : Nat) (p s : Int) (l : List (Int × Int)) (o : Int) (h : ChAt W0 g q p s l o) (ok : ChOk p s l o) (hz : leftF s l o ≤ 0) :
    Calls Try.prog 52 #[.pointer (some ⟨g, 0, none⟩)] W0 fun e w' => e = .returned (.tuple #[.int .i64 0, .bool false]) ∧ Kp W0 w' := by
  have H1 := Lib.hid (cleft_any W0 g q p s l o h ok)
  generalize leftF s l o = lf at *
  go_enter Try.func52, Try.ntmps52
  go_wp2_with fail
  refine (H1.out).mono ?_
  rintro e w1 ⟨rfl, hk1⟩
  go_wp2_with fail
  go_ret2
  exact ⟨rfl, hk1⟩
set_option maxHeartbeats 1600000 in
theorem ctake_yes (W0 : World) (g q : Nat) (p s : Int) (l : List (Int × Int)) (k : Nat) (h : ChAt W0 g q p s l k) (ok : ChOk p s l k) (hk : k < l.length) (hz : uso l k < s - 1) :
    Calls Try.prog 52 #[.pointer (some ⟨g, 0, none⟩)] W0 fun e w' => e = .returned (.tuple #[.int .i64 ((k : Int) * s + (uso l k + 1)), .bool true]) ∧ ChAt w' g q p s (l.set k (epo l k, uso l k + 1)) k ∧ Mv [g, q] W0 w' := by
  have H1 := Lib.hid (cleft_any W0 g q p s l k h ok)
  have hl : leftF s l (k : Int) = s - 1 - uso l k := by unfold leftF; rw [if_neg (by omega)]; simp
  rw [hl] at H1
  clear hl
  have hR := ok.right
  have hlen := ok.len
  have u0 := ok.us0 k
  obtain ⟨r1, r2, r3, r4, r5, r6⟩ := id ok.right
  have hk2 : (k : Int) < (l.length : Int) := by omega
  go_enter Try.func52, Try.ntmps52
  go_wp2_with fail
  refine (H1.out).mono ?_
  rintro e w1 ⟨rfl, hk1⟩
  have h1 := h.keep hk1
  have HC := Lib.hid (fun W (k : Kp w1 W) => (h1.keep k).c5)
  go_wp2_with fail
  have hInh := fun (x v : Value) => (⟨fun h => h _ ((Kp.refl w1).drew), fun h _ _ => h⟩ : (∀ Wz9, (fun W => Kp w1 W) Wz9 → x = v) ↔ x = v)
  dsimp only at hInh
  refine wp_region_quietC (C := fun W => Kp w1 W) (by kernel_rfl) (by kernel_rfl) ((Kp.refl w1).drew) ?_
  repeat (first | go_big_quiet_step ((intro hW; first | fail | (with_reducible rfl) | (obtain ⟨c0, c1, c2, c3, c4⟩ := HC.out _ hW; (try go_simp); first | done | with_reducible rfl | exact ⟨rfl, rfl⟩))) | quiet_step ((intro hW; first | fail | (with_reducible rfl) | (obtain ⟨c0, c1, c2, c3, c4⟩ := HC.out _ hW; (try go_simp); first | done | with_reducible rfl | exact ⟨rfl, rfl⟩))))
  refine wpQuiet_nil ?_
  intro wq hwq
  clear hInh
  have h2 := h1.keep hwq
  obtain ⟨e0, e1⟩ := h2.eu k hk
  have f1 := (h2.fr k).2
  go_wp2_with fail
  have h3 := h2.put1 k hk (uso l k + 1)
  rw [ep_in l k hk] at h3
  have hm3 : Mv [g, q] W0 (wq.setCell ⟨q, k * 2 + 1, none⟩ (.int .i64 (uso l k + 1))) := (Mv.of (hk1.trans hwq)).set (by simp) _
  have hk3 : k < (l.set k (epo l k, uso l k + 1)).length := by simpa using hk
  have hl3 : (l.set k (epo l k, uso l k + 1)).length = l.length := List.length_set
  have hu3 : uso (l.set k (epo l k, uso l k + 1)) k = uso l k + 1 := by unfold uso; simp [hk]
  generalize wq.setCell ⟨q, k * 2 + 1, none⟩ (.int .i64 (uso l k + 1)) = w3 at *
  have HC3 := Lib.hid (fun W (k : Kp w3 W) => (h3.keep k).c5)
  have HE3 := Lib.hid (fun W (k9 : Kp w3 W) => (h3.keep k9).eu k hk3)
  rw [hl3] at HC3
  rw [hu3] at HE3
  clear e0 e1 f1 hl3 hu3
  have hInh := fun (x v : Value) => (⟨fun h => h _ ((Kp.refl w3).drew), fun h _ _ => h⟩ : (∀ Wz9, (fun W => Kp w3 W) Wz9 → x = v) ↔ x = v)
  dsimp only at hInh
  refine wp_region_quietC (C := fun W => Kp w3 W) (by kernel_rfl) (by kernel_rfl) ((Kp.refl w3).drew) ?_
  repeat (first | go_big_quiet_step ((intro hW; first | (go_at_call 40; refine (pageK p s _ _ _ hR (by omega) (by omega) (by omega) (by omega) _).mono ?_; rintro e w' ⟨rfl, hk9⟩; exact ⟨rfl, hW.trans hk9⟩) | (with_reducible rfl) | (obtain ⟨c0, c1, c2, c3, c4⟩ := HC3.out _ hW; obtain ⟨e0, e1⟩ := HE3.out _ hW; (try go_simp); first | done | with_reducible rfl | exact ⟨rfl, rfl⟩))) | quiet_step ((intro hW; first | (go_at_call 40; refine (pageK p s _ _ _ hR (by omega) (by omega) (by omega) (by omega) _).mono ?_; rintro e w' ⟨rfl, hk9⟩; exact ⟨rfl, hW.trans hk9⟩) | (with_reducible rfl) | (obtain ⟨c0, c1, c2, c3, c4⟩ := HC3.out _ hW; obtain ⟨e0, e1⟩ := HE3.out _ hW; (try go_simp); first | done | with_reducible rfl | exact ⟨rfl, rfl⟩))))
  refine wpQuiet_nil ?_
  intro wq hwq
  clear hInh
  go_wp2_with fail
  go_ret2
  exact ⟨rfl, h3.keep hwq, hm3.trans (Mv.of hwq)⟩

end Go.Proofs.Ytecelmhiffcaeaa
/- The contracts of package chart: New, Open, Oldest, Resume, the small ones; of none. -/
namespace Go.Proofs.Ytecelmhiffcaeaa
open Go.RowKit
set_option linter.unusedVariables false
set_option maxRecDepth 20000

/-- A new account. -/
def CNewPost (w : World) (p s : Int) (n : Nat) (e : Ending) (w' : World) : Prop :=
  ∃ g q : Nat, e = .returned (.pointer (some ⟨g, 0, none⟩)) ∧ w.heap.size ≤ g ∧ w.heap.size ≤ q ∧ ChAt w' g q p s (List.replicate n (0, 0)) (-1) ∧ Kp w w'
theorem Bk.atc (W : World) (t : TypeId) (cs : List Value) (g : Nat) (h : W.heap.size = g) : Bk (W.alloc (.cells cs.toArray t)) g t cs := by subst h; exact Bk.new W t cs
theorem new_at (p s : Int) (n : Nat) (W : World) (q g : Nat) (hq : q = W.heap.size) (hg : g = W.heap.size + 1) :
    ChAt ((W.alloc (.cells (flat (List.replicate n (0, 0))).toArray 124)).alloc (.cells #[.int .i64 p, .int .i64 s, .int .i64 n, .slice (some ⟨q, 0, none⟩) n n, .int .i64 (-1)] 94)) g q p s (List.replicate n (0, 0)) (-1) := by
  subst hq
  subst hg
  refine ⟨?_, (Bk.new W 124 (flat (List.replicate n (0, 0)))).alloc _, by omega⟩
  rw [List.length_replicate]
  exact Bk.atc _ _ [_, _, _, _, _] _ (World.size_alloc _ _)
set_option maxHeartbeats 800000 in
theorem cnew_yes (p s : Int) (n : Nat) (hR : RightG p s n) (w : World) :
    Calls Try.prog 22 #[geo p s n] w (CNewPost w p s n) := by
  obtain ⟨r1, r2, r3, r4, r5, r6⟩ := id hR
  have hmk := make_states n (by omega)
  go_enter Try.func22, Try.ntmps22
  go_wp2_with fail
  refine (right_yes p s n hR _).mono ?_
  rintro e w1 ⟨rfl, rfl⟩
  go_wp2_with fail
  go_region
  all_goals go_wp2_with fail
  all_goals go_ret
  all_goals exact ⟨w.heap.size + 1 + 1 + 1, w.heap.size + 1 + 1, rfl, by omega, by omega, (new_at p s n _ _ _ (by simp [go_sem]) (by simp [go_sem])).keep (Kp.refl _).drew, by (repeat (first | with_reducible exact Kp.refl _ | with_reducible assumption | with_reducible refine Kp.alloc ?_ _ | with_reducible refine Kp.drew ?_ | with_reducible refine Kp.drewN ?_ _ | exact Kp.refl _ | assumption | refine Kp.alloc ?_ _ | refine Kp.drew ?_ | refine Kp.drewN ?_ _ | refine Kp.trans ?_ (by assumption)))⟩
set_option maxHeartbeats 800000 in
theorem cnew_no (p s r : Int) (hR : ¬ RightG p s r) (w : World) :
    Calls Try.prog 22 #[geo p s r] w fun e w' => e = .returned (.pointer none) ∧ Kp w w' := by
  go_enter Try.func22, Try.ntmps22
  go_wp2_with fail
  refine (right_no p s r hR _).mono ?_
  rintro e w1 ⟨rfl, rfl⟩
  go_wp2_with fail
  go_ret
  exact ⟨rfl, by (repeat (first | with_reducible exact Kp.refl _ | with_reducible assumption | with_reducible refine Kp.alloc ?_ _ | with_reducible refine Kp.drew ?_ | with_reducible refine Kp.drewN ?_ _ | exact Kp.refl _ | assumption | refine Kp.alloc ?_ _ | refine Kp.drew ?_ | refine Kp.drewN ?_ _ | refine Kp.trans ?_ (by assumption)))⟩

set_option maxHeartbeats 800000 in
theorem copen_no (W0 : World) (g q : Nat) (p s : Int) (l : List (Int × Int)) (o : Int) (h : ChAt W0 g q p s l o) (hl : l.length ≤ 100) (hr : ∀ k, 0 ≤ epo l k) (hz : frees l l.length = 0 ∨ (0 < frees l l.length ∧ 2147483647 ≤ (nwst l l.length).2)) :
    Calls Try.prog 73 #[.pointer (some ⟨g, 0, none⟩)] W0 fun e w' => e = .returned (.tuple #[.int .i64 0, .int .u32 0, .bool false]) ∧ Kp W0 w' := by
  have HN := Lib.hid (cnewest_any W0 g q p s l o h hl hr)
  have HF := Lib.hid (fun W (k : Kp W0 W) => cfree_any W g q p s l o (h.keep k) hl hr)
  generalize nwst l l.length = z at *
  generalize frees l l.length = f at *
  rcases hz with rfl | ⟨h0, h1⟩
  · go_enter Try.func73, Try.ntmps73
    go_wp2_with fail
    refine (HN.out).mono ?_
    rintro e w1 ⟨rfl, hk1⟩
    go_wp2_with fail
    refine (HF.out _ hk1).mono ?_
    rintro e w2 ⟨rfl, hk2⟩
    go_wp2_with fail
    go_ret3
    exact ⟨rfl, hk1.trans hk2⟩
  · have hb : ((f : Int) == 0) = false := by simp; omega
    go_enter Try.func73, Try.ntmps73
    go_wp2_with fail
    refine (HN.out).mono ?_
    rintro e w1 ⟨rfl, hk1⟩
    go_wp2_with fail
    refine (HF.out _ hk1).mono ?_
    rintro e w2 ⟨rfl, hk2⟩
    go_wp2_with fail
    go_ret3
    exact ⟨rfl, hk1.trans hk2⟩

/-- The j-th region behind the newest one. -/
def nth (l : List (Int × Int)) (j : Nat) : Nat := (((nwst l l.length).1 + (j : Int)) % (l.length : Int)).toNat
theorem nwst_at (l : List (Int × Int)) : ∀ k : Nat, -1 ≤ (nwst l k).1 ∧ (nwst l k).1 < (k : Int)
  | 0 => by simp [nwst]
  | k + 1 => by have := nwst_at l k; unfold nwst; split <;> simp <;> omega
set_option maxHeartbeats 1600000 in
theorem copen_yes (W0 : World) (g q : Nat) (p s : Int) (l : List (Int × Int)) (o : Int) (h : ChAt W0 g q p s l o) (hl0 : 0 < l.length) (hl : l.length ≤ 100) (hr : ∀ k, 0 ≤ epo l k) (hf : 0 < frees l l.length) (ht : (nwst l l.length).2 < 2147483647)
    (j : Nat) (hj : 1 ≤ j) (hj2 : j ≤ l.length) (hn : ∀ i, 1 ≤ i → i < j → epo l (nth l i) ≠ 0) (hz : epo l (nth l j) = 0) :
    Calls Try.prog 73 #[.pointer (some ⟨g, 0, none⟩)] W0 fun e w' => e = .returned (.tuple #[.int .i64 (nth l j : Nat), .int .u32 ((nwst l l.length).2 + 1), .bool true]) ∧ ChAt w' g q p s (l.set (nth l j) ((nwst l l.length).2 + 1, 0)) (nth l j : Nat) ∧ Mv [g, q] W0 w' := by
  have HN := Lib.hid (cnewest_any W0 g q p s l o h hl hr)
  have HF := Lib.hid (fun W (k : Kp W0 W) => cfree_any W g q p s l o (h.keep k) hl hr)
  have hat := nwst_at l l.length
  have htp := nwst_top l l.length
  have hnth : ∀ i : Nat, 1 ≤ i → ((nwst l l.length).1 + (i : Int)) % (l.length : Int) = (nth l i : Nat) ∧ nth l i < l.length := by
    intro i hi
    have h1 := Int.emod_nonneg ((nwst l l.length).1 + (i : Int)) (show (l.length : Int) ≠ 0 by omega)
    have h2 := Int.emod_lt_of_pos ((nwst l l.length).1 + (i : Int)) (show 0 < (l.length : Int) by omega)
    unfold nth
    omega
  generalize nwst l l.length = z at *
  generalize frees l l.length = f at *
  have hb : ((f : Int) == 0) = false := by simp; omega
  have hd0 : ((l.length : Int) == 0) = false := beq_eq_false_iff_ne.2 (by omega)
  have HT := Lib.hid hnth
  clear hnth
  have HNN := Lib.hid hn
  have HZ := Lib.hid hz
  clear hn hz
  go_enter Try.func73, Try.ntmps73
  go_wp2_with fail
  refine (HN.out).mono ?_
  rintro e w1 ⟨rfl, hk1⟩
  go_wp2_with fail
  refine (HF.out _ hk1).mono ?_
  rintro e w2 ⟨rfl, hk2⟩
  have h2 := h.keep (hk1.trans hk2)
  have hK2 := hk1.trans hk2
  obtain ⟨c0, c1, c2, c3, c4⟩ := h2.c5
  go_wp2_with fail
  go_loop [8] (fun i => ∃ k : Nat, 1 ≤ k ∧ k ≤ j ∧ i = .int .i64 k) (fun i => j - (intOf i).toNat)
  case atStart => exact ⟨1, by omega, by omega, rfl⟩
  case round =>
    obtain ⟨k, hk1', hk2', rfl⟩ := hrel
    obtain ⟨hm, hml⟩ := HT.out k hk1'
    obtain ⟨e0, e1⟩ := h2.eu (nth l k) hml
    obtain ⟨f0, f1⟩ := h2.fr (nth l k)
    have hml2 : ((nth l k : Nat) : Int) < (l.length : Int) := by omega
    have h0 : 0 ≤ z.1 + (k : Int) := by omega
    have hf4 := h2.box.free 4
    by_cases hkj : k < j
    · have hne := HNN.out k hk1' hkj
      have hb3 : (epo l (nth l k) == 0) = false := by simpa using hne
      clear hne
      generalize nth l k = m at *
      go_wp2_with fail
      go_round
      case rel => exact ⟨k + 1, by omega, by omega, by go_num⟩
      case measure => simp [intOf]; omega
    · obtain rfl : k = j := by omega
      rw [HZ.out] at e0
      have hgq : ¬ (q = g) := Ne.symm h2.ne
      have hgq2 : ¬ (g = q) := h2.ne
      generalize hmm : nth l k = m at *
      have HM := Lib.hid hmm
      clear hmm
      go_wp2_with fail
      go_ret3
      rw [HM.out]
      exact ⟨rfl, (h2.put m (z.2 + 1) 0).opn (m : Nat), (((Mv.of hK2).set (by simp) _).set (by simp) _).set (by simp) _⟩
end Go.Proofs.Ytecelmhiffcaeaa
/- The contracts of package chart, of none; 'alive'. -/
namespace Go.Proofs.Ytecelmhiffcaeaa
open Go.RowKit
set_option linter.unusedVariables false
set_option maxRecDepth 20000

theorem nhas (i : Int) (w : World) : Calls Try.prog 91 #[.pointer none, .int .i64 i] w fun e w' => e = .returned (.bool false) ∧ w = w' := by
  go_enter Try.func91, Try.ntmps91
  go_wp2
  go_ret
  exact ⟨rfl, rfl⟩
theorem nopened (w : World) : Calls Try.prog 71 #[.pointer none] w fun e w' => e = .returned (.bool false) ∧ Kp w w' := by
  go_enter Try.func71, Try.ntmps71
  go_wp2_with fail
  go_quiet (fail)
  go_wp2_with fail
  go_ret
  exact ⟨rfl, by (repeat (first | with_reducible exact Kp.refl _ | with_reducible assumption | with_reducible refine Kp.alloc ?_ _ | with_reducible refine Kp.drew ?_ | with_reducible refine Kp.drewN ?_ _ | exact Kp.refl _ | assumption | refine Kp.alloc ?_ _ | refine Kp.drew ?_ | refine Kp.drewN ?_ _ | refine Kp.trans ?_ (by assumption)))⟩
theorem nopen (w : World) : Calls Try.prog 73 #[.pointer none] w fun e w' => e = .returned (.tuple #[.int .i64 0, .int .u32 0, .bool false]) ∧ Kp w w' := by
  go_enter Try.func73, Try.ntmps73
  go_wp2
  go_ret3
  exact ⟨rfl, Kp.refl _⟩
theorem nfree (w : World) : Calls Try.prog 93 #[.pointer none] w fun e w' => e = .returned (.int .i64 0) ∧ Kp w w' := by
  go_enter Try.func93, Try.ntmps93
  go_wp2
  go_ret
  exact ⟨rfl, Kp.refl _⟩
theorem nleft (w : World) : Calls Try.prog 50 #[.pointer none] w fun e w' => e = .returned (.int .i64 0) ∧ Kp w w' := by
  go_enter Try.func50, Try.ntmps50
  go_wp2_with fail
  refine (nopened _).mono ?_
  rintro e w1 ⟨rfl, hk⟩
  go_wp2_with fail
  go_ret
  exact ⟨rfl, hk⟩
theorem ntake (w : World) : Calls Try.prog 52 #[.pointer none] w fun e w' => e = .returned (.tuple #[.int .i64 0, .bool false]) ∧ Kp w w' := by
  go_enter Try.func52, Try.ntmps52
  go_wp2_with fail
  refine (nleft _).mono ?_
  rintro e w1 ⟨rfl, hk⟩
  go_wp2_with fail
  go_ret2
  exact ⟨rfl, hk⟩
theorem ngeom (w : World) : Calls Try.prog 47 #[.pointer none] w fun e w' => e = .returned (geo 0 0 0) ∧ Kp w w' := by
  go_enter Try.func47, Try.ntmps47
  go_wp2
  refine bodyPost_ret (v := geo 0 0 0) (by simp [results, Try.results47, go_sem]) rfl ⟨rfl, ?_⟩
  (repeat (first | with_reducible exact Kp.refl _ | with_reducible assumption | with_reducible refine Kp.alloc ?_ _ | with_reducible refine Kp.drew ?_ | with_reducible refine Kp.drewN ?_ _ | exact Kp.refl _ | assumption | refine Kp.alloc ?_ _ | refine Kp.drew ?_ | refine Kp.drewN ?_ _ | refine Kp.trans ?_ (by assumption)))

theorem ok4 (l : List (Int × Int)) (o : Int) (h4 : l.length = 4) (hb : l.all (fun x => decide (0 ≤ x.1 ∧ x.1 ≤ 2147483647 ∧ 0 ≤ x.2 ∧ x.2 ≤ 2)) = true) (ho : o = -1 ∨ ∃ k : Nat, k < l.length ∧ o = k ∧ 0 < epo l k) : ChOk 32 3 l o := by
  have hk : ∀ k, 0 ≤ epo l k ∧ epo l k ≤ 2147483647 ∧ 0 ≤ uso l k ∧ uso l k ≤ 2 := by
    intro k
    by_cases h : k < l.length
    · have := List.all_eq_true.1 hb l[k] (List.getElem_mem h)
      rw [← ep_in l k h, ← us_in l k h]
      simpa using this
    · unfold epo uso
      simp [List.getD_eq_getElem?_getD, List.getElem?_eq_none (by omega : l.length ≤ k)]
  refine ⟨?_, fun k => (hk k).1, fun k => (hk k).2.1, fun k => (hk k).2.2.1, fun k => by have := (hk k).2.2.2; omega, ho⟩
  rw [h4]; unfold RightG; omega

theorem crep0 (n k : Nat) : epo (List.replicate n (0, 0)) k = 0 ∧ uso (List.replicate n (0, 0)) k = 0 := by
  unfold epo uso
  simp only [List.getD_eq_getElem?_getD, List.getElem?_replicate]
  by_cases h : k < n
  · rw [if_pos h]; exact ⟨rfl, rfl⟩
  · rw [if_neg h]; exact ⟨rfl, rfl⟩
abbrev lv (a b : Int) : List (Int × Int) := [(a, b), (0, 0), (0, 0), (0, 0)]
theorem aok (u : Int) (h0 : 0 ≤ u) (h2 : u ≤ 2) : ChOk 32 3 (lv 1 u) ((0 : Nat) : Int) := by
  have : u = 0 ∨ u = 1 ∨ u = 2 := by omega
  rcases this with rfl | rfl | rfl <;> exact ok4 _ _ rfl (by decide) (Or.inr ⟨0, by decide, rfl, by decide⟩)
theorem a_open (w : World) (g q : Nat) (h : ChAt w g q 32 3 (lv 0 0) (-1)) :
    Calls Try.prog 73 #[.pointer (some ⟨g, 0, none⟩)] w fun e w' => e = .returned (.tuple #[.int .i64 0, .int .u32 1, .bool true]) ∧ ChAt w' g q 32 3 (lv 1 0) ((0 : Nat) : Int) ∧ Mv [g, q] w w' := by
  have H := copen_yes w g q 32 3 (lv 0 0) (-1) h (by decide) (by decide) (fun k => by have := crep0 4 k; exact Int.le_of_eq this.1.symm) (by decide) (by decide) 1 (by omega) (by decide) (fun i h1 h2 => by omega) (by decide)
  have e1 : (lv 0 0).set (nth (lv 0 0) 1) ((nwst (lv 0 0) (lv 0 0).length).2 + 1, 0) = lv 1 0 := by decide
  have e2 : nth (lv 0 0) 1 = 0 := by decide
  have e3 : (nwst (lv 0 0) (lv 0 0).length).2 + 1 = 1 := by decide
  rwa [e1, e2, e3] at H
theorem a_take0 (w : World) (g q : Nat) (h : ChAt w g q 32 3 (lv 1 0) ((0 : Nat) : Int)) :
    Calls Try.prog 52 #[.pointer (some ⟨g, 0, none⟩)] w fun e w' => e = .returned (.tuple #[.int .i64 1, .bool true]) ∧ ChAt w' g q 32 3 (lv 1 1) ((0 : Nat) : Int) ∧ Mv [g, q] w w' :=
  ctake_yes w g q 32 3 (lv 1 0) 0 h (aok 0 (by omega) (by omega)) (by decide) (by decide)
theorem a_take1 (w : World) (g q : Nat) (h : ChAt w g q 32 3 (lv 1 1) ((0 : Nat) : Int)) :
    Calls Try.prog 52 #[.pointer (some ⟨g, 0, none⟩)] w fun e w' => e = .returned (.tuple #[.int .i64 2, .bool true]) ∧ ChAt w' g q 32 3 (lv 1 2) ((0 : Nat) : Int) ∧ Mv [g, q] w w' :=
  ctake_yes w g q 32 3 (lv 1 1) 0 h (aok 1 (by omega) (by omega)) (by decide) (by decide)
theorem a_take2 (w : World) (g q : Nat) (h : ChAt w g q 32 3 (lv 1 2) ((0 : Nat) : Int)) :
    Calls Try.prog 52 #[.pointer (some ⟨g, 0, none⟩)] w fun e w' => e = .returned (.tuple #[.int .i64 0, .bool false]) ∧ Kp w w' :=
  ctake_no w g q 32 3 (lv 1 2) _ h (aok 2 (by omega) (by omega)) (by decide)
theorem a_left (w : World) (g q : Nat) (h : ChAt w g q 32 3 (lv 1 2) ((0 : Nat) : Int)) :
    Calls Try.prog 50 #[.pointer (some ⟨g, 0, none⟩)] w fun e w' => e = .returned (.int .i64 0) ∧ Kp w w' :=
  cleft_any w g q 32 3 (lv 1 2) _ h (aok 2 (by omega) (by omega))
end Go.Proofs.Ytecelmhiffcaeaa
/- The contracts of package chart: Oldest, Resume; facts on lists. -/
namespace Go.Proofs.Ytecelmhiffcaeaa
open Go.RowKit
set_option linter.unusedVariables false
set_option maxRecDepth 20000

theorem nwst_ge (l : List (Int × Int)) : ∀ m k : Nat, k < m → epo l k ≤ (nwst l m).2
  | 0, k, h => by omega
  | m + 1, k, h => by
    have ih := nwst_ge l m
    unfold nwst
    by_cases e : k = m
    · subst e; split <;> simp_all
    · have := ih k (by omega); split <;> simp <;> omega
theorem epo_set (l : List (Int × Int)) (k j : Nat) (x : Int × Int) (hk : k < l.length) : epo (l.set k x) j = if j = k then x.1 else epo l j := by
  unfold epo
  simp only [List.getD_eq_getElem?_getD, List.getElem?_set]
  by_cases h : k = j
  · subst h; simp [hk]
  · rw [if_neg h, if_neg (fun e => h e.symm)]
theorem uso_set (l : List (Int × Int)) (k j : Nat) (x : Int × Int) (hk : k < l.length) : uso (l.set k x) j = if j = k then x.2 else uso l j := by
  unfold uso
  simp only [List.getD_eq_getElem?_getD, List.getElem?_set]
  by_cases h : k = j
  · subst h; simp [hk]
  · rw [if_neg h, if_neg (fun e => h e.symm)]
theorem frees_set_lo (l : List (Int × Int)) (k : Nat) (x : Int × Int) (hk : k < l.length) : ∀ m, m ≤ k → frees (l.set k x) m = frees l m
  | 0, _ => rfl
  | m + 1, h => by simp only [frees]; rw [frees_set_lo l k x hk m (by omega), epo_set l k m x hk, if_neg (by omega : ¬ m = k)]
theorem frees_set (l : List (Int × Int)) (k : Nat) (x : Int × Int) (hk : k < l.length) : ∀ m, k < m → frees (l.set k x) m + (if epo l k = 0 then 1 else 0) = frees l m + (if x.1 = 0 then 1 else 0)
  | m + 1, h => by
    rw [frees, frees, epo_set _ _ _ _ hk]
    by_cases e : m = k
    · subst e; rw [if_pos rfl, frees_set_lo l m x hk m (Nat.le_refl _)]; split <;> split <;> omega
    · have := frees_set l k x hk m (by omega); rw [if_neg e]; omega
theorem frees_rep (n : Nat) : ∀ m, frees (List.replicate n (0, 0)) m = m
  | 0 => rfl
  | m + 1 => by rw [frees, frees_rep n m, (crep0 n m).1]; rfl
theorem repOk (p s : Int) (n : Nat) (h : RightG p s n) : ChOk p s (List.replicate n (0, 0)) (-1) := by
  obtain ⟨r1, r2, r3, r4, r5, r6⟩ := id h
  refine ⟨by rw [List.length_replicate]; exact h, fun k => ?_, fun k => ?_, fun k => ?_, fun k => ?_, Or.inl rfl⟩
  · rw [(crep0 n k).1]; omega
  · rw [(crep0 n k).1]; omega
  · rw [(crep0 n k).2]; omega
  · rw [(crep0 n k).2]; omega

/-- The taken region of the least epoch that is not open. -/
def oldF (l : List (Int × Int)) (o : Int) : Nat → Nat × Bool
  | 0 => (0, false)
  | k + 1 => if 0 < epo l k ∧ o ≠ k ∧ ((oldF l o k).2 = false ∨ epo l k < epo l (oldF l o k).1) then (k, true) else oldF l o k
theorem oldF_lt (l : List (Int × Int)) (o : Int) : ∀ k, (oldF l o k).1 ≤ k
  | 0 => Nat.le_refl _
  | k + 1 => by have := oldF_lt l o k; unfold oldF; split <;> simp <;> omega
theorem oldF_in (l : List (Int × Int)) (o : Int) : ∀ k, 0 < k → (oldF l o k).1 < k
  | k + 1, _ => by have := oldF_lt l o k; unfold oldF; split <;> simp <;> omega

theorem copened_any (W : World) (g q : Nat) (p s : Int) (l : List (Int × Int)) (o : Int) (h : ChAt W g q p s l o) (ok : ChOk p s l o) :
    Calls Try.prog 71 #[.pointer (some ⟨g, 0, none⟩)] W fun e w' => e = .returned (.bool (decide (0 ≤ o))) ∧ Kp W w' := by
  have hlen := ok.len
  rcases ok.op with rfl | ⟨k, hk, rfl, he⟩
  · exact copened_no W g q p s l h
  · have : decide (0 ≤ (k : Int)) = true := by simp
    rw [this]; exact copened_yes W g q p s l k h (by omega) hk he

end Go.Proofs.Ytecelmhiffcaeaa
/- The walk of ChartEnd. -/
namespace Go.Proofs.Ytecelmhiffcaeaa
open Go.RowKit
set_option linter.unusedVariables false
set_option maxRecDepth 20000

theorem pickN (n : Int) (m : Nat) (hm : 0 < m) (hm2 : m ≤ 1000) (h1 : -9223372036854775808 ≤ n) (h2 : n ≤ 9223372036854775807) (k : Nat) (hk : n % (m : Int) = k) (w : World) :
    Calls Try.prog 13 #[.int .i64 n, .int .i64 (m : Int)] w fun e w' => e = .returned (.int .i64 (k : Int)) ∧ w = w' := by
  rw [← hk]; exact pick_any n m (by omega) (by omega) h1 h2 w

end Go.Proofs.Ytecelmhiffcaeaa
/- The contracts of package chart: Resume, the small ones. -/
namespace Go.Proofs.Ytecelmhiffcaeaa
open Go.RowKit
set_option linter.unusedVariables false
set_option maxRecDepth 20000

theorem oldF_rep (n : Nat) (o : Int) : ∀ m, oldF (List.replicate n (0, 0)) o m = (0, false)
  | 0 => rfl
  | m + 1 => by rw [oldF, if_neg (fun hx => by have := (crep0 n m).1; omega), oldF_rep n o m]
end Go.Proofs.Ytecelmhiffcaeaa
/- The reference's account in memory, and the contracts of its small methods: the same functions of the same lists as the program's account. -/
namespace Go.Proofs.Ytecelmhiffcaeaa
open Go.RowKit
set_option linter.unusedVariables false
set_option maxRecDepth 20000

def eps (l : List (Int × Int)) : List Value := l.map fun x => .int .u32 x.1
def uss (l : List (Int × Int)) : List Value := l.map fun x => .int .i64 x.2
section
variable {W W' : World} {g e u : Nat} {p s : Int} {l : List (Int × Int)} {o : Int}
end

end Go.Proofs.Ytecelmhiffcaeaa
/- The contracts of the reference's account: is, Left, Avail, Take, Erase, Set. -/
namespace Go.Proofs.Ytecelmhiffcaeaa
open Go.RowKit
set_option linter.unusedVariables false
set_option maxRecDepth 20000

theorem rslotsK (p s r : Int) (h : RightG p s r) (w : World) :
    Calls Try.prog 23 #[geo p s r] w fun e w' => e = .returned (.int .i64 (s - 1)) ∧ Kp w w' :=
  (rslots_any p s r h w).mono fun _ _ ⟨he, hw⟩ => ⟨he, hw ▸ Kp.one _ _⟩
end Go.Proofs.Ytecelmhiffcaeaa
/- The contracts of the reference's account: Left, Avail, Take. -/
namespace Go.Proofs.Ytecelmhiffcaeaa
open Go.RowKit
set_option linter.unusedVariables false
set_option maxRecDepth 20000

end Go.Proofs.Ytecelmhiffcaeaa
/- The contracts of the reference's account: Resume, Oldest, Open. -/
namespace Go.Proofs.Ytecelmhiffcaeaa
open Go.RowKit
set_option linter.unusedVariables false
set_option maxRecDepth 20000

theorem nwst_is (l : List (Int × Int)) : ∀ m : Nat, ((nwst l m).1 = -1 ∧ (nwst l m).2 = 0) ∨ ∃ k : Nat, k < m ∧ (nwst l m).1 = k ∧ (nwst l m).2 = epo l k ∧ 0 < epo l k
  | 0 => Or.inl ⟨rfl, rfl⟩
  | m + 1 => by
    have h1 := nwst_is l m
    have h0 := nwst_top l m
    rw [nwst]
    by_cases h : (nwst l m).2 < epo l m
    · rw [if_pos h]; exact Or.inr ⟨m, by omega, rfl, rfl, by omega⟩
    · rw [if_neg h]
      rcases h1 with h1 | ⟨k, hk, h1⟩
      · exact Or.inl h1
      · exact Or.inr ⟨k, by omega, h1⟩

end Go.Proofs.Ytecelmhiffcaeaa
/- The contracts of the reference's account: Oldest. -/
namespace Go.Proofs.Ytecelmhiffcaeaa
open Go.RowKit
set_option linter.unusedVariables false
set_option maxRecDepth 20000

theorem oldF_no (l : List (Int × Int)) (o : Int) : ∀ k, (oldF l o k).2 = false → (oldF l o k).1 = 0
  | 0, _ => rfl
  | k + 1, h => by
    have ih := oldF_no l o k
    rw [oldF] at h ⊢
    split
    · rename_i hc; rw [if_pos hc] at h; cases h
    · rename_i hc; rw [if_neg hc] at h; exact ih h
/-- The reference's 'at'. -/
def oldAt (z : Nat × Bool) : Int := if z.2 = true then z.1 else -1

end Go.Proofs.Ytecelmhiffcaeaa
/- The contracts of the reference's account: Open. -/
namespace Go.Proofs.Ytecelmhiffcaeaa
open Go.RowKit
set_option linter.unusedVariables false
set_option maxRecDepth 20000

/-- The reference's 'top'. -/
def rtop (l : List (Int × Int)) (k : Nat) : Nat := (nwst l k).1.toNat
theorem rtop_ep (l : List (Int × Int)) (h0 : ∀ k, 0 ≤ epo l k) (k : Nat) (hk : 0 < k) : epo l (rtop l k) = (nwst l k).2 := by
  unfold rtop
  rcases nwst_is l k with ⟨h1, h2⟩ | ⟨m, hm, h1, h2, h3⟩
  · have := nwst_ge l k 0 hk
    have := h0 0
    rw [h1]
    show epo l 0 = _
    omega
  · rw [h1, h2]; rfl
theorem rtop_step (l : List (Int × Int)) (h0 : ∀ k, 0 ≤ epo l k) (k : Nat) : rtop l (k + 1) = if epo l (rtop l k) < epo l k then k else rtop l k := by
  rcases Nat.eq_zero_or_pos k with rfl | hk
  · have : rtop l 0 = 0 := rfl
    rw [this, if_neg (by omega)]
    unfold rtop nwst
    split <;> rfl
  · rw [rtop_ep l h0 k hk]
    unfold rtop
    rw [nwst]
    split <;> rfl
theorem rtop_lt (l : List (Int × Int)) (k n : Nat) (hk : k ≤ n) (hn : 0 < n) : rtop l k < n := by
  have := nwst_at l k
  unfold rtop
  omega
theorem nth_cast (l : List (Int × Int)) (hl : 0 < l.length) (j : Nat) : ((nth l j : Nat) : Int) = ((nwst l l.length).1 + (j : Int)) % (l.length : Int) := by
  unfold nth
  have := Int.emod_nonneg ((nwst l l.length).1 + (j : Int)) (show (l.length : Int) ≠ 0 by omega)
  omega
theorem nth_lt (l : List (Int × Int)) (hl : 0 < l.length) (j : Nat) : nth l j < l.length := by
  have h1 := nth_cast l hl j
  have := Int.emod_lt_of_pos ((nwst l l.length).1 + (j : Int)) (show 0 < (l.length : Int) by omega)
  omega
theorem nth_step (l : List (Int × Int)) (hl : 0 < l.length) (j : Nat) : (((nth l j : Nat) : Int) + 1) % (l.length : Int) = (nth l (j + 1) : Nat) := by
  rw [nth_cast l hl, nth_cast l hl, Int.emod_add_emod]
  congr 1
  omega
/-- How far from the newest. -/
def idx (a n m : Int) : Nat := ((m - a - 1) % n).toNat + 1
theorem idx_emod (a n j : Int) (h1 : 1 ≤ j) (h2 : j ≤ n) : idx a n ((a + j) % n) = j.toNat := by
  unfold idx
  have e : ((a + j) % n - a - 1) % n = (j - 1) % n := by
    rw [show (a + j) % n - a - 1 = (a + j) % n - (a + 1) by omega, Int.emod_sub_emod]
    congr 1; omega
  rw [e, Int.emod_eq_of_lt (by omega) (by omega)]
  omega
theorem idx_nth (l : List (Int × Int)) (j : Nat) (h1 : 1 ≤ j) (h2 : j ≤ l.length) : idx (nwst l l.length).1 l.length (nth l j : Nat) = j := by
  rw [nth_cast l (by omega), idx_emod _ _ _ (by omega) (by omega)]
  omega
theorem nth_idx (l : List (Int × Int)) (k : Nat) (hk : k < l.length) : nth l (idx (nwst l l.length).1 l.length k) = k ∧ 1 ≤ idx (nwst l l.length).1 l.length k ∧ idx (nwst l l.length).1 l.length k ≤ l.length := by
  have h1 := Int.emod_nonneg ((k : Int) - (nwst l l.length).1 - 1) (show (l.length : Int) ≠ 0 by omega)
  have h2 := Int.emod_lt_of_pos ((k : Int) - (nwst l l.length).1 - 1) (show 0 < (l.length : Int) by omega)
  refine ⟨?_, by unfold idx; omega, by unfold idx; omega⟩
  have h3 := nth_cast l (by omega) (idx (nwst l l.length).1 l.length k)
  have h4 : ((idx (nwst l l.length).1 l.length k : Nat) : Int) = ((k : Int) - (nwst l l.length).1 - 1) % (l.length : Int) + 1 := by unfold idx; omega
  rw [h4] at h3
  have h5 : ((nwst l l.length).1 + (((k : Int) - (nwst l l.length).1 - 1) % (l.length : Int) + 1)) % (l.length : Int) = k := by
    rw [show (nwst l l.length).1 + (((k : Int) - (nwst l l.length).1 - 1) % (l.length : Int) + 1) = ((k : Int) - (nwst l l.length).1 - 1) % (l.length : Int) + ((nwst l l.length).1 + 1) by omega, Int.emod_add_emod]
    rw [show (k : Int) - (nwst l l.length).1 - 1 + ((nwst l l.length).1 + 1) = k by omega]
    exact Int.emod_eq_of_lt (by omega) (by omega)
  rw [h5] at h3
  omega
theorem frees_ex (l : List (Int × Int)) : ∀ m, 0 < frees l m → ∃ k, k < m ∧ epo l k = 0
  | 0, h => by simp [frees] at h
  | m + 1, h => by
    by_cases e : epo l m = 0
    · exact ⟨m, by omega, e⟩
    · rw [frees, if_neg e] at h
      obtain ⟨k, hk, hz⟩ := frees_ex l m (by omega)
      exact ⟨k, by omega, hz⟩
theorem least_ex (p : Nat → Prop) : ∀ n, p n → ∃ j, j ≤ n ∧ p j ∧ ∀ i, i < j → ¬ p i := by
  intro n
  induction n using Nat.strongRecOn with
  | _ n ih =>
    intro h
    by_cases e : ∃ i, i < n ∧ p i
    · obtain ⟨i, hi, hp⟩ := e
      obtain ⟨j, h1, h2, h3⟩ := ih i hi hp
      exact ⟨j, by omega, h2, h3⟩
    · exact ⟨n, Nat.le_refl _, h, fun i hi hp => e ⟨i, hi, hp⟩⟩
theorem first_ex (l : List (Int × Int)) (hf : 0 < frees l l.length) : ∃ j, 1 ≤ j ∧ j ≤ l.length ∧ (∀ i, 1 ≤ i → i < j → epo l (nth l i) ≠ 0) ∧ epo l (nth l j) = 0 := by
  obtain ⟨k, hk, hz⟩ := frees_ex l _ hf
  obtain ⟨e1, e2, e3⟩ := nth_idx l k hk
  obtain ⟨j, h1, h2, h3⟩ := least_ex (fun j => 1 ≤ j ∧ epo l (nth l j) = 0) (idx (nwst l l.length).1 l.length k) ⟨e2, by rw [e1]; exact hz⟩
  exact ⟨j, h2.1, by omega, fun i hi hij hx => h3 i hij ⟨hi, hx⟩, h2.2⟩

end Go.Proofs.Ytecelmhiffcaeaa
/- The contracts of the reference's account: Open, where it opens. -/
namespace Go.Proofs.Ytecelmhiffcaeaa
open Go.RowKit
set_option linter.unusedVariables false
set_option maxRecDepth 20000

theorem rtop_next (l : List (Int × Int)) (h0 : ∀ k, 0 ≤ epo l k) (hl : 0 < l.length) : ((nwst l l.length).2 = 0 → ((l.length : Int) - 1 + 1) % (l.length : Int) = (nth l 1 : Nat)) ∧ ((nwst l l.length).2 ≠ 0 → (((rtop l l.length : Nat) : Int) + 1) % (l.length : Int) = (nth l 1 : Nat)) := by
  have h1 := nth_cast l hl 1
  rcases nwst_is l l.length with ⟨h2, h3⟩ | ⟨m, hm, h2, h3, h4⟩
  · refine ⟨fun _ => ?_, fun hx => absurd h3 hx⟩
    rw [h1, h2]
    rw [show (l.length : Int) - 1 + 1 = l.length by omega, show (-1 + ((1 : Nat) : Int)) = 0 by rfl, Int.emod_self, Int.zero_emod]
  · refine ⟨fun hx => by omega, fun _ => ?_⟩
    rw [h1, h2]
    unfold rtop
    rw [h2]
    rfl

end Go.Proofs.Ytecelmhiffcaeaa
/- Both accounts, call by call. -/
namespace Go.Proofs.Ytecelmhiffcaeaa
open Go.RowKit
set_option linter.unusedVariables false
set_option maxRecDepth 20000

theorem ChAt.mv {W W' : World} {S : List Nat} {g q : Nat} {p s : Int} {l : List (Int × Int)} {o : Int} (h : ChAt W g q p s l o) (k : Mv S W W') (hg : g ∉ S) (hq : q ∉ S) : ChAt W' g q p s l o :=
  ⟨h.box.mv k hg, h.row.mv k hq, h.ne⟩
set_option maxHeartbeats 400000 in
theorem cgeom_any (W : World) (g q : Nat) (p s : Int) (l : List (Int × Int)) (o : Int) (h : ChAt W g q p s l o) :
    Calls Try.prog 47 #[.pointer (some ⟨g, 0, none⟩)] W fun e w' => e = .returned (geo p s (l.length : Nat)) ∧ Kp W w' := by
  have c0 := fun O => ((h.keep (Kp.one W O)).c5).1
  have c1 := fun O => ((h.keep (Kp.one W O)).c5).2.1
  have c2 := fun O => ((h.keep (Kp.one W O)).c5).2.2.1
  go_enter Try.func47, Try.ntmps47
  go_wp2_with fail
  refine bodyPost_ret (v := geo p s (l.length : Nat)) (by simp [results, Try.results47, go_sem]) rfl ⟨rfl, ?_⟩
  (repeat (first | with_reducible exact Kp.refl _ | with_reducible assumption | with_reducible refine Kp.alloc ?_ _ | with_reducible refine Kp.drew ?_ | with_reducible refine Kp.drewN ?_ _ | exact Kp.refl _ | assumption | refine Kp.alloc ?_ _ | refine Kp.drew ?_ | refine Kp.drewN ?_ _ | refine Kp.trans ?_ (by assumption)))

theorem ok_put {p s : Int} {l : List (Int × Int)} {o : Int} (ok : ChOk p s l o) (k : Nat) (hk : k < l.length) (a b : Int) (a0 : 0 ≤ a) (a1 : a ≤ 2147483647) (b0 : 0 ≤ b) (b1 : b ≤ s - 1) (o' : Int) (ho : (o' = o ∧ (o ≠ k ∨ 0 < a)) ∨ (o' = k ∧ 0 < a)) : ChOk p s (l.set k (a, b)) o' := by
  refine ⟨by rw [List.length_set]; exact ok.right, fun j => ?_, fun j => ?_, fun j => ?_, fun j => ?_, ?_⟩
  · rw [epo_set _ _ _ _ hk]; split; exact a0; exact ok.ep0 j
  · rw [epo_set _ _ _ _ hk]; split; exact a1; exact ok.ep1 j
  · rw [uso_set _ _ _ _ hk]; split; exact b0; exact ok.us0 j
  · rw [uso_set _ _ _ _ hk]; split; exact b1; exact ok.us1 j
  · rw [List.length_set]
    rcases ho with ⟨rfl, h1⟩ | ⟨rfl, h1⟩
    · rcases ok.op with h2 | ⟨m, hm, rfl, h3⟩
      · exact Or.inl h2
      · refine Or.inr ⟨m, hm, rfl, ?_⟩
        rw [epo_set _ _ _ _ hk]
        split
        · subst_vars; rcases h1 with h1 | h1
          · exact absurd rfl h1
          · exact h1
        · exact h3
    · exact Or.inr ⟨k, hk, rfl, by rw [epo_set _ _ _ _ hk, if_pos rfl]; exact h1⟩

end Go.Proofs.Ytecelmhiffcaeaa
/- The walk of ChartPlays: step, same. -/
namespace Go.Proofs.Ytecelmhiffcaeaa
open Go.RowKit
set_option linter.unusedVariables false
set_option maxRecDepth 20000

section
variable {W W' : World} {g q h b u : Nat} {p s : Int} {l l' : List (Int × Int)} {o o' : Int}
theorem sub1 (x : Nat) (hx : x ∈ [g, q]) : x ∈ [g, q, h, b, u] := by simp at hx ⊢; omega
theorem sub2 (x : Nat) (hx : x ∈ [h, b, u]) : x ∈ [g, q, h, b, u] := by simp at hx ⊢; omega
end

end Go.Proofs.Ytecelmhiffcaeaa
/- The walk of ChartPlays: same. -/
namespace Go.Proofs.Ytecelmhiffcaeaa
open Go.RowKit
set_option linter.unusedVariables false
set_option maxRecDepth 20000

end Go.Proofs.Ytecelmhiffcaeaa
/- The reference's account made anew. -/
namespace Go.Proofs.Ytecelmhiffcaeaa
open Go.RowKit
set_option linter.unusedVariables false
set_option maxRecDepth 20000

theorem madeq (z : Value) (n : Nat) : madeCells #[z] n = (List.replicate n z).toArray := by
  apply Array.ext
  · simp [madeCells]
  · intro i h1 h2
    simp [madeCells, Nat.mod_one]
theorem info_u32 : (Try.prog.info? 31).map (fun i => (i.zero, i.size, i.bytes)) = some (some (.int .u32 0), 1, 4) := by kernel_rfl
theorem info_i64 : (Try.prog.info? 3).map (fun i => (i.zero, i.size, i.bytes)) = some (some (.int .i64 0), 1, 8) := by kernel_rfl
theorem make_i64 (n : Nat) (hn : n ≤ 1000) (W : World) : (Instr.makeSlice 30 (.int .i64 (n : Int)) (.int .i64 (n : Int))).run Try.prog W =
    .ok (.slice (some ⟨W.heap.size, 0, none⟩) n n) (W.alloc (.cells (uss (List.replicate n (0, 0))).toArray 3)) := by
  have := run_make_row' (P := Try.prog) 30 3 (.int .i64 0) 8 Try.underlying30 info_i64 rfl .i64 .i64 n (by omega) (by omega) W
  rw [madeq] at this
  simpa [uss] using this
end Go.Proofs.Ytecelmhiffcaeaa
