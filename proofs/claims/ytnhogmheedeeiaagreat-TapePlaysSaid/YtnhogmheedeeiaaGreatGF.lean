/- Merged texts: PRight, Piece, Piece2, Piece3, Piece4. -/
import Derived.Test.YtnhogmheedeeiaaGreatGA
import Derived.Deep.RegionHeld3
import Derived.Deep.DeepCutAuto
set_option linter.unusedSimpArgs false
set_option linter.unusedVariables false
/- The reference's PieceRight (walked ahead of the contracts that lay laws on draws). -/
namespace Go.Proofs.YtnhogmheedeeiaaGreat
open Go.RowKit
set_option linter.unusedVariables false
set_option maxRecDepth 20000

theorem frcells (w : World) (k a b : Int) (s : ByteArray) : (w.alloc (fob k a b s)).cell? ⟨w.heap.size, 0, none⟩ = some (.int .i64 k) ∧ (w.alloc (fob k a b s)).cell? ⟨w.heap.size, 1, none⟩ = some (.int .u32 a) ∧ (w.alloc (fob k a b s)).cell? ⟨w.heap.size, 2, none⟩ = some (.int .u32 b) ∧ (w.alloc (fob k a b s)).cell? ⟨w.heap.size, 3, none⟩ = some (.string s) := Frk w k a b s _ (Kp.refl _)

/-- What the guards of a seal's body say, in their order. -/
def SealWay (a b : Int) (s : ByteArray) (B : Bool) : Prop :=
  ((b != 0) = false ∧ B = false) ∨
  ((b != 0) = true ∧ ((s.size : Int) == 16) = false ∧ B = false) ∨
  ((b != 0) = true ∧ ((s.size : Int) == 16) = true ∧ s.size = 16 ∧ decide ((get4 s 0 : Int) < a) = false ∧ B = false) ∨
  ((b != 0) = true ∧ ((s.size : Int) == 16) = true ∧ s.size = 16 ∧ decide ((get4 s 0 : Int) < a) = true ∧ decide ((1 : Int) ≤ get4 s 4) = false ∧ B = false) ∨
  ((b != 0) = true ∧ ((s.size : Int) == 16) = true ∧ s.size = 16 ∧ decide ((get4 s 0 : Int) < a) = true ∧ decide ((1 : Int) ≤ get4 s 4) = true ∧ decide ((get4 s 4 : Int) ≤ a) = false ∧ B = false) ∨
  ((b != 0) = true ∧ ((s.size : Int) == 16) = true ∧ s.size = 16 ∧ decide ((get4 s 0 : Int) < a) = true ∧ decide ((1 : Int) ≤ get4 s 4) = true ∧ decide ((get4 s 4 : Int) ≤ a) = true ∧ B = ((get4 s 12 : Int) != 0))
def FloorWay (a : Int) (s : ByteArray) (B : Bool) : Prop :=
  (((s.size : Int) == 4) = false ∧ B = false) ∨
  (((s.size : Int) == 4) = true ∧ s.size = 4 ∧ B = decide ((get4 s 0 : Int) ≤ a))
end Go.Proofs.YtnhogmheedeeiaaGreat
/- The contracts of package piece. -/
namespace Go.Proofs.YtnhogmheedeeiaaGreat
open Go.RowKit
set_option linter.unusedVariables false
set_option maxRecDepth 20000

/-- A piece. -/
inductive Pc where
  | head (e r : Int)
  | part (s a : Int) (t : ByteArray)
  | slp (s p v f u z : Int)
  | floor (s g f : Int)
def pval : Option Pc → Value
  | none => .nilIface
  | some (.head e r) => .iface 114 (.agg #[.int .u32 e, .int .u32 r])
  | some (.part s a t) => .iface 135 (.agg #[.int .u32 s, .int .u32 a, .string t])
  | some (.slp s p v f u z) => .iface 137 (.agg #[.int .u32 s, .int .u32 p, .int .u32 v, .int .u32 f, .int .u32 u, .int .u32 z])
  | some (.floor s g f) => .iface 139 (.agg #[.int .u32 s, .int .u32 g, .int .u32 f])

set_option maxHeartbeats 400000 in
theorem number_any (b : ByteArray) (i : Nat) (hs : b.size ≤ 140737488351232) (h : 4 * i + 4 ≤ b.size) (hi : i ≤ 10) (w : World) :
    Calls Tryz.prog 100 #[.string b, .int .i64 i] w fun e w' => e = .returned (.int .u32 (get4 b (4 * i) : Nat)) ∧ ∃ n, w.drewN n = w' := by
  have hg := fun W => get_yes b (4 * i) (by omega) (by omega) W
  rw [show ((4 * i : Nat) : Int) = 4 * (i : Int) by omega] at hg
  have HG := Lib.hid hg
  clear hg
  go_enter Tryz.func100, Tryz.ntmps100
  go_wp2_with fail
  refine (HG.out _).mono ?_
  rintro e w1 ⟨rfl, n, rfl⟩
  go_wp2_with fail
  go_ret
  exact ⟨rfl, n, rfl⟩

/-- What a frame says. -/
def ofP (k a b : Int) (s : ByteArray) : Option Pc :=
  if 1 ≤ a ∧ a ≤ 2147483647 then
    if k = 1 ∧ s.toList.isEmpty = true then some (.head a b)
    else if k = 2 ∧ s.toList.isEmpty = false then some (.part a b s)
    else if k = 3 ∧ s.size = 16 ∧ b ≠ 0 ∧ (get4 s 0 : Int) < a ∧ 1 ≤ get4 s 4 ∧ (get4 s 4 : Int) ≤ a ∧ get4 s 12 ≠ 0 then some (.slp a b (get4 s 0) (get4 s 4) (get4 s 8) (get4 s 12))
    else if k = 4 ∧ s.size = 4 ∧ (get4 s 0 : Int) ≤ a then some (.floor a b (get4 s 0))
    else none
  else none
def codeP : Option Pc → Int
  | none => 2
  | some _ => 0

set_option maxHeartbeats 800000 in
theorem of_bad (k a b : Int) (s : ByteArray) (h : a < 1 ∨ 2147483647 < a) (w : World) :
    Calls Tryz.prog 92 #[frv k a b s] w fun e w' => e = .returned (.tuple #[.nilIface, .int .i64 2]) ∧ Kp w w' := by
  have h' : a < 1 ∨ (1 ≤ a ∧ 2147483647 < a) := by omega
  clear h
  rcases h' with h | ⟨h1, h2⟩
  all_goals
    go_enter Tryz.func92, Tryz.ntmps92
    go_wp2
    go_ret2
    refine ⟨rfl, ?_⟩
    (repeat (first | with_reducible exact Kp.refl _ | with_reducible assumption | with_reducible refine Kp.alloc ?_ _ | with_reducible refine Kp.drew ?_ | with_reducible refine Kp.drewN ?_ _ | exact Kp.refl _ | assumption | refine Kp.alloc ?_ _ | refine Kp.drew ?_ | refine Kp.drewN ?_ _ | refine Kp.trans ?_ (by assumption)))
set_option maxHeartbeats 800000 in
theorem of_head (a b : Int) (s : ByteArray) (h1 : 1 ≤ a) (h2 : a ≤ 2147483647) (hs : s.toList.isEmpty = true) (w : World) :
    Calls Tryz.prog 92 #[frv 1 a b s] w fun e w' => e = .returned (.tuple #[pval (some (.head a b)), .int .i64 0]) ∧ Kp w w' := by
  go_enter Tryz.func92, Tryz.ntmps92
  go_wp2
  go_ret2
  refine ⟨rfl, ?_⟩
  (repeat (first | with_reducible exact Kp.refl _ | with_reducible assumption | with_reducible refine Kp.alloc ?_ _ | with_reducible refine Kp.drew ?_ | with_reducible refine Kp.drewN ?_ _ | exact Kp.refl _ | assumption | refine Kp.alloc ?_ _ | refine Kp.drew ?_ | refine Kp.drewN ?_ _ | refine Kp.trans ?_ (by assumption)))
set_option maxHeartbeats 800000 in
theorem of_part (a b : Int) (s : ByteArray) (h1 : 1 ≤ a) (h2 : a ≤ 2147483647) (hs : s.toList.isEmpty = false) (w : World) :
    Calls Tryz.prog 92 #[frv 2 a b s] w fun e w' => e = .returned (.tuple #[pval (some (.part a b s)), .int .i64 0]) ∧ Kp w w' := by
  go_enter Tryz.func92, Tryz.ntmps92
  go_wp2
  go_ret2
  refine ⟨rfl, ?_⟩
  (repeat (first | with_reducible exact Kp.refl _ | with_reducible assumption | with_reducible refine Kp.alloc ?_ _ | with_reducible refine Kp.drew ?_ | with_reducible refine Kp.drewN ?_ _ | exact Kp.refl _ | assumption | refine Kp.alloc ?_ _ | refine Kp.drew ?_ | refine Kp.drewN ?_ _ | refine Kp.trans ?_ (by assumption)))
theorem number_i (b : ByteArray) (hs : b.size ≤ 140737488351232) (j : Int) (h0 : 0 ≤ j) (h : 4 * j + 4 ≤ b.size) (hj : j ≤ 10) (w : World) :
    Calls Tryz.prog 100 #[.string b, .int .i64 j] w fun e w' => e = .returned (.int .u32 (get4 b (4 * j.toNat) : Nat)) ∧ ∃ n, w.drewN n = w' := by
  have := number_any b j.toNat hs (by omega) (by omega) w
  rwa [Int.toNat_of_nonneg h0] at this

@[go_sem] theorem drewN_alloc (w : World) (o : Obj) (n : Nat) : (w.alloc o).drewN n = (w.drewN n).alloc o := rfl
@[go_sem] theorem drewN_size (w : World) (n : Nat) : (w.drewN n).heap.size = w.heap.size := rfl
@[go_sem] theorem drewN_cell (w : World) (n : Nat) (p : Addr) : (w.drewN n).cell? p = w.cell? p := rfl
@[go_sem] theorem drewN_frozen (w : World) (n : Nat) (p : Addr) : (w.drewN n).frozen? p = w.frozen? p := rfl
theorem FrkN (w : World) (k a b : Int) (s : ByteArray) : ∀ W W', Kp W' W → W'.heap = (w.alloc (fob k a b s)).heap → W.cell? ⟨w.heap.size, 0, none⟩ = some (.int .i64 k) ∧ W.cell? ⟨w.heap.size, 1, none⟩ = some (.int .u32 a) ∧ W.cell? ⟨w.heap.size, 2, none⟩ = some (.int .u32 b) ∧ W.cell? ⟨w.heap.size, 3, none⟩ = some (.string s) := fun W W' h e => by
  have hb : Bk W' w.heap.size 31 [.int .i64 k, .int .u32 a, .int .u32 b, .string s] := by
    unfold Bk; rw [e]; exact Bk.new w _ _
  have hb := hb.keep h
  exact ⟨hb.cell 0, hb.cell 1, hb.cell 2, hb.cell 3⟩

theorem Bk.at (W : World) (t : TypeId) (cs : List Value) (g : Nat) (h : W.heap.size = g) : Bk (W.alloc (.cells cs.toArray t)) g t cs := by subst h; exact Bk.new W t cs

set_option maxRecDepth 20000 in
set_option maxHeartbeats 16000000 in
theorem of_seal (a b : Int) (s : ByteArray) (h1 : 1 ≤ a) (h2 : a ≤ 2147483647) (hs : s.size = 16) (hb : (b != 0) = true) (w : World) :
    Calls Tryz.prog 92 #[frv 3 a b s] w fun e w' => e = .returned (.tuple #[pval (ofP 3 a b s), .int .i64 (codeP (ofP 3 a b s))]) ∧ Kp w w' := by
  have hz : ((s.size : Int) == 16) = true := by simp [hs]
  have hF2 := Lib.hid (FrkN w 3 a b s)
  have hof : ofP 3 a b s = if (get4 s 0 : Int) < a ∧ 1 ≤ get4 s 4 ∧ (get4 s 4 : Int) ≤ a ∧ get4 s 12 ≠ 0 then some (.slp a b (get4 s 0) (get4 s 4) (get4 s 8) (get4 s 12)) else none := by
    have hb' : b ≠ 0 := by simpa using hb
    unfold ofP
    rw [if_pos ⟨h1, h2⟩, if_neg (by omega), if_neg (by omega)]
    by_cases c : (get4 s 0 : Int) < a ∧ 1 ≤ get4 s 4 ∧ (get4 s 4 : Int) ≤ a ∧ get4 s 12 ≠ 0
    · rw [if_pos ⟨rfl, hs, hb', c⟩, if_pos c]
    · rw [if_neg (fun h => c h.2.2.2), if_neg c, if_neg (by omega)]
  have HOF := Lib.hid hof
  clear hof
  go_enter Tryz.func92, Tryz.ntmps92
  go_upto_region 9 with fail
  go_cut [5] (fun v wx => Kp w wx ∧ ∃ g, v = .pointer (some ⟨g, 0, none⟩) ∧ Bk wx g 137 [.int .u32 a, .int .u32 b, .int .u32 (get4 s 0 : Nat), .int .u32 (get4 s 4 : Nat), .int .u32 (get4 s 8 : Nat), .int .u32 (get4 s 12 : Nat)])
  case first =>
    go_region_held3 (fun (W : World) => W.cell? ⟨w.heap.size, 0, none⟩ = some (.int .i64 3) ∧ W.cell? ⟨w.heap.size, 1, none⟩ = some (.int .u32 a) ∧ W.cell? ⟨w.heap.size, 2, none⟩ = some (.int .u32 b) ∧ W.cell? ⟨w.heap.size, 3, none⟩ = some (.string s)) (first | exact hF2.out _ _ (Kp.refl _) rfl | exact hF2.out _ _ (Kp.one _ _) rfl | exact hF2.out _ _ ((Kp.one _ _).drew) rfl)
      (first
        | (go_at_call 100; refine (number_i s (by omega) _ (by omega) (by omega) (by omega) _).mono ?_; rintro e w' ⟨rfl, n, rfl⟩))

    all_goals go_wp2_with fail
    all_goals go_meet
    all_goals exact ⟨by (repeat (first | with_reducible exact Kp.refl _ | with_reducible assumption | with_reducible refine Kp.alloc ?_ _ | with_reducible refine Kp.drew ?_ | with_reducible refine Kp.drewN ?_ _ | exact Kp.refl _ | assumption | refine Kp.alloc ?_ _ | refine Kp.drew ?_ | refine Kp.drewN ?_ _ | refine Kp.trans ?_ (by assumption))), _, rfl, Bk.at _ _ [_, _, _, _, _, _] _ (by simp [go_sem])⟩
  case rest =>
    obtain ⟨hK, g, rfl, hB⟩ := hcut
    have c0 := hB.cell 0
    have c1 := hB.cell 1
    have c2 := hB.cell 2
    have c3 := hB.cell 3
    have c4 := hB.cell 4
    have c5 := hB.cell 5
    simp only [List.getElem?_cons_zero, List.getElem?_cons_succ] at c0 c1 c2 c3 c4 c5
    have n0 : (0 : Int) ≤ get4 s 0 := by omega
    generalize get4 s 0 = p at *
    generalize get4 s 4 = v at *
    generalize get4 s 8 = f at *
    generalize get4 s 12 = u at *
    clear hB hF2
    by_cases e0 : (p : Int) < a
    · by_cases e1 : (1 : Int) ≤ v
      · by_cases e2 : (v : Int) ≤ a
        · by_cases e3 : u = 0
          · subst e3
            have hr : ofP 3 a b s = none := by rw [HOF.out, if_neg (by omega)]
            clear HOF
            go_wp2_with fail
            go_ret2
            exact ⟨by first | rfl | (rw [hr]; rfl), hK⟩
          · have e4 : ((u : Int) != 0) = true := by simp; omega
            have hr := HOF.out
            rw [if_pos ⟨e0, by omega, e2, e3⟩] at hr
            clear HOF
            go_wp2_with fail
            go_ret2
            exact ⟨by first | rfl | (rw [hr]; rfl), hK⟩
        · have hr : ofP 3 a b s = none := by rw [HOF.out, if_neg (by omega)]
          clear HOF
          go_wp2_with fail
          go_ret2
          exact ⟨by first | rfl | (rw [hr]; rfl), hK⟩
      · have hr : ofP 3 a b s = none := by rw [HOF.out, if_neg (by omega)]
        clear HOF
        go_wp2_with fail
        go_ret2
        exact ⟨by first | rfl | (rw [hr]; rfl), hK⟩
    · have hr : ofP 3 a b s = none := by rw [HOF.out, if_neg (by omega)]
      clear HOF
      go_wp2_with fail
      go_ret2
      exact ⟨by first | rfl | (rw [hr]; rfl), hK⟩
end Go.Proofs.YtnhogmheedeeiaaGreat
/- The contracts of package piece, second part: a floor, what is no piece, Of as a whole. -/
namespace Go.Proofs.YtnhogmheedeeiaaGreat
open Go.RowKit
set_option linter.unusedVariables false
set_option maxRecDepth 20000

set_option maxRecDepth 20000 in
set_option maxHeartbeats 4000000 in
theorem of_floor (a b : Int) (s : ByteArray) (h1 : 1 ≤ a) (h2 : a ≤ 2147483647) (hs : s.size = 4) (w : World) :
    Calls Tryz.prog 92 #[frv 4 a b s] w fun e w' => e = .returned (.tuple #[pval (ofP 4 a b s), .int .i64 (codeP (ofP 4 a b s))]) ∧ Kp w w' := by
  have hz : ((s.size : Int) == 4) = true := by simp [hs]
  have hF2 := Lib.hid (FrkN w 4 a b s)
  have hof : ofP 4 a b s = if (get4 s 0 : Int) ≤ a then some (.floor a b (get4 s 0)) else none := by
    unfold ofP
    rw [if_pos ⟨h1, h2⟩, if_neg (by omega), if_neg (by omega), if_neg (by omega)]
    by_cases c : (get4 s 0 : Int) ≤ a
    · rw [if_pos ⟨rfl, hs, c⟩, if_pos c]
    · rw [if_neg (fun h => c h.2.2), if_neg c]
  have HOF := Lib.hid hof
  clear hof
  go_enter Tryz.func92, Tryz.ntmps92
  go_upto_region 13 with fail
  go_cut [6] (fun v wx => Kp w wx ∧ ∃ g, v = .pointer (some ⟨g, 0, none⟩) ∧ Bk wx g 139 [.int .u32 a, .int .u32 b, .int .u32 (get4 s 0 : Nat)])
  case first =>
    go_region_held3 (fun (W : World) => W.cell? ⟨w.heap.size, 0, none⟩ = some (.int .i64 4) ∧ W.cell? ⟨w.heap.size, 1, none⟩ = some (.int .u32 a) ∧ W.cell? ⟨w.heap.size, 2, none⟩ = some (.int .u32 b) ∧ W.cell? ⟨w.heap.size, 3, none⟩ = some (.string s)) (first | exact hF2.out _ _ (Kp.refl _) rfl | exact hF2.out _ _ (Kp.one _ _) rfl | exact hF2.out _ _ ((Kp.one _ _).drew) rfl)
      (first
        | (go_at_call 100; refine (number_i s (by omega) _ (by omega) (by omega) (by omega) _).mono ?_; rintro e w' ⟨rfl, n, rfl⟩))
    all_goals go_wp2_with fail
    all_goals go_meet
    all_goals exact ⟨by (repeat (first | with_reducible exact Kp.refl _ | with_reducible assumption | with_reducible refine Kp.alloc ?_ _ | with_reducible refine Kp.drew ?_ | with_reducible refine Kp.drewN ?_ _ | exact Kp.refl _ | assumption | refine Kp.alloc ?_ _ | refine Kp.drew ?_ | refine Kp.drewN ?_ _ | refine Kp.trans ?_ (by assumption))), _, rfl, Bk.at _ _ [_, _, _] _ (by simp [go_sem])⟩
  case rest =>
    obtain ⟨hK, g, rfl, hB⟩ := hcut
    have c0 := hB.cell 0
    have c1 := hB.cell 1
    have c2 := hB.cell 2
    simp only [List.getElem?_cons_zero, List.getElem?_cons_succ] at c0 c1 c2
    generalize get4 s 0 = p at *
    clear hB hF2
    by_cases e0 : (p : Int) ≤ a
    · have hr := HOF.out
      rw [if_pos e0] at hr
      clear HOF
      go_wp2_with fail
      go_ret2
      exact ⟨by first | rfl | (rw [hr]; rfl), hK⟩
    · have hr : ofP 4 a b s = none := by rw [HOF.out, if_neg (by omega)]
      clear HOF
      go_wp2_with fail
      go_ret2
      exact ⟨by first | rfl | (rw [hr]; rfl), hK⟩

/-- A frame that is of no kind, or whose body's length is another. -/
def NoKind (k b : Int) (s : ByteArray) : Prop :=
  (k = 1 ∧ s.toList.isEmpty = false) ∨ (k = 2 ∧ s.toList.isEmpty = true) ∨ (k = 3 ∧ ((s.size : Int) == 16) = false) ∨ (k = 3 ∧ ((s.size : Int) == 16) = true ∧ (b != 0) = false) ∨ (k = 4 ∧ ((s.size : Int) == 4) = false) ∨
  ((k == 1) = false ∧ (k == 2) = false ∧ (k == 3) = false ∧ (k == 4) = false)
set_option maxHeartbeats 1600000 in
theorem of_no (k a b : Int) (s : ByteArray) (h1 : 1 ≤ a) (h2 : a ≤ 2147483647) (hs : s.size ≤ 9223372036854775807) (h : NoKind k b s) (w : World) :
    Calls Tryz.prog 92 #[frv k a b s] w fun e w' => e = .returned (.tuple #[.nilIface, .int .i64 2]) ∧ Kp w w' := by
  rcases h with ⟨rfl, h⟩ | ⟨rfl, h⟩ | ⟨rfl, h⟩ | ⟨rfl, h, h'⟩ | ⟨rfl, h⟩ | ⟨e1, e2, e3, e4⟩
  all_goals
    go_enter Tryz.func92, Tryz.ntmps92
    go_wp2
    go_ret2
    refine ⟨rfl, ?_⟩
    (repeat (first | with_reducible exact Kp.refl _ | with_reducible assumption | with_reducible refine Kp.alloc ?_ _ | with_reducible refine Kp.drew ?_ | with_reducible refine Kp.drewN ?_ _ | exact Kp.refl _ | assumption | refine Kp.alloc ?_ _ | refine Kp.drew ?_ | refine Kp.drewN ?_ _ | refine Kp.trans ?_ (by assumption)))
end Go.Proofs.YtnhogmheedeeiaaGreat
/- The contracts of package piece, third part: Of as a whole, AsPart, AsSeal, AsFloor, Kind. -/
namespace Go.Proofs.YtnhogmheedeeiaaGreat
open Go.RowKit
set_option linter.unusedVariables false
set_option maxRecDepth 20000

theorem of_any (k a b : Int) (s : ByteArray) (hs : s.size ≤ 9223372036854775807) (w : World) :
    Calls Tryz.prog 92 #[frv k a b s] w fun e w' => e = .returned (.tuple #[pval (ofP k a b s), .int .i64 (codeP (ofP k a b s))]) ∧ Kp w w' := by
  by_cases h1 : 1 ≤ a ∧ a ≤ 2147483647
  · obtain ⟨h1, h2⟩ := h1
    by_cases hn : NoKind k b s
    · have e : ofP k a b s = none := by
        unfold ofP
        rw [if_pos ⟨h1, h2⟩]
        rcases hn with ⟨rfl, h⟩ | ⟨rfl, h⟩ | ⟨rfl, h⟩ | ⟨rfl, h, h'⟩ | ⟨rfl, h⟩ | ⟨e1, e2, e3, e4⟩
        · rw [if_neg (by simp [h]), if_neg (by omega), if_neg (by omega), if_neg (by omega)]
        · rw [if_neg (by omega), if_neg (by simp [h]), if_neg (by omega), if_neg (by omega)]
        · have : s.size ≠ 16 := fun e => by rw [e] at h; simp at h
          rw [if_neg (by omega), if_neg (by omega), if_neg (fun h => this h.2.1), if_neg (by omega)]
        · have : b = 0 := by simpa using h'
          rw [if_neg (by omega), if_neg (by omega), if_neg (fun h => h.2.2.1 this), if_neg (by omega)]
        · have : s.size ≠ 4 := fun e => by rw [e] at h; simp at h
          rw [if_neg (by omega), if_neg (by omega), if_neg (by omega), if_neg (fun h => this h.2.1)]
        · have f1 : k ≠ 1 := by simpa using e1
          have f2 : k ≠ 2 := by simpa using e2
          have f3 : k ≠ 3 := by simpa using e3
          have f4 : k ≠ 4 := by simpa using e4
          rw [if_neg (fun h => f1 h.1), if_neg (fun h => f2 h.1), if_neg (fun h => f3 h.1), if_neg (fun h => f4 h.1)]
      rw [e]
      exact of_no k a b s h1 h2 hs hn w
    · have c1 : k = 1 → s.toList.isEmpty = true := fun e => by
        rcases hb : s.toList.isEmpty with _ | _
        · exact absurd (Or.inl ⟨e, hb⟩) hn
        · rfl
      by_cases k1 : k = 1
      · subst k1
        have e : ofP 1 a b s = some (.head a b) := by unfold ofP; rw [if_pos ⟨h1, h2⟩, if_pos ⟨rfl, c1 rfl⟩]
        rw [e]
        exact of_head a b s h1 h2 (c1 rfl) w
      · by_cases k2 : k = 2
        · subst k2
          have c : s.toList.isEmpty = false := by
            rcases hb : s.toList.isEmpty with _ | _
            · rfl
            · exact absurd (Or.inr (Or.inl ⟨rfl, hb⟩)) hn
          have e : ofP 2 a b s = some (.part a b s) := by unfold ofP; rw [if_pos ⟨h1, h2⟩, if_neg (by omega), if_pos ⟨rfl, c⟩]
          rw [e]
          exact of_part a b s h1 h2 c w
        · by_cases k3 : k = 3
          · subst k3
            have c : ((s.size : Int) == 16) = true := by
              rcases hb : ((s.size : Int) == 16) with _ | _
              · exact absurd (Or.inr (Or.inr (Or.inl ⟨rfl, hb⟩))) hn
              · rfl
            have d : (b != 0) = true := by
              rcases hb : (b != 0) with _ | _
              · exact absurd (Or.inr (Or.inr (Or.inr (Or.inl ⟨rfl, c, hb⟩)))) hn
              · rfl
            have c' : s.size = 16 := by have := beq_iff_eq.1 c; omega
            exact of_seal a b s h1 h2 c' d w
          · by_cases k4 : k = 4
            · subst k4
              have c : ((s.size : Int) == 4) = true := by
                rcases hb : ((s.size : Int) == 4) with _ | _
                · exact absurd (Or.inr (Or.inr (Or.inr (Or.inr (Or.inl ⟨rfl, hb⟩))))) hn
                · rfl
              have c' : s.size = 4 := by have := beq_iff_eq.1 c; omega
              exact of_floor a b s h1 h2 c' w
            · exact absurd (Or.inr (Or.inr (Or.inr (Or.inr (Or.inr ⟨by simpa using k1, by simpa using k2, by simpa using k3, by simpa using k4⟩))))) hn
  · have e : ofP k a b s = none := by unfold ofP; rw [if_neg h1]
    rw [e]
    exact of_bad k a b s (by omega) w

/-- A part's, a seal's, a floor's cells. -/
def partV : Option Pc → Value × Bool
  | some (.part s a t) => (.agg #[.int .u32 s, .int .u32 a, .string t], true)
  | _ => (.agg #[.int .u32 0, .int .u32 0, .string ⟨#[]⟩], false)
def sealV : Option Pc → Value × Bool
  | some (.slp s p v f u z) => (.agg #[.int .u32 s, .int .u32 p, .int .u32 v, .int .u32 f, .int .u32 u, .int .u32 z], true)
  | _ => (.agg #[.int .u32 0, .int .u32 0, .int .u32 0, .int .u32 0, .int .u32 0, .int .u32 0], false)
def floorV : Option Pc → Value × Bool
  | some (.floor s g f) => (.agg #[.int .u32 s, .int .u32 g, .int .u32 f], true)
  | _ => (.agg #[.int .u32 0, .int .u32 0, .int .u32 0], false)

def headV : Option Pc → Value × Bool
  | some (.head e r) => (.agg #[.int .u32 e, .int .u32 r], true)
  | _ => (.agg #[.int .u32 0, .int .u32 0], false)

section
variable {P : Program} {t t' : TypeId} {fs : Array Field} {z : Value}
theorem ta_yes (hu : P.underlying t = some (.struct fs)) (v : Value) (xT : TypeId) (w : World) : (Instr.typeAssert (.iface t v) xT t true).run P w = .ok (.tuple #[v, .bool true]) w := by
  simp [Instr.typeAssert, run_underlying hu]
theorem ta_no (hu : P.underlying t = some (.struct fs)) (hz : (P.info? t).map (·.zero) = some (some z)) (hne : t' ≠ t) (v : Value) (xT : TypeId) (w : World) : (Instr.typeAssert (.iface t' v) xT t true).run P w = .ok (.tuple #[z, .bool false]) w := by
  obtain ⟨j, hj, hz'⟩ := Option.map_eq_some_iff.1 hz
  simp [Instr.typeAssert, run_underlying hu, hne, zeroValue, typeInfo, hj, hz']
theorem ta_nil (hu : P.underlying t = some (.struct fs)) (hz : (P.info? t).map (·.zero) = some (some z)) (xT : TypeId) (w : World) : (Instr.typeAssert .nilIface xT t true).run P w = .ok (.tuple #[z, .bool false]) w := by
  obtain ⟨j, hj, hz'⟩ := Option.map_eq_some_iff.1 hz
  simp [Instr.typeAssert, run_underlying hu, zeroValue, typeInfo, hj, hz']
end
theorem ta_head (p : Option Pc) (w : World) : (Instr.typeAssert (pval p) 133 114 true).run Tryz.prog w = .ok (.tuple #[(headV p).1, .bool (headV p).2]) w := by
  rcases p with _ | ⟨e, r⟩ | ⟨s, a, t⟩ | ⟨s, p, v, f, u, z⟩ | ⟨s, g, f⟩
  · exact ta_nil Tryz.underlying114 (by kernel_rfl) _ w
  · exact ta_yes Tryz.underlying114 _ _ w
  all_goals exact ta_no Tryz.underlying114 (by kernel_rfl) (by decide) _ _ w
theorem ta_part (p : Option Pc) (w : World) : (Instr.typeAssert (pval p) 133 135 true).run Tryz.prog w = .ok (.tuple #[(partV p).1, .bool (partV p).2]) w := by
  rcases p with _ | ⟨e, r⟩ | ⟨s, a, t⟩ | ⟨s, p, v, f, u, z⟩ | ⟨s, g, f⟩
  · exact ta_nil Tryz.underlying135 (by kernel_rfl) _ w
  · exact ta_no Tryz.underlying135 (by kernel_rfl) (by decide) _ _ w
  · exact ta_yes Tryz.underlying135 _ _ w
  all_goals exact ta_no Tryz.underlying135 (by kernel_rfl) (by decide) _ _ w
theorem ta_seal (p : Option Pc) (w : World) : (Instr.typeAssert (pval p) 133 137 true).run Tryz.prog w = .ok (.tuple #[(sealV p).1, .bool (sealV p).2]) w := by
  rcases p with _ | ⟨e, r⟩ | ⟨s, a, t⟩ | ⟨s, p, v, f, u, z⟩ | ⟨s, g, f⟩
  · exact ta_nil Tryz.underlying137 (by kernel_rfl) _ w
  · exact ta_no Tryz.underlying137 (by kernel_rfl) (by decide) _ _ w
  · exact ta_no Tryz.underlying137 (by kernel_rfl) (by decide) _ _ w
  · exact ta_yes Tryz.underlying137 _ _ w
  · exact ta_no Tryz.underlying137 (by kernel_rfl) (by decide) _ _ w
theorem ta_floor (p : Option Pc) (w : World) : (Instr.typeAssert (pval p) 133 139 true).run Tryz.prog w = .ok (.tuple #[(floorV p).1, .bool (floorV p).2]) w := by
  rcases p with _ | ⟨e, r⟩ | ⟨s, a, t⟩ | ⟨s, p, v, f, u, z⟩ | ⟨s, g, f⟩
  · exact ta_nil Tryz.underlying139 (by kernel_rfl) _ w
  · exact ta_no Tryz.underlying139 (by kernel_rfl) (by decide) _ _ w
  · exact ta_no Tryz.underlying139 (by kernel_rfl) (by decide) _ _ w
  · exact ta_no Tryz.underlying139 (by kernel_rfl) (by decide) _ _ w
  · exact ta_yes Tryz.underlying139 _ _ w

end Go.Proofs.YtnhogmheedeeiaaGreat
/- The contracts of package piece, fourth part: Frame. -/
namespace Go.Proofs.YtnhogmheedeeiaaGreat
open Go.RowKit
set_option linter.unusedVariables false
set_option maxRecDepth 20000

/-- The frame that says a piece. -/
def fkOf : Option Pc → Int
  | none => 0
  | some (.head ..) => 1
  | some (.part ..) => 2
  | some (.slp ..) => 3
  | some (.floor ..) => 4
def faOf : Option Pc → Int
  | none => 0
  | some (.head e _) => e
  | some (.part s _ _) => s
  | some (.slp s ..) => s
  | some (.floor s ..) => s
def fbOf : Option Pc → Int
  | none => 0
  | some (.head _ r) => r
  | some (.part _ a _) => a
  | some (.slp _ p ..) => p
  | some (.floor _ g _) => g
def fsOf : Option Pc → ByteArray
  | none => ⟨#[]⟩
  | some (.head ..) => ⟨#[]⟩
  | some (.part _ _ t) => t
  | some (.slp _ _ v f u z) => put v.toNat ++ put f.toNat ++ put u.toNat ++ put z.toNat
  | some (.floor _ _ f) => put f.toNat
/-- What Frame answers. -/
def frameV (k a b : Int) (s : ByteArray) : Value := match ofP k a b s with
  | none => .tuple #[frv 0 0 0 ⟨#[]⟩, .int .i64 2]
  | some _ => .tuple #[frv k a b s, .int .i64 0]
def PcOk : Option Pc → Prop
  | some (.part _ _ t) => t.size ≤ 9223372036854775807
  | some (.slp _ _ v f u z) => (0 ≤ v ∧ v ≤ 4294967295) ∧ (0 ≤ f ∧ f ≤ 4294967295) ∧ (0 ≤ u ∧ u ≤ 4294967295) ∧ (0 ≤ z ∧ z ≤ 4294967295)
  | some (.floor _ _ f) => 0 ≤ f ∧ f ≤ 4294967295
  | _ => True

/-- The two boxes: the answer's, the frame's. -/
theorem two_frames (w : World) (k a b : Int) (s : ByteArray) (W : World) (h : Kp ((w.alloc (fob 0 0 0 ⟨#[]⟩)).alloc (fob k a b s)) W) :
    Bk W w.heap.size 31 [.int .i64 0, .int .u32 0, .int .u32 0, .string ⟨#[]⟩] ∧ Bk W (w.heap.size + 1) 31 [.int .i64 k, .int .u32 a, .int .u32 b, .string s] := by
  have h1 : Bk (w.alloc (fob 0 0 0 ⟨#[]⟩)) w.heap.size 31 [.int .i64 0, .int .u32 0, .int .u32 0, .string ⟨#[]⟩] := Bk.new w _ _
  have h2 : Bk ((w.alloc (fob 0 0 0 ⟨#[]⟩)).alloc (fob k a b s)) (w.heap.size + 1) 31 [.int .i64 k, .int .u32 a, .int .u32 b, .string s] := Bk.at _ _ [_, _, _, _] _ (World.size_alloc _ _)
  exact ⟨(h1.alloc _).keep h, h2.keep h⟩

set_option maxHeartbeats 1600000 in
theorem frame_easy (p : Option Pc) (hp : PcOk p) (he : fkOf p ≤ 2) (w : World) :
    Calls Tryz.prog 76 #[pval p] w fun e w' => e = .returned (frameV (fkOf p) (faOf p) (fbOf p) (fsOf p)) ∧ Kp w w' := by
  have t1 := ta_head p
  have t2 := ta_part p
  have t3 := ta_seal p
  have t4 := ta_floor p
  have h2 := fun k a b s W h => two_frames w k a b s W h
  have H2 := Lib.hid h2
  clear h2
  rcases p with _ | ⟨e, r⟩ | ⟨s, a, t⟩ | ⟨s, p, v, f, u, z⟩ | ⟨s, g, f⟩
  · simp only [pval, headV, partV, sealV, floorV, fkOf, faOf, fbOf, fsOf] at t1 t2 t3 t4 ⊢
    have ho : ofP 0 0 0 ⟨#[]⟩ = none := by unfold ofP; rw [if_neg (by omega)]
    go_enter Tryz.func76, Tryz.ntmps76
    go_wp2_with fail
    refine (of_any _ _ _ _ (by decide) _).mono ?_
    rintro e w1 ⟨rfl, hk⟩
    obtain ⟨b0, b1⟩ := H2.out 0 0 0 ⟨#[]⟩ w1 hk
    have hK : Kp w w1 := Kp.trans (by (repeat (first | with_reducible exact Kp.refl _ | with_reducible assumption | with_reducible refine Kp.alloc ?_ _ | with_reducible refine Kp.drew ?_ | with_reducible refine Kp.drewN ?_ _ | exact Kp.refl _ | assumption | refine Kp.alloc ?_ _ | refine Kp.drew ?_ | refine Kp.drewN ?_ _ | refine Kp.trans ?_ (by assumption)))) hk
    rw [ho]
    have c0 := b0.cell 0
    have c1 := b0.cell 1
    have c2 := b0.cell 2
    have c3 := b0.cell 3
    have f0 := b0.free 0
    have f1 := b0.free 1
    have f2 := b0.free 2
    have f3 := b0.free 3
    simp only [List.getElem?_cons_zero, List.getElem?_cons_succ] at c0 c1 c2 c3
    simp only [pval, codeP]
    go_wp2_with fail
    refine bodyPost_ret (v := .tuple #[frv 0 0 0 ⟨#[]⟩, .int .i64 2]) (by simp [results, Tryz.results76, go_sem, *]) rfl ⟨?_, ?_⟩
    · unfold frameV; rw [ho]
    · refine Kp.set (Kp.set (Kp.set (Kp.set hK ?_ _) ?_ _) ?_ _) ?_ _ <;> exact Nat.le_refl _
  · simp only [pval, headV, partV, sealV, floorV, fkOf, faOf, fbOf, fsOf, PcOk] at t1 t2 t3 t4 hp ⊢
    go_enter Tryz.func76, Tryz.ntmps76
    go_wp2_with fail
    refine (of_any _ _ _ _ (by decide) _).mono ?_
    rintro e' w1 ⟨rfl, hk⟩
    obtain ⟨b0, b1⟩ := H2.out 1 e r ⟨#[]⟩ w1 (Kp.trans (by (repeat (first | with_reducible exact Kp.refl _ | with_reducible assumption | with_reducible refine Kp.alloc ?_ _ | with_reducible refine Kp.drew ?_ | with_reducible refine Kp.drewN ?_ _ | exact Kp.refl _ | assumption | refine Kp.alloc ?_ _ | refine Kp.drew ?_ | refine Kp.drewN ?_ _ | refine Kp.trans ?_ (by assumption)))) hk)
    have hK : Kp w w1 := Kp.trans (by (repeat (first | with_reducible exact Kp.refl _ | with_reducible assumption | with_reducible refine Kp.alloc ?_ _ | with_reducible refine Kp.drew ?_ | with_reducible refine Kp.drewN ?_ _ | exact Kp.refl _ | assumption | refine Kp.alloc ?_ _ | refine Kp.drew ?_ | refine Kp.drewN ?_ _ | refine Kp.trans ?_ (by assumption)))) hk
    have c0 := b0.cell 0
    have c1 := b0.cell 1
    have c2 := b0.cell 2
    have c3 := b0.cell 3
    have f0 := b0.free 0
    have f1 := b0.free 1
    have f2 := b0.free 2
    have f3 := b0.free 3
    have d0 := b1.cell 0
    have d1 := b1.cell 1
    have d2 := b1.cell 2
    have d3 := b1.cell 3
    simp only [List.getElem?_cons_zero, List.getElem?_cons_succ] at c0 c1 c2 c3 d0 d1 d2 d3
    rcases ho : ofP 1 e r ⟨#[]⟩ with _ | q
    · simp only [pval, codeP]
      have HO := Lib.hid ho
      clear ho
      go_wp2_with fail
      refine bodyPost_ret (v := .tuple #[frv 0 0 0 ⟨#[]⟩, .int .i64 2]) (by simp [results, Tryz.results76, go_sem, *]) rfl ⟨by unfold frameV; rw [HO.out], ?_⟩
      refine Kp.set (Kp.set (Kp.set (Kp.set hK ?_ _) ?_ _) ?_ _) ?_ _ <;> exact Nat.le_refl _
    · simp only [codeP]
      generalize pval (some q) = pv
      have HO := Lib.hid ho
      clear ho
      go_wp2_with fail
      refine bodyPost_ret (v := .tuple #[frv 1 e r ⟨#[]⟩, .int .i64 0]) (by simp [results, Tryz.results76, go_sem, *]) rfl ⟨by unfold frameV; rw [HO.out], ?_⟩
      refine Kp.set (Kp.set (Kp.set (Kp.set hK ?_ _) ?_ _) ?_ _) ?_ _ <;> exact Nat.le_refl _
  · simp only [pval, headV, partV, sealV, floorV, fkOf, faOf, fbOf, fsOf, PcOk] at t1 t2 t3 t4 hp ⊢
    go_enter Tryz.func76, Tryz.ntmps76
    go_wp2_with fail
    refine (of_any _ _ _ _ (hp) _).mono ?_
    rintro e' w1 ⟨rfl, hk⟩
    obtain ⟨b0, b1⟩ := H2.out 2 s a t w1 (Kp.trans (by (repeat (first | with_reducible exact Kp.refl _ | with_reducible assumption | with_reducible refine Kp.alloc ?_ _ | with_reducible refine Kp.drew ?_ | with_reducible refine Kp.drewN ?_ _ | exact Kp.refl _ | assumption | refine Kp.alloc ?_ _ | refine Kp.drew ?_ | refine Kp.drewN ?_ _ | refine Kp.trans ?_ (by assumption)))) hk)
    have hK : Kp w w1 := Kp.trans (by (repeat (first | with_reducible exact Kp.refl _ | with_reducible assumption | with_reducible refine Kp.alloc ?_ _ | with_reducible refine Kp.drew ?_ | with_reducible refine Kp.drewN ?_ _ | exact Kp.refl _ | assumption | refine Kp.alloc ?_ _ | refine Kp.drew ?_ | refine Kp.drewN ?_ _ | refine Kp.trans ?_ (by assumption)))) hk
    have c0 := b0.cell 0
    have c1 := b0.cell 1
    have c2 := b0.cell 2
    have c3 := b0.cell 3
    have f0 := b0.free 0
    have f1 := b0.free 1
    have f2 := b0.free 2
    have f3 := b0.free 3
    have d0 := b1.cell 0
    have d1 := b1.cell 1
    have d2 := b1.cell 2
    have d3 := b1.cell 3
    simp only [List.getElem?_cons_zero, List.getElem?_cons_succ] at c0 c1 c2 c3 d0 d1 d2 d3
    rcases ho : ofP 2 s a t with _ | q
    · simp only [pval, codeP]
      have HO := Lib.hid ho
      clear ho
      go_wp2_with fail
      refine bodyPost_ret (v := .tuple #[frv 0 0 0 ⟨#[]⟩, .int .i64 2]) (by simp [results, Tryz.results76, go_sem, *]) rfl ⟨by unfold frameV; rw [HO.out], ?_⟩
      refine Kp.set (Kp.set (Kp.set (Kp.set hK ?_ _) ?_ _) ?_ _) ?_ _ <;> exact Nat.le_refl _
    · simp only [codeP]
      generalize pval (some q) = pv
      have HO := Lib.hid ho
      clear ho
      go_wp2_with fail
      refine bodyPost_ret (v := .tuple #[frv 2 s a t, .int .i64 0]) (by simp [results, Tryz.results76, go_sem, *]) rfl ⟨by unfold frameV; rw [HO.out], ?_⟩
      refine Kp.set (Kp.set (Kp.set (Kp.set hK ?_ _) ?_ _) ?_ _) ?_ _ <;> exact Nat.le_refl _
  · exact absurd he (by simp only [fkOf]; omega)
  · exact absurd he (by simp only [fkOf]; omega)
end Go.Proofs.YtnhogmheedeeiaaGreat
