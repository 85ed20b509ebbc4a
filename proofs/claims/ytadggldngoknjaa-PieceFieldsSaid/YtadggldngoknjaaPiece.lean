/- The contracts of package piece. -/
import Derived.Test.YtadggldngoknjaaCrcWalk
import Derived.Test.YtadggldngoknjaaPick
import Derived.Test.YtadggldngoknjaaPRight
import Derived.Deep.RegionHeld3
import Derived.Deep.DeepCutAuto
namespace Go.Proofs.Ytadggldngoknjaa
open Go.RowKit
set_option linter.unusedVariables false

/-- A piece. -/
inductive Pc where
  | head (e r : Int)
  | part (s a : Int) (t : ByteArray)
  | slp (s p v f u z : Int)
  | floor (s g f : Int)
def pval : Option Pc → Value
  | none => .nilIface
  | some (.head e r) => .iface 27 (.agg #[.int .u32 e, .int .u32 r])
  | some (.part s a t) => .iface 31 (.agg #[.int .u32 s, .int .u32 a, .string t])
  | some (.slp s p v f u z) => .iface 33 (.agg #[.int .u32 s, .int .u32 p, .int .u32 v, .int .u32 f, .int .u32 u, .int .u32 z])
  | some (.floor s g f) => .iface 35 (.agg #[.int .u32 s, .int .u32 g, .int .u32 f])

set_option maxHeartbeats 400000 in
theorem number_any (b : ByteArray) (i : Nat) (hs : b.size ≤ 140737488351232) (h : 4 * i + 4 ≤ b.size) (hi : i ≤ 10) (w : World) :
    Calls Try.prog 26 #[.string b, .int .i64 i] w fun e w' => e = .returned (.int .u32 (get4 b (4 * i) : Nat)) ∧ ∃ n, w.drewN n = w' := by
  have hg := fun W => get_yes b (4 * i) (by omega) (by omega) W
  rw [show ((4 * i : Nat) : Int) = 4 * (i : Int) by omega] at hg
  have HG := Lib.hid hg
  clear hg
  go_enter Try.func26, Try.ntmps26
  go_wp2_with fail
  refine (HG.out _).mono ?_
  rintro e w1 ⟨rfl, n, rfl⟩
  go_wp2_with fail
  go_ret
  exact ⟨rfl, n, rfl⟩

/-- What a frame says. -/
def ofP (k a b : Int) (s : ByteArray) : Option Pc :=
  if 1 ≤ a ∧ a ≤ 2147483647 then
    if k = 1 ∧ s.toList.isEmpty = true then some (.head a b)
    else if k = 2 ∧ s.toList.isEmpty = false then some (.part a b s)
    else if k = 3 ∧ s.size = 16 ∧ b ≠ 0 ∧ (get4 s 0 : Int) < a ∧ 1 ≤ get4 s 4 ∧ (get4 s 4 : Int) ≤ a ∧ get4 s 12 ≠ 0 then some (.slp a b (get4 s 0) (get4 s 4) (get4 s 8) (get4 s 12))
    else if k = 4 ∧ s.size = 4 ∧ (get4 s 0 : Int) ≤ a then some (.floor a b (get4 s 0))
    else none
  else none
def codeP : Option Pc → Int
  | none => 2
  | some _ => 0

set_option maxHeartbeats 800000 in
theorem of_bad (k a b : Int) (s : ByteArray) (h : a < 1 ∨ 2147483647 < a) (w : World) :
    Calls Try.prog 13 #[frv k a b s] w fun e w' => e = .returned (.tuple #[.nilIface, .int .i64 2]) ∧ Kp w w' := by
  have h' : a < 1 ∨ (1 ≤ a ∧ 2147483647 < a) := by omega
  clear h
  rcases h' with h | ⟨h1, h2⟩
  all_goals
    go_enter Try.func13, Try.ntmps13
    go_wp2
    go_ret2
    refine ⟨rfl, ?_⟩
    (repeat (first | with_reducible exact Kp.refl _ | with_reducible assumption | with_reducible refine Kp.alloc ?_ _ | with_reducible refine Kp.drew ?_ | with_reducible refine Kp.drewN ?_ _ | exact Kp.refl _ | assumption | refine Kp.alloc ?_ _ | refine Kp.drew ?_ | refine Kp.drewN ?_ _ | refine Kp.trans ?_ (by assumption)))
set_option maxHeartbeats 800000 in
theorem of_head (a b : Int) (s : ByteArray) (h1 : 1 ≤ a) (h2 : a ≤ 2147483647) (hs : s.toList.isEmpty = true) (w : World) :
    Calls Try.prog 13 #[frv 1 a b s] w fun e w' => e = .returned (.tuple #[pval (some (.head a b)), .int .i64 0]) ∧ Kp w w' := by
  go_enter Try.func13, Try.ntmps13
  go_wp2
  go_ret2
  refine ⟨rfl, ?_⟩
  (repeat (first | with_reducible exact Kp.refl _ | with_reducible assumption | with_reducible refine Kp.alloc ?_ _ | with_reducible refine Kp.drew ?_ | with_reducible refine Kp.drewN ?_ _ | exact Kp.refl _ | assumption | refine Kp.alloc ?_ _ | refine Kp.drew ?_ | refine Kp.drewN ?_ _ | refine Kp.trans ?_ (by assumption)))
set_option maxHeartbeats 800000 in
theorem of_part (a b : Int) (s : ByteArray) (h1 : 1 ≤ a) (h2 : a ≤ 2147483647) (hs : s.toList.isEmpty = false) (w : World) :
    Calls Try.prog 13 #[frv 2 a b s] w fun e w' => e = .returned (.tuple #[pval (some (.part a b s)), .int .i64 0]) ∧ Kp w w' := by
  go_enter Try.func13, Try.ntmps13
  go_wp2
  go_ret2
  refine ⟨rfl, ?_⟩
  (repeat (first | with_reducible exact Kp.refl _ | with_reducible assumption | with_reducible refine Kp.alloc ?_ _ | with_reducible refine Kp.drew ?_ | with_reducible refine Kp.drewN ?_ _ | exact Kp.refl _ | assumption | refine Kp.alloc ?_ _ | refine Kp.drew ?_ | refine Kp.drewN ?_ _ | refine Kp.trans ?_ (by assumption)))
theorem number_i (b : ByteArray) (hs : b.size ≤ 140737488351232) (j : Int) (h0 : 0 ≤ j) (h : 4 * j + 4 ≤ b.size) (hj : j ≤ 10) (w : World) :
    Calls Try.prog 26 #[.string b, .int .i64 j] w fun e w' => e = .returned (.int .u32 (get4 b (4 * j.toNat) : Nat)) ∧ ∃ n, w.drewN n = w' := by
  have := number_any b j.toNat hs (by omega) (by omega) w
  rwa [Int.toNat_of_nonneg h0] at this

@[go_sem] theorem drewN_alloc (w : World) (o : Obj) (n : Nat) : (w.alloc o).drewN n = (w.drewN n).alloc o := rfl
@[go_sem] theorem drewN_size (w : World) (n : Nat) : (w.drewN n).heap.size = w.heap.size := rfl
@[go_sem] theorem drewN_cell (w : World) (n : Nat) (p : Addr) : (w.drewN n).cell? p = w.cell? p := rfl
@[go_sem] theorem drewN_frozen (w : World) (n : Nat) (p : Addr) : (w.drewN n).frozen? p = w.frozen? p := rfl
theorem FrkN (w : World) (k a b : Int) (s : ByteArray) : ∀ W W', Kp W' W → W'.heap = (w.alloc (fob k a b s)).heap → W.cell? ⟨w.heap.size, 0, none⟩ = some (.int .i64 k) ∧ W.cell? ⟨w.heap.size, 1, none⟩ = some (.int .u32 a) ∧ W.cell? ⟨w.heap.size, 2, none⟩ = some (.int .u32 b) ∧ W.cell? ⟨w.heap.size, 3, none⟩ = some (.string s) := fun W W' h e => by
  have hb : Bk W' w.heap.size 29 [.int .i64 k, .int .u32 a, .int .u32 b, .string s] := by
    unfold Bk; rw [e]; exact Bk.new w _ _
  have hb := hb.keep h
  exact ⟨hb.cell 0, hb.cell 1, hb.cell 2, hb.cell 3⟩

theorem Bk.at (W : World) (t : TypeId) (cs : List Value) (g : Nat) (h : W.heap.size = g) : Bk (W.alloc (.cells cs.toArray t)) g t cs := by subst h; exact Bk.new W t cs

set_option maxRecDepth 20000 in
set_option maxHeartbeats 16000000 in
theorem of_seal (a b : Int) (s : ByteArray) (h1 : 1 ≤ a) (h2 : a ≤ 2147483647) (hs : s.size = 16) (hb : (b != 0) = true) (w : World) :
    Calls Try.prog 13 #[frv 3 a b s] w fun e w' => e = .returned (.tuple #[pval (ofP 3 a b s), .int .i64 (codeP (ofP 3 a b s))]) ∧ Kp w w' := by
  have hz : ((s.size : Int) == 16) = true := by simp [hs]
  have hF2 := Lib.hid (FrkN w 3 a b s)
  have hof : ofP 3 a b s = if (get4 s 0 : Int) < a ∧ 1 ≤ get4 s 4 ∧ (get4 s 4 : Int) ≤ a ∧ get4 s 12 ≠ 0 then some (.slp a b (get4 s 0) (get4 s 4) (get4 s 8) (get4 s 12)) else none := by
    have hb' : b ≠ 0 := by simpa using hb
    unfold ofP
    rw [if_pos ⟨h1, h2⟩, if_neg (by omega), if_neg (by omega)]
    by_cases c : (get4 s 0 : Int) < a ∧ 1 ≤ get4 s 4 ∧ (get4 s 4 : Int) ≤ a ∧ get4 s 12 ≠ 0
    · rw [if_pos ⟨rfl, hs, hb', c⟩, if_pos c]
    · rw [if_neg (fun h => c h.2.2.2), if_neg c, if_neg (by omega)]
  have HOF := Lib.hid hof
  clear hof
  go_enter Try.func13, Try.ntmps13
  go_upto_region 9 with fail
  go_cut [5] (fun v wx => Kp w wx ∧ ∃ g, v = .pointer (some ⟨g, 0, none⟩) ∧ Bk wx g 33 [.int .u32 a, .int .u32 b, .int .u32 (get4 s 0 : Nat), .int .u32 (get4 s 4 : Nat), .int .u32 (get4 s 8 : Nat), .int .u32 (get4 s 12 : Nat)])
  case first =>
    go_region_held3 (fun (W : World) => W.cell? ⟨w.heap.size, 0, none⟩ = some (.int .i64 3) ∧ W.cell? ⟨w.heap.size, 1, none⟩ = some (.int .u32 a) ∧ W.cell? ⟨w.heap.size, 2, none⟩ = some (.int .u32 b) ∧ W.cell? ⟨w.heap.size, 3, none⟩ = some (.string s)) (first | exact hF2.out _ _ (Kp.refl _) rfl | exact hF2.out _ _ (Kp.one _ _) rfl | exact hF2.out _ _ ((Kp.one _ _).drew) rfl)
      (first
        | (go_at_call 26; refine (number_i s (by omega) _ (by omega) (by omega) (by omega) _).mono ?_; rintro e w' ⟨rfl, n, rfl⟩))

    all_goals go_wp2_with fail
    all_goals go_meet
    all_goals exact ⟨by (repeat (first | with_reducible exact Kp.refl _ | with_reducible assumption | with_reducible refine Kp.alloc ?_ _ | with_reducible refine Kp.drew ?_ | with_reducible refine Kp.drewN ?_ _ | exact Kp.refl _ | assumption | refine Kp.alloc ?_ _ | refine Kp.drew ?_ | refine Kp.drewN ?_ _ | refine Kp.trans ?_ (by assumption))), _, rfl, Bk.at _ _ [_, _, _, _, _, _] _ (by simp [go_sem])⟩
  case rest =>
    obtain ⟨hK, g, rfl, hB⟩ := hcut
    have c0 := hB.cell 0
    have c1 := hB.cell 1
    have c2 := hB.cell 2
    have c3 := hB.cell 3
    have c4 := hB.cell 4
    have c5 := hB.cell 5
    simp only [List.getElem?_cons_zero, List.getElem?_cons_succ] at c0 c1 c2 c3 c4 c5
    have n0 : (0 : Int) ≤ get4 s 0 := by omega
    generalize get4 s 0 = p at *
    generalize get4 s 4 = v at *
    generalize get4 s 8 = f at *
    generalize get4 s 12 = u at *
    clear hB hF2
    by_cases e0 : (p : Int) < a
    · by_cases e1 : (1 : Int) ≤ v
      · by_cases e2 : (v : Int) ≤ a
        · by_cases e3 : u = 0
          · subst e3
            have hr : ofP 3 a b s = none := by rw [HOF.out, if_neg (by omega)]
            clear HOF
            go_wp2_with fail
            go_ret2
            exact ⟨by first | rfl | (rw [hr]; rfl), hK⟩
          · have e4 : ((u : Int) != 0) = true := by simp; omega
            have hr := HOF.out
            rw [if_pos ⟨e0, by omega, e2, e3⟩] at hr
            clear HOF
            go_wp2_with fail
            go_ret2
            exact ⟨by first | rfl | (rw [hr]; rfl), hK⟩
        · have hr : ofP 3 a b s = none := by rw [HOF.out, if_neg (by omega)]
          clear HOF
          go_wp2_with fail
          go_ret2
          exact ⟨by first | rfl | (rw [hr]; rfl), hK⟩
      · have hr : ofP 3 a b s = none := by rw [HOF.out, if_neg (by omega)]
        clear HOF
        go_wp2_with fail
        go_ret2
        exact ⟨by first | rfl | (rw [hr]; rfl), hK⟩
    · have hr : ofP 3 a b s = none := by rw [HOF.out, if_neg (by omega)]
      clear HOF
      go_wp2_with fail
      go_ret2
      exact ⟨by first | rfl | (rw [hr]; rfl), hK⟩
end Go.Proofs.Ytadggldngoknjaa
