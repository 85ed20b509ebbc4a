/- The contracts of package piece, third part: Of as a whole, AsPart, AsSeal, AsFloor, Kind. -/
import Derived.Test.YtadggldngoknjaaPiece2
import Derived.Test.YtadggldngoknjaaPut
namespace Go.Proofs.Ytadggldngoknjaa
open Go.RowKit
set_option linter.unusedVariables false

theorem of_any (k a b : Int) (s : ByteArray) (hs : s.size ≤ 9223372036854775807) (w : World) :
    Calls Try.prog 13 #[frv k a b s] w fun e w' => e = .returned (.tuple #[pval (ofP k a b s), .int .i64 (codeP (ofP k a b s))]) ∧ Kp w w' := by
  by_cases h1 : 1 ≤ a ∧ a ≤ 2147483647
  · obtain ⟨h1, h2⟩ := h1
    by_cases hn : NoKind k b s
    · have e : ofP k a b s = none := by
        unfold ofP
        rw [if_pos ⟨h1, h2⟩]
        rcases hn with ⟨rfl, h⟩ | ⟨rfl, h⟩ | ⟨rfl, h⟩ | ⟨rfl, h, h'⟩ | ⟨rfl, h⟩ | ⟨e1, e2, e3, e4⟩
        · rw [if_neg (by simp [h]), if_neg (by omega), if_neg (by omega), if_neg (by omega)]
        · rw [if_neg (by omega), if_neg (by simp [h]), if_neg (by omega), if_neg (by omega)]
        · have : s.size ≠ 16 := fun e => by rw [e] at h; simp at h
          rw [if_neg (by omega), if_neg (by omega), if_neg (fun h => this h.2.1), if_neg (by omega)]
        · have : b = 0 := by simpa using h'
          rw [if_neg (by omega), if_neg (by omega), if_neg (fun h => h.2.2.1 this), if_neg (by omega)]
        · have : s.size ≠ 4 := fun e => by rw [e] at h; simp at h
          rw [if_neg (by omega), if_neg (by omega), if_neg (by omega), if_neg (fun h => this h.2.1)]
        · have f1 : k ≠ 1 := by simpa using e1
          have f2 : k ≠ 2 := by simpa using e2
          have f3 : k ≠ 3 := by simpa using e3
          have f4 : k ≠ 4 := by simpa using e4
          rw [if_neg (fun h => f1 h.1), if_neg (fun h => f2 h.1), if_neg (fun h => f3 h.1), if_neg (fun h => f4 h.1)]
      rw [e]
      exact of_no k a b s h1 h2 hs hn w
    · have c1 : k = 1 → s.toList.isEmpty = true := fun e => by
        rcases hb : s.toList.isEmpty with _ | _
        · exact absurd (Or.inl ⟨e, hb⟩) hn
        · rfl
      by_cases k1 : k = 1
      · subst k1
        have e : ofP 1 a b s = some (.head a b) := by unfold ofP; rw [if_pos ⟨h1, h2⟩, if_pos ⟨rfl, c1 rfl⟩]
        rw [e]
        exact of_head a b s h1 h2 (c1 rfl) w
      · by_cases k2 : k = 2
        · subst k2
          have c : s.toList.isEmpty = false := by
            rcases hb : s.toList.isEmpty with _ | _
            · rfl
            · exact absurd (Or.inr (Or.inl ⟨rfl, hb⟩)) hn
          have e : ofP 2 a b s = some (.part a b s) := by unfold ofP; rw [if_pos ⟨h1, h2⟩, if_neg (by omega), if_pos ⟨rfl, c⟩]
          rw [e]
          exact of_part a b s h1 h2 c w
        · by_cases k3 : k = 3
          · subst k3
            have c : ((s.size : Int) == 16) = true := by
              rcases hb : ((s.size : Int) == 16) with _ | _
              · exact absurd (Or.inr (Or.inr (Or.inl ⟨rfl, hb⟩))) hn
              · rfl
            have d : (b != 0) = true := by
              rcases hb : (b != 0) with _ | _
              · exact absurd (Or.inr (Or.inr (Or.inr (Or.inl ⟨rfl, c, hb⟩)))) hn
              · rfl
            have c' : s.size = 16 := by have := beq_iff_eq.1 c; omega
            exact of_seal a b s h1 h2 c' d w
          · by_cases k4 : k = 4
            · subst k4
              have c : ((s.size : Int) == 4) = true := by
                rcases hb : ((s.size : Int) == 4) with _ | _
                · exact absurd (Or.inr (Or.inr (Or.inr (Or.inr (Or.inl ⟨rfl, hb⟩))))) hn
                · rfl
              have c' : s.size = 4 := by have := beq_iff_eq.1 c; omega
              exact of_floor a b s h1 h2 c' w
            · exact absurd (Or.inr (Or.inr (Or.inr (Or.inr (Or.inr ⟨by simpa using k1, by simpa using k2, by simpa using k3, by simpa using k4⟩))))) hn
  · have e : ofP k a b s = none := by unfold ofP; rw [if_neg h1]
    rw [e]
    exact of_bad k a b s (by omega) w

/-- A part's, a seal's, a floor's cells. -/
def partV : Option Pc → Value × Bool
  | some (.part s a t) => (.agg #[.int .u32 s, .int .u32 a, .string t], true)
  | _ => (.agg #[.int .u32 0, .int .u32 0, .string ⟨#[]⟩], false)
def sealV : Option Pc → Value × Bool
  | some (.slp s p v f u z) => (.agg #[.int .u32 s, .int .u32 p, .int .u32 v, .int .u32 f, .int .u32 u, .int .u32 z], true)
  | _ => (.agg #[.int .u32 0, .int .u32 0, .int .u32 0, .int .u32 0, .int .u32 0, .int .u32 0], false)
def floorV : Option Pc → Value × Bool
  | some (.floor s g f) => (.agg #[.int .u32 s, .int .u32 g, .int .u32 f], true)
  | _ => (.agg #[.int .u32 0, .int .u32 0, .int .u32 0], false)

def headV : Option Pc → Value × Bool
  | some (.head e r) => (.agg #[.int .u32 e, .int .u32 r], true)
  | _ => (.agg #[.int .u32 0, .int .u32 0], false)

section
variable {P : Program} {t t' : TypeId} {fs : Array Field} {z : Value}
theorem ta_yes (hu : P.underlying t = some (.struct fs)) (v : Value) (xT : TypeId) (w : World) : (Instr.typeAssert (.iface t v) xT t true).run P w = .ok (.tuple #[v, .bool true]) w := by
  simp [Instr.typeAssert, run_underlying hu]
theorem ta_no (hu : P.underlying t = some (.struct fs)) (hz : (P.info? t).map (·.zero) = some (some z)) (hne : t' ≠ t) (v : Value) (xT : TypeId) (w : World) : (Instr.typeAssert (.iface t' v) xT t true).run P w = .ok (.tuple #[z, .bool false]) w := by
  obtain ⟨j, hj, hz'⟩ := Option.map_eq_some_iff.1 hz
  simp [Instr.typeAssert, run_underlying hu, hne, zeroValue, typeInfo, hj, hz']
theorem ta_nil (hu : P.underlying t = some (.struct fs)) (hz : (P.info? t).map (·.zero) = some (some z)) (xT : TypeId) (w : World) : (Instr.typeAssert .nilIface xT t true).run P w = .ok (.tuple #[z, .bool false]) w := by
  obtain ⟨j, hj, hz'⟩ := Option.map_eq_some_iff.1 hz
  simp [Instr.typeAssert, run_underlying hu, zeroValue, typeInfo, hj, hz']
end
theorem ta_head (p : Option Pc) (w : World) : (Instr.typeAssert (pval p) 40 27 true).run Try.prog w = .ok (.tuple #[(headV p).1, .bool (headV p).2]) w := by
  rcases p with _ | ⟨e, r⟩ | ⟨s, a, t⟩ | ⟨s, p, v, f, u, z⟩ | ⟨s, g, f⟩
  · exact ta_nil Try.underlying27 (by kernel_rfl) _ w
  · exact ta_yes Try.underlying27 _ _ w
  all_goals exact ta_no Try.underlying27 (by kernel_rfl) (by decide) _ _ w
theorem ta_part (p : Option Pc) (w : World) : (Instr.typeAssert (pval p) 40 31 true).run Try.prog w = .ok (.tuple #[(partV p).1, .bool (partV p).2]) w := by
  rcases p with _ | ⟨e, r⟩ | ⟨s, a, t⟩ | ⟨s, p, v, f, u, z⟩ | ⟨s, g, f⟩
  · exact ta_nil Try.underlying31 (by kernel_rfl) _ w
  · exact ta_no Try.underlying31 (by kernel_rfl) (by decide) _ _ w
  · exact ta_yes Try.underlying31 _ _ w
  all_goals exact ta_no Try.underlying31 (by kernel_rfl) (by decide) _ _ w
theorem ta_seal (p : Option Pc) (w : World) : (Instr.typeAssert (pval p) 40 33 true).run Try.prog w = .ok (.tuple #[(sealV p).1, .bool (sealV p).2]) w := by
  rcases p with _ | ⟨e, r⟩ | ⟨s, a, t⟩ | ⟨s, p, v, f, u, z⟩ | ⟨s, g, f⟩
  · exact ta_nil Try.underlying33 (by kernel_rfl) _ w
  · exact ta_no Try.underlying33 (by kernel_rfl) (by decide) _ _ w
  · exact ta_no Try.underlying33 (by kernel_rfl) (by decide) _ _ w
  · exact ta_yes Try.underlying33 _ _ w
  · exact ta_no Try.underlying33 (by kernel_rfl) (by decide) _ _ w
theorem ta_floor (p : Option Pc) (w : World) : (Instr.typeAssert (pval p) 40 35 true).run Try.prog w = .ok (.tuple #[(floorV p).1, .bool (floorV p).2]) w := by
  rcases p with _ | ⟨e, r⟩ | ⟨s, a, t⟩ | ⟨s, p, v, f, u, z⟩ | ⟨s, g, f⟩
  · exact ta_nil Try.underlying35 (by kernel_rfl) _ w
  · exact ta_no Try.underlying35 (by kernel_rfl) (by decide) _ _ w
  · exact ta_no Try.underlying35 (by kernel_rfl) (by decide) _ _ w
  · exact ta_no Try.underlying35 (by kernel_rfl) (by decide) _ _ w
  · exact ta_yes Try.underlying35 _ _ w

set_option maxHeartbeats 800000 in
theorem aspart_any (p : Option Pc) (w : World) :
    Calls Try.prog 16 #[pval p] w fun e w' => e = .returned (.tuple #[(partV p).1, .bool (partV p).2]) ∧ Kp w w' := by
  have h := ta_part p
  rcases p with _ | ⟨e, r⟩ | ⟨s, a, t⟩ | ⟨s, p, v, f, u, z⟩ | ⟨s, g, f⟩
  all_goals
    simp only [pval, partV] at h ⊢
    go_enter Try.func16, Try.ntmps16
    go_wp2_with fail
    refine bodyPost_ret (v := .tuple #[_, .bool _]) (by simp [results, Try.results16, go_sem]) rfl ⟨rfl, ?_⟩
    (repeat (first | with_reducible exact Kp.refl _ | with_reducible assumption | with_reducible refine Kp.alloc ?_ _ | with_reducible refine Kp.drew ?_ | with_reducible refine Kp.drewN ?_ _ | exact Kp.refl _ | assumption | refine Kp.alloc ?_ _ | refine Kp.drew ?_ | refine Kp.drewN ?_ _ | refine Kp.trans ?_ (by assumption)))
set_option maxHeartbeats 800000 in
theorem asseal_any (p : Option Pc) (w : World) :
    Calls Try.prog 17 #[pval p] w fun e w' => e = .returned (.tuple #[(sealV p).1, .bool (sealV p).2]) ∧ Kp w w' := by
  have h := ta_seal p
  rcases p with _ | ⟨e, r⟩ | ⟨s, a, t⟩ | ⟨s, p, v, f, u, z⟩ | ⟨s, g, f⟩
  all_goals
    simp only [pval, sealV] at h ⊢
    go_enter Try.func17, Try.ntmps17
    go_wp2_with fail
    refine bodyPost_ret (v := .tuple #[_, .bool _]) (by simp [results, Try.results17, go_sem]) rfl ⟨rfl, ?_⟩
    (repeat (first | with_reducible exact Kp.refl _ | with_reducible assumption | with_reducible refine Kp.alloc ?_ _ | with_reducible refine Kp.drew ?_ | with_reducible refine Kp.drewN ?_ _ | exact Kp.refl _ | assumption | refine Kp.alloc ?_ _ | refine Kp.drew ?_ | refine Kp.drewN ?_ _ | refine Kp.trans ?_ (by assumption)))
set_option maxHeartbeats 800000 in
theorem asfloor_any (p : Option Pc) (w : World) :
    Calls Try.prog 18 #[pval p] w fun e w' => e = .returned (.tuple #[(floorV p).1, .bool (floorV p).2]) ∧ Kp w w' := by
  have h := ta_floor p
  rcases p with _ | ⟨e, r⟩ | ⟨s, a, t⟩ | ⟨s, p, v, f, u, z⟩ | ⟨s, g, f⟩
  all_goals
    simp only [pval, floorV] at h ⊢
    go_enter Try.func18, Try.ntmps18
    go_wp2_with fail
    refine bodyPost_ret (v := .tuple #[_, .bool _]) (by simp [results, Try.results18, go_sem]) rfl ⟨rfl, ?_⟩
    (repeat (first | with_reducible exact Kp.refl _ | with_reducible assumption | with_reducible refine Kp.alloc ?_ _ | with_reducible refine Kp.drew ?_ | with_reducible refine Kp.drewN ?_ _ | exact Kp.refl _ | assumption | refine Kp.alloc ?_ _ | refine Kp.drew ?_ | refine Kp.drewN ?_ _ | refine Kp.trans ?_ (by assumption)))
theorem kind_head (e r : Int) (w : World) : Calls Try.prog 20 #[.agg #[.int .u32 e, .int .u32 r]] w fun x w' => x = .returned (.int .i64 1) ∧ Kp w w' := by
  go_enter Try.func20, Try.ntmps20
  go_wp2
  go_ret
  exact ⟨rfl, by (repeat (first | with_reducible exact Kp.refl _ | with_reducible assumption | with_reducible refine Kp.alloc ?_ _ | with_reducible refine Kp.drew ?_ | with_reducible refine Kp.drewN ?_ _ | exact Kp.refl _ | assumption | refine Kp.alloc ?_ _ | refine Kp.drew ?_ | refine Kp.drewN ?_ _ | refine Kp.trans ?_ (by assumption)))⟩
theorem kind_part (s a : Int) (t : ByteArray) (w : World) : Calls Try.prog 21 #[.agg #[.int .u32 s, .int .u32 a, .string t]] w fun x w' => x = .returned (.int .i64 2) ∧ Kp w w' := by
  go_enter Try.func21, Try.ntmps21
  go_wp2
  go_ret
  exact ⟨rfl, by (repeat (first | with_reducible exact Kp.refl _ | with_reducible assumption | with_reducible refine Kp.alloc ?_ _ | with_reducible refine Kp.drew ?_ | with_reducible refine Kp.drewN ?_ _ | exact Kp.refl _ | assumption | refine Kp.alloc ?_ _ | refine Kp.drew ?_ | refine Kp.drewN ?_ _ | refine Kp.trans ?_ (by assumption)))⟩
theorem kind_seal (s p v f u z : Int) (w : World) : Calls Try.prog 22 #[.agg #[.int .u32 s, .int .u32 p, .int .u32 v, .int .u32 f, .int .u32 u, .int .u32 z]] w fun x w' => x = .returned (.int .i64 3) ∧ Kp w w' := by
  go_enter Try.func22, Try.ntmps22
  go_wp2
  go_ret
  exact ⟨rfl, by (repeat (first | with_reducible exact Kp.refl _ | with_reducible assumption | with_reducible refine Kp.alloc ?_ _ | with_reducible refine Kp.drew ?_ | with_reducible refine Kp.drewN ?_ _ | exact Kp.refl _ | assumption | refine Kp.alloc ?_ _ | refine Kp.drew ?_ | refine Kp.drewN ?_ _ | refine Kp.trans ?_ (by assumption)))⟩
theorem kind_floor (s g f : Int) (w : World) : Calls Try.prog 23 #[.agg #[.int .u32 s, .int .u32 g, .int .u32 f]] w fun x w' => x = .returned (.int .i64 4) ∧ Kp w w' := by
  go_enter Try.func23, Try.ntmps23
  go_wp2
  go_ret
  exact ⟨rfl, by (repeat (first | with_reducible exact Kp.refl _ | with_reducible assumption | with_reducible refine Kp.alloc ?_ _ | with_reducible refine Kp.drew ?_ | with_reducible refine Kp.drewN ?_ _ | exact Kp.refl _ | assumption | refine Kp.alloc ?_ _ | refine Kp.drew ?_ | refine Kp.drewN ?_ _ | refine Kp.trans ?_ (by assumption)))⟩
end Go.Proofs.Ytadggldngoknjaa
