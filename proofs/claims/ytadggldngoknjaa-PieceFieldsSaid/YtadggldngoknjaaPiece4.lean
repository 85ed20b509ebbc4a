/- The contracts of package piece, fourth part: Frame. -/
import Derived.Test.YtadggldngoknjaaPiece3
namespace Go.Proofs.Ytadggldngoknjaa
open Go.RowKit
set_option linter.unusedVariables false

/-- The frame that says a piece. -/
def fkOf : Option Pc → Int
  | none => 0
  | some (.head ..) => 1
  | some (.part ..) => 2
  | some (.slp ..) => 3
  | some (.floor ..) => 4
def faOf : Option Pc → Int
  | none => 0
  | some (.head e _) => e
  | some (.part s _ _) => s
  | some (.slp s ..) => s
  | some (.floor s ..) => s
def fbOf : Option Pc → Int
  | none => 0
  | some (.head _ r) => r
  | some (.part _ a _) => a
  | some (.slp _ p ..) => p
  | some (.floor _ g _) => g
def fsOf : Option Pc → ByteArray
  | none => ⟨#[]⟩
  | some (.head ..) => ⟨#[]⟩
  | some (.part _ _ t) => t
  | some (.slp _ _ v f u z) => put v.toNat ++ put f.toNat ++ put u.toNat ++ put z.toNat
  | some (.floor _ _ f) => put f.toNat
/-- What Frame answers. -/
def frameV (k a b : Int) (s : ByteArray) : Value := match ofP k a b s with
  | none => .tuple #[frv 0 0 0 ⟨#[]⟩, .int .i64 2]
  | some _ => .tuple #[frv k a b s, .int .i64 0]
def PcOk : Option Pc → Prop
  | some (.part _ _ t) => t.size ≤ 9223372036854775807
  | some (.slp _ _ v f u z) => (0 ≤ v ∧ v ≤ 4294967295) ∧ (0 ≤ f ∧ f ≤ 4294967295) ∧ (0 ≤ u ∧ u ≤ 4294967295) ∧ (0 ≤ z ∧ z ≤ 4294967295)
  | some (.floor _ _ f) => 0 ≤ f ∧ f ≤ 4294967295
  | _ => True

/-- The two boxes: the answer's, the frame's. -/
theorem two_frames (w : World) (k a b : Int) (s : ByteArray) (W : World) (h : Kp ((w.alloc (fob 0 0 0 ⟨#[]⟩)).alloc (fob k a b s)) W) :
    Bk W w.heap.size 29 [.int .i64 0, .int .u32 0, .int .u32 0, .string ⟨#[]⟩] ∧ Bk W (w.heap.size + 1) 29 [.int .i64 k, .int .u32 a, .int .u32 b, .string s] := by
  have h1 : Bk (w.alloc (fob 0 0 0 ⟨#[]⟩)) w.heap.size 29 [.int .i64 0, .int .u32 0, .int .u32 0, .string ⟨#[]⟩] := Bk.new w _ _
  have h2 : Bk ((w.alloc (fob 0 0 0 ⟨#[]⟩)).alloc (fob k a b s)) (w.heap.size + 1) 29 [.int .i64 k, .int .u32 a, .int .u32 b, .string s] := Bk.at _ _ [_, _, _, _] _ (World.size_alloc _ _)
  exact ⟨(h1.alloc _).keep h, h2.keep h⟩

set_option maxHeartbeats 1600000 in
theorem frame_easy (p : Option Pc) (hp : PcOk p) (he : fkOf p ≤ 2) (w : World) :
    Calls Try.prog 15 #[pval p] w fun e w' => e = .returned (frameV (fkOf p) (faOf p) (fbOf p) (fsOf p)) ∧ Kp w w' := by
  have t1 := ta_head p
  have t2 := ta_part p
  have t3 := ta_seal p
  have t4 := ta_floor p
  have h2 := fun k a b s W h => two_frames w k a b s W h
  have H2 := Lib.hid h2
  clear h2
  rcases p with _ | ⟨e, r⟩ | ⟨s, a, t⟩ | ⟨s, p, v, f, u, z⟩ | ⟨s, g, f⟩
  · simp only [pval, headV, partV, sealV, floorV, fkOf, faOf, fbOf, fsOf] at t1 t2 t3 t4 ⊢
    have ho : ofP 0 0 0 ⟨#[]⟩ = none := by unfold ofP; rw [if_neg (by omega)]
    go_enter Try.func15, Try.ntmps15
    go_wp2_with fail
    refine (of_any _ _ _ _ (by decide) _).mono ?_
    rintro e w1 ⟨rfl, hk⟩
    obtain ⟨b0, b1⟩ := H2.out 0 0 0 ⟨#[]⟩ w1 hk
    have hK : Kp w w1 := Kp.trans (by (repeat (first | with_reducible exact Kp.refl _ | with_reducible assumption | with_reducible refine Kp.alloc ?_ _ | with_reducible refine Kp.drew ?_ | with_reducible refine Kp.drewN ?_ _ | exact Kp.refl _ | assumption | refine Kp.alloc ?_ _ | refine Kp.drew ?_ | refine Kp.drewN ?_ _ | refine Kp.trans ?_ (by assumption)))) hk
    rw [ho]
    have c0 := b0.cell 0
    have c1 := b0.cell 1
    have c2 := b0.cell 2
    have c3 := b0.cell 3
    have f0 := b0.free 0
    have f1 := b0.free 1
    have f2 := b0.free 2
    have f3 := b0.free 3
    simp only [List.getElem?_cons_zero, List.getElem?_cons_succ] at c0 c1 c2 c3
    simp only [pval, codeP]
    go_wp2_with fail
    refine bodyPost_ret (v := .tuple #[frv 0 0 0 ⟨#[]⟩, .int .i64 2]) (by simp [results, Try.results15, go_sem, *]) rfl ⟨?_, ?_⟩
    · unfold frameV; rw [ho]
    · refine Kp.set (Kp.set (Kp.set (Kp.set hK ?_ _) ?_ _) ?_ _) ?_ _ <;> exact Nat.le_refl _
  · simp only [pval, headV, partV, sealV, floorV, fkOf, faOf, fbOf, fsOf, PcOk] at t1 t2 t3 t4 hp ⊢
    go_enter Try.func15, Try.ntmps15
    go_wp2_with fail
    refine (of_any _ _ _ _ (by decide) _).mono ?_
    rintro e' w1 ⟨rfl, hk⟩
    obtain ⟨b0, b1⟩ := H2.out 1 e r ⟨#[]⟩ w1 (Kp.trans (by (repeat (first | with_reducible exact Kp.refl _ | with_reducible assumption | with_reducible refine Kp.alloc ?_ _ | with_reducible refine Kp.drew ?_ | with_reducible refine Kp.drewN ?_ _ | exact Kp.refl _ | assumption | refine Kp.alloc ?_ _ | refine Kp.drew ?_ | refine Kp.drewN ?_ _ | refine Kp.trans ?_ (by assumption)))) hk)
    have hK : Kp w w1 := Kp.trans (by (repeat (first | with_reducible exact Kp.refl _ | with_reducible assumption | with_reducible refine Kp.alloc ?_ _ | with_reducible refine Kp.drew ?_ | with_reducible refine Kp.drewN ?_ _ | exact Kp.refl _ | assumption | refine Kp.alloc ?_ _ | refine Kp.drew ?_ | refine Kp.drewN ?_ _ | refine Kp.trans ?_ (by assumption)))) hk
    have c0 := b0.cell 0
    have c1 := b0.cell 1
    have c2 := b0.cell 2
    have c3 := b0.cell 3
    have f0 := b0.free 0
    have f1 := b0.free 1
    have f2 := b0.free 2
    have f3 := b0.free 3
    have d0 := b1.cell 0
    have d1 := b1.cell 1
    have d2 := b1.cell 2
    have d3 := b1.cell 3
    simp only [List.getElem?_cons_zero, List.getElem?_cons_succ] at c0 c1 c2 c3 d0 d1 d2 d3
    rcases ho : ofP 1 e r ⟨#[]⟩ with _ | q
    · simp only [pval, codeP]
      have HO := Lib.hid ho
      clear ho
      go_wp2_with fail
      refine bodyPost_ret (v := .tuple #[frv 0 0 0 ⟨#[]⟩, .int .i64 2]) (by simp [results, Try.results15, go_sem, *]) rfl ⟨by unfold frameV; rw [HO.out], ?_⟩
      refine Kp.set (Kp.set (Kp.set (Kp.set hK ?_ _) ?_ _) ?_ _) ?_ _ <;> exact Nat.le_refl _
    · simp only [codeP]
      generalize pval (some q) = pv
      have HO := Lib.hid ho
      clear ho
      go_wp2_with fail
      refine bodyPost_ret (v := .tuple #[frv 1 e r ⟨#[]⟩, .int .i64 0]) (by simp [results, Try.results15, go_sem, *]) rfl ⟨by unfold frameV; rw [HO.out], ?_⟩
      refine Kp.set (Kp.set (Kp.set (Kp.set hK ?_ _) ?_ _) ?_ _) ?_ _ <;> exact Nat.le_refl _
  · simp only [pval, headV, partV, sealV, floorV, fkOf, faOf, fbOf, fsOf, PcOk] at t1 t2 t3 t4 hp ⊢
    go_enter Try.func15, Try.ntmps15
    go_wp2_with fail
    refine (of_any _ _ _ _ (hp) _).mono ?_
    rintro e' w1 ⟨rfl, hk⟩
    obtain ⟨b0, b1⟩ := H2.out 2 s a t w1 (Kp.trans (by (repeat (first | with_reducible exact Kp.refl _ | with_reducible assumption | with_reducible refine Kp.alloc ?_ _ | with_reducible refine Kp.drew ?_ | with_reducible refine Kp.drewN ?_ _ | exact Kp.refl _ | assumption | refine Kp.alloc ?_ _ | refine Kp.drew ?_ | refine Kp.drewN ?_ _ | refine Kp.trans ?_ (by assumption)))) hk)
    have hK : Kp w w1 := Kp.trans (by (repeat (first | with_reducible exact Kp.refl _ | with_reducible assumption | with_reducible refine Kp.alloc ?_ _ | with_reducible refine Kp.drew ?_ | with_reducible refine Kp.drewN ?_ _ | exact Kp.refl _ | assumption | refine Kp.alloc ?_ _ | refine Kp.drew ?_ | refine Kp.drewN ?_ _ | refine Kp.trans ?_ (by assumption)))) hk
    have c0 := b0.cell 0
    have c1 := b0.cell 1
    have c2 := b0.cell 2
    have c3 := b0.cell 3
    have f0 := b0.free 0
    have f1 := b0.free 1
    have f2 := b0.free 2
    have f3 := b0.free 3
    have d0 := b1.cell 0
    have d1 := b1.cell 1
    have d2 := b1.cell 2
    have d3 := b1.cell 3
    simp only [List.getElem?_cons_zero, List.getElem?_cons_succ] at c0 c1 c2 c3 d0 d1 d2 d3
    rcases ho : ofP 2 s a t with _ | q
    · simp only [pval, codeP]
      have HO := Lib.hid ho
      clear ho
      go_wp2_with fail
      refine bodyPost_ret (v := .tuple #[frv 0 0 0 ⟨#[]⟩, .int .i64 2]) (by simp [results, Try.results15, go_sem, *]) rfl ⟨by unfold frameV; rw [HO.out], ?_⟩
      refine Kp.set (Kp.set (Kp.set (Kp.set hK ?_ _) ?_ _) ?_ _) ?_ _ <;> exact Nat.le_refl _
    · simp only [codeP]
      generalize pval (some q) = pv
      have HO := Lib.hid ho
      clear ho
      go_wp2_with fail
      refine bodyPost_ret (v := .tuple #[frv 2 s a t, .int .i64 0]) (by simp [results, Try.results15, go_sem, *]) rfl ⟨by unfold frameV; rw [HO.out], ?_⟩
      refine Kp.set (Kp.set (Kp.set (Kp.set hK ?_ _) ?_ _) ?_ _) ?_ _ <;> exact Nat.le_refl _
  · exact absurd he (by simp only [fkOf]; omega)
  · exact absurd he (by simp only [fkOf]; omega)
end Go.Proofs.Ytadggldngoknjaa
