/- The walk of ChartPlays. -/
import Derived.Test.YtbcoghfpomnkkaaRNew
import Derived.Test.YtbcoghfpomnkkaaLawChart
namespace Go.Proofs.Ytbcoghfpomnkkaa
open Go.RowKit
set_option linter.unusedVariables false

/-- A call on an account, raw. -/
structure Stp where
  what : Int
  a : Int
  b : Int
  ep : Int
  near : Bool
instance : Inhabited Stp := ⟨⟨0, 0, 0, 0, false⟩⟩
def scells (x : Stp) : List Value := [.int .i64 x.what, .int .i64 x.a, .int .i64 x.b, .int .u32 x.ep, .bool x.near]
def StpsAt (w : World) (A : Option Addr) (xs : List Stp) : Prop :=
  xs.length ≤ 9223372036854775807 ∧ (0 < xs.length → ∃ b off, A = some ⟨b, off, none⟩ ∧ ∀ j (h : j < xs.length), w.cell? ⟨b, off + j * 5, none⟩ = some (.int .i64 xs[j].what) ∧ w.cell? ⟨b, off + j * 5 + 1, none⟩ = some (.int .i64 xs[j].a) ∧ w.cell? ⟨b, off + j * 5 + 2, none⟩ = some (.int .i64 xs[j].b) ∧ w.cell? ⟨b, off + j * 5 + 3, none⟩ = some (.int .u32 xs[j].ep) ∧ w.cell? ⟨b, off + j * 5 + 4, none⟩ = some (.bool xs[j].near))
theorem StpsAt.keep {w w' : World} {A : Option Addr} {xs : List Stp} (h : StpsAt w A xs) (k' : Kp w w') : StpsAt w' A xs :=
  ⟨h.1, fun hn => by
    obtain ⟨b, off, e, hc⟩ := h.2 hn
    exact ⟨b, off, e, fun j hj => ⟨k'.cell (hc j hj).1, k'.cell (hc j hj).2.1, k'.cell (hc j hj).2.2.1, k'.cell (hc j hj).2.2.2.1, k'.cell (hc j hj).2.2.2.2⟩⟩⟩
def StpOk (xs : List Stp) : Prop := ∀ x ∈ xs, (-9223372036854775808 ≤ x.what ∧ x.what ≤ 9223372036854775807) ∧ (-9223372036854775808 ≤ x.a ∧ x.a ≤ 9223372036854775807) ∧ (-9223372036854775808 ≤ x.b ∧ x.b ≤ 9223372036854775807) ∧ (0 ≤ x.ep ∧ x.ep ≤ 4294967295)

set_option maxRecDepth 20000 in
set_option maxHeartbeats 6400000 in
theorem ChartPlays_walk (w : World) (p s r : Int) (wp : (Lit.int .i64 p).wf = true) (ws : (Lit.int .i64 s).wf = true) (wr : (Lit.int .i64 r).wf = true) (A : Option Addr) (c : Nat) (xs : List Stp) (H : StpsAt w A xs) (hw : StpOk xs) :
    Calls Try.prog 8 #[geo p s r, .slice A xs.length c] w fun e w' => e = .returned (.bool true) ∧ Kp w w' := by
  have bp := bounds_i64 wp
  have bs := bounds_i64 ws
  have br := bounds_i64 wr
  clear wp ws wr
  obtain ⟨P, S, n, hP, hS, hn, hR, hn7, hS6, hP64⟩ := small_geom p s r
  have HGE := Lib.hid (fun w => bgeom_any p s r bp bs br w)
  rw [hP, hS, hn] at HGE
  clear hP hS hn
  obtain ⟨r1, r2, r3, r4, r5, r6⟩ := id hR
  have hlx := H.1
  go_enter Try.func8, Try.ntmps8
  go_wp2_with fail
  refine (HGE.out _).mono ?_
  rintro e w1 ⟨rfl, hk1⟩
  have hB := (Bk.new w 23 [.int .i64 p, .int .i64 s, .int .i64 r]).keep hk1
  have hK := (Kp.one w (.cells [.int .i64 p, .int .i64 s, .int .i64 r].toArray 23)).trans hk1
  clear hk1
  obtain ⟨c0, c1, c2⟩ := hB.c3g
  have f0 := hB.free 0
  have f1 := hB.free 1
  have f2 := hB.free 2
  go_wp2_with fail
  obtain ⟨hB2, hK2⟩ := put3 hB hK (Nat.le_refl _) (.int .i64 P) (.int .i64 S) (.int .i64 n)
  refine (cnew_yes P S n hR _).mono ?_
  rintro e w2 ⟨g, q, rfl, hg, hq, h0, hk2⟩
  have hB3 := hB2.keep hk2
  have hK3 := hK2.trans hk2
  have hgw : w.heap.size < g ∧ w.heap.size < q := by have := hB2.lt; omega
  obtain ⟨hg1, hq1⟩ := hgw
  have hrl : (List.replicate n ((0 : Int), (0 : Int))).length = n := List.length_replicate
  have HC := Lib.hid (fun W (kk : Kp w2 W) => (hB3.keep kk).c3g)
  have HG := Lib.hid (fun W (kk : Kp w2 W) => cgeom_any W g q P S _ _ (h0.keep kk))
  rw [hrl] at HG
  clear hB hK c0 c1 c2 f0 f1 f2 hB2 hK2 hk2 hg hq
  go_wp2_with fail
  have hInh := fun (x v : Value) => (⟨fun h => h _ ((Kp.refl w2).drew), fun h _ _ => h⟩ : (∀ W, (fun W => Kp w2 W) W → x = v) ↔ x = v)
  dsimp only at hInh
  refine wp_region_quietC (C := fun W => Kp w2 W) (by kernel_rfl) (by kernel_rfl) ((Kp.refl w2).drew) ?_
  repeat (first | go_big_quiet_step ((intro hW; first | (first | (go_at_call 12; refine (alive_any _).mono ?_; rintro e w' ⟨rfl, hk9⟩; exact ⟨rfl, hW.trans hk9⟩) | (go_at_call 26; refine (HG.out _ hW).mono ?_; rintro e w' ⟨rfl, hk9⟩; exact ⟨rfl, hW.trans hk9⟩)) | (with_reducible rfl) | (obtain ⟨c0, c1, c2⟩ := HC.out _ hW; (try go_simp); first | done | with_reducible rfl | exact ⟨rfl, rfl⟩))) | quiet_step ((intro hW; first | (first | (go_at_call 12; refine (alive_any _).mono ?_; rintro e w' ⟨rfl, hk9⟩; exact ⟨rfl, hW.trans hk9⟩) | (go_at_call 26; refine (HG.out _ hW).mono ?_; rintro e w' ⟨rfl, hk9⟩; exact ⟨rfl, hW.trans hk9⟩)) | (with_reducible rfl) | (obtain ⟨c0, c1, c2⟩ := HC.out _ hW; (try go_simp); first | done | with_reducible rfl | exact ⟨rfl, rfl⟩))))
  refine wpQuiet_nil ?_
  intro wq hwq
  clear hInh
  have h1 := h0.keep hwq
  have hK4 := hK3.trans hwq
  obtain ⟨c0, c1, c2⟩ := HC.out _ hwq
  clear HC HG h0 hK3
  go_wp2_with fail
  refine (rnew_any P S n hR _).mono ?_
  rintro e w3 ⟨h, b, u, rfl, ⟨b1, b2, b3⟩, hr0, hk3⟩
  have h2 := h1.keep hk3
  have hK5 := hK4.trans hk3
  have lg := h1.box.lt
  have lq := h1.row.lt
  have hdis : g ∉ [h, b, u] ∧ q ∉ [h, b, u] ∧ h ∉ [g, q] ∧ b ∉ [g, q] ∧ u ∉ [g, q] := by simp; omega
  have hbase : ∀ x ∈ [g, q, h, b, u], w.heap.size ≤ x := by
    intro x hx
    have := hK4.size
    simp at hx
    omega
  have two0 : Two w3 g q h b u P S (List.replicate n (0, 0)) (-1) := ⟨h2, hr0, repOk P S n hR, hdis⟩
  clear h1 hK4 h2 hr0 hk3 lg lq b1 b2 b3 c0 c1 c2 hwq
  have HR0 := Lib.hid hrl
  clear hrl
  go_wp2_with fail
  go_loopw [7] (fun i wr => ∃ k : Nat, k ≤ xs.length ∧ k ≤ 80 ∧ i = .int .i64 k ∧ (∃ l o, l.length = n ∧ Two wr g q h b u P S l o) ∧ Kp w wr) (fun i _ => 80 - (intOf i).toNat)
  case atStart => exact ⟨0, by omega, by omega, rfl, ⟨_, _, HR0.out, two0⟩, hK5⟩
  case round =>
    obtain ⟨k, hk, hk80, rfl, ⟨l, o, hln, two⟩, hKr⟩ := hrel
    clear two0 hK5 HR0
    have hcases : ¬ k < xs.length ∨ (k < xs.length ∧ ¬ k < 80) ∨ (k < xs.length ∧ k < 80) := by omega
    rcases hcases with hc | ⟨hc, hc2⟩ | ⟨hc, hc2⟩
    · have d1 : decide ((k : Int) < (xs.length : Int)) = false := by simp; omega
      go_wp2_with fail
      go_ret
      exact ⟨rfl, hKr⟩
    · have d1 : decide ((k : Int) < (xs.length : Int)) = true := by simp; omega
      have d2 : decide ((k : Int) < 80) = false := by simp; omega
      go_wp2_with fail
      go_ret
      exact ⟨rfl, hKr⟩
    · have d1 : decide ((k : Int) < (xs.length : Int)) = true := by simp; omega
      have d2 : decide ((k : Int) < 80) = true := by simp; omega
      have hlt : (k : Int) < (xs.length : Int) := by omega
      obtain ⟨B, off, rfl, hcell⟩ := H.2 (by omega)
      obtain ⟨e0', e1', e2', e3', e4'⟩ := hcell k hc
      have HEA := Lib.hid (fun W (kk : Kp w W) => kk.cell e1')
      have e0 := hKr.cell e0'
      have e1 := hKr.cell e1'
      have e2 := hKr.cell e2'
      have e3 := hKr.cell e3'
      have e4 := hKr.cell e4'
      clear e0' e1' e2' e3' e4'
      obtain ⟨v0, v1, v2, v3⟩ := hw _ (List.getElem_mem hc)
      generalize xs[k] = x at *
      have HLN := Lib.hid hln
      clear hcell hlx hln
      go_wp2_with fail
      refine (step_any wr g q h b u P S l o two _ _ _ _ _ v0 v1 v2 v3).mono ?_
      rintro e w4 ⟨rfl, l', o', hl', two', m4⟩
      have hK6 := Mv.kp hKr hbase m4
      have hea := HEA.out _ hK6
      have HL4 := Lib.hid (hl'.trans HLN.out)
      clear e0 e1 e2 e3 e4 hKr m4 hl'
      go_wp2_with fail
      refine (same_any w4 g q h b u P S l' o' two' _).mono ?_
      rintro e w5 ⟨rfl, k5⟩
      have hK7 := hK6.trans k5
      have two5 := two'.keep k5
      clear hea two' hK6 k5
      go_wp2_with fail
      go_roundw
      case rel => exact ⟨k + 1, by omega, by omega, by go_num, ⟨l', o', HL4.out, two5⟩, hK7⟩
      case measure => simp [intOf]; omega
end Go.Proofs.Ytbcoghfpomnkkaa
