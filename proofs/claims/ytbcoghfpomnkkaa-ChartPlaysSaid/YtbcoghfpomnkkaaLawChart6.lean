/- The walk of ChartPlays: step, same. -/
import Derived.Test.YtbcoghfpomnkkaaRChart8
namespace Go.Proofs.Ytbcoghfpomnkkaa
open Go.RowKit
set_option linter.unusedVariables false

/-- Both accounts stand in memory. -/
structure Two (W : World) (g q h b u : Nat) (p s : Int) (l : List (Int × Int)) (o : Int) : Prop where
  ch : ChAt W g q p s l o
  rc : RcAt W h b u p s l o
  ok : ChOk p s l o
  d : g ∉ [h, b, u] ∧ q ∉ [h, b, u] ∧ h ∉ [g, q] ∧ b ∉ [g, q] ∧ u ∉ [g, q]
section
variable {W W' : World} {g q h b u : Nat} {p s : Int} {l l' : List (Int × Int)} {o o' : Int}
theorem Two.keep (t : Two W g q h b u p s l o) (k : Kp W W') : Two W' g q h b u p s l o := ⟨t.ch.keep k, t.rc.keep k, t.ok, t.d⟩
theorem sub1 (x : Nat) (hx : x ∈ [g, q]) : x ∈ [g, q, h, b, u] := by simp at hx ⊢; omega
theorem sub2 (x : Nat) (hx : x ∈ [h, b, u]) : x ∈ [g, q, h, b, u] := by simp at hx ⊢; omega
end

/-- What a step leaves. -/
def Steps (W : World) (g q h b u : Nat) (p s : Int) (n : Nat) (e : Ending) (w' : World) : Prop :=
  e = .returned (.bool true) ∧ ∃ l' o', l'.length = n ∧ Two w' g q h b u p s l' o' ∧ Mv [g, q, h, b, u] W w'

set_option maxRecDepth 20000 in
set_option maxHeartbeats 6400000 in
theorem step_any (W : World) (g q h b u : Nat) (p s : Int) (l : List (Int × Int)) (o : Int) (t : Two W g q h b u p s l o)
    (what x1 x2 x3 : Int) (near : Bool) (bw : -9223372036854775808 ≤ what ∧ what ≤ 9223372036854775807) (b1 : -9223372036854775808 ≤ x1 ∧ x1 ≤ 9223372036854775807) (b2 : -9223372036854775808 ≤ x2 ∧ x2 ≤ 9223372036854775807) (b3 : 0 ≤ x3 ∧ x3 ≤ 4294967295) :
    Calls Try.prog 28 #[.pointer (some ⟨g, 0, none⟩), .pointer (some ⟨h, 0, none⟩), .agg #[.int .i64 what, .int .i64 x1, .int .i64 x2, .int .u32 x3, .bool near]] W (Steps W g q h b u p s l.length) := by
  obtain ⟨r1, r2, r3, r4, r5, r6⟩ := t.ok.right
  have HPW := Lib.hid (fun w => pick_any what 10 (by omega) (by omega) bw.1 bw.2 w)
  have hm0 := Int.emod_nonneg what (show (10 : Int) ≠ 0 by omega)
  have hm1 := Int.emod_lt_of_pos what (show (0 : Int) < 10 by omega)
  generalize what % 10 = m at *
  have HP := Lib.hid (fun n m w (hm : 0 < m) (hm2 : m ≤ 1000000000) (h : -9223372036854775808 ≤ n ∧ n ≤ 9223372036854775807) => pick_any n m hm hm2 h.1 h.2 w)
  have hb0 := Bk.new W 51 [.int .i64 what, .int .i64 x1, .int .i64 x2, .int .u32 x3, .bool near]
  go_enter Try.func28, Try.ntmps28
  go_wp2_with fail
  have t0 := t.keep (Kp.one W (.cells [.int .i64 what, .int .i64 x1, .int .i64 x2, .int .u32 x3, .bool near].toArray 51))
  have k0 := Kp.one W (.cells [.int .i64 what, .int .i64 x1, .int .i64 x2, .int .u32 x3, .bool near].toArray 51)
  generalize hg0 : W.heap.size = n0 at *
  generalize hw0 : W.alloc (.cells [.int .i64 what, .int .i64 x1, .int .i64 x2, .int .u32 x3, .bool near].toArray 51) = w0 at *
  have HX := Lib.hid (fun w1 (k : Kp w0 w1) => (⟨(hb0.keep k).cell 0, (hb0.keep k).cell 1, (hb0.keep k).cell 2, (hb0.keep k).cell 3, (hb0.keep k).cell 4⟩ : w1.cell? ⟨n0, 0, none⟩ = some (.int .i64 what) ∧ w1.cell? ⟨n0, 1, none⟩ = some (.int .i64 x1) ∧ w1.cell? ⟨n0, 2, none⟩ = some (.int .i64 x2) ∧ w1.cell? ⟨n0, 3, none⟩ = some (.int .u32 x3) ∧ w1.cell? ⟨n0, 4, none⟩ = some (.bool near)))
  have HR := Lib.hid (fun w1 (k : Kp w0 w1) => ((t0.keep k).rc).c6)
  clear hw0 hb0 hg0
  have hInh := fun (x v : Value) => (⟨fun h => h _ ((Kp.refl w0).drew), fun h _ _ => h⟩ : (∀ W, (fun W1 => Kp w0 W1) W → x = v) ↔ x = v)
  dsimp only at hInh
  refine wp_region_quietC (C := fun W1 => Kp w0 W1) (by kernel_rfl) (by kernel_rfl) ((Kp.refl w0).drew) ?_
  repeat (first | go_big_quiet_step ((intro hW; first | fail | (with_reducible rfl) | (obtain ⟨d0, d1, d2, d3, d4⟩ := HX.out _ hW; (try go_simp); first | done | with_reducible rfl | exact ⟨rfl, rfl⟩))) | quiet_step ((intro hW; first | fail | (with_reducible rfl) | (obtain ⟨d0, d1, d2, d3, d4⟩ := HX.out _ hW; (try go_simp); first | done | with_reducible rfl | exact ⟨rfl, rfl⟩))))
  refine wpQuiet_nil ?_
  intro wq hwq
  clear hInh
  have t1 := t0.keep hwq
  have k1 := k0.trans hwq
  obtain ⟨d0, d1, d2, d3, d4⟩ := HX.out _ hwq
  have hcases : m = 0 ∨ m = 1 ∨ (m = 2 ∨ m = 3) ∨ (m = 8 ∨ m = 9) ∨ (4 ≤ m ∧ m ≤ 7) := by omega
  clear hm0 hm1
  rcases near with _ | _
  · go_wp2_with fail
    refine (HPW.out _).mono ?_
    rintro e w2 ⟨rfl, rfl⟩
    have hy0 : 0 ≤ x3 := b3.1
    clear HX HR HP HPW d0 d1 d2 d3 d4
    rcases hcases with rfl | rfl | hm | hm | ⟨hm4, hm7⟩
    · obtain ⟨c, l', hlen, ok', hA, hB⟩ := both_set t1.ok x1 x3 x2 hy0
      have HA := Lib.hid hA
      have HB := Lib.hid hB
      have HLN := Lib.hid hlen
      clear hA hB hlen
      go_wp2_with fail
      refine (HA.out _ g q t1.ch).mono ?_
      rintro e w3 ⟨rfl, h3, m3⟩
      have r3' := t1.rc.mv m3 t1.d.2.2.1 t1.d.2.2.2.1 t1.d.2.2.2.2
      go_wp2_with fail
      refine (HB.out _ h b u r3').mono ?_
      rintro e w4 ⟨rfl, r4', m4⟩
      have h4 := h3.mv m4 t1.d.1 t1.d.2.1
      go_wp2_with fail
      go_ret
      exact ⟨ret_bool (by simp), _, _, (by first | exact HLN.out | rfl), ⟨h4, r4', ok', t1.d⟩, (Mv.of k1).trans ((m3.sub sub1).trans (m4.sub sub2))⟩
    · obtain ⟨c, o', hlen, ok', hA, hB⟩ := both_resume t1.ok x1
      have HA := Lib.hid hA
      have HB := Lib.hid hB
      have HLN := Lib.hid hlen
      clear hA hB hlen
      go_wp2_with fail
      refine (HA.out _ g q t1.ch).mono ?_
      rintro e w3 ⟨rfl, h3, m3⟩
      have r3' := t1.rc.mv m3 t1.d.2.2.1 t1.d.2.2.2.1 t1.d.2.2.2.2
      go_wp2_with fail
      refine (HB.out _ h b u r3').mono ?_
      rintro e w4 ⟨rfl, r4', m4⟩
      have h4 := h3.mv m4 t1.d.1 t1.d.2.1
      go_wp2_with fail
      go_ret
      exact ⟨ret_bool (by simp), _, _, (by first | exact HLN.out | rfl), ⟨h4, r4', ok', t1.d⟩, (Mv.of k1).trans ((m3.sub sub1).trans (m4.sub sub2))⟩
    · obtain ⟨c, e', d, l', o', hlen, ok', hA, hB⟩ := both_open t1.ok
      have HA := Lib.hid hA
      have HB := Lib.hid hB
      have HLN := Lib.hid hlen
      clear hA hB hlen
      rcases hm with rfl | rfl
      all_goals
        go_wp2_with fail
        refine (HA.out _ g q t1.ch).mono ?_
        rintro e w3 ⟨rfl, h3, m3⟩
        have r3' := t1.rc.mv m3 t1.d.2.2.1 t1.d.2.2.2.1 t1.d.2.2.2.2
        go_wp2_with fail
        refine (HB.out _ h b u r3').mono ?_
        rintro e w4 ⟨rfl, r4', m4⟩
        have h4 := h3.mv m4 t1.d.1 t1.d.2.1
        go_wp2_with fail
        go_ret
        exact ⟨ret_bool (by simp), _, _, (by first | exact HLN.out | rfl), ⟨h4, r4', ok', t1.d⟩, (Mv.of k1).trans ((m3.sub sub1).trans (m4.sub sub2))⟩
    · obtain ⟨c, l', hlen, ok', hA, hB⟩ := both_erase t1.ok x1
      have HA := Lib.hid hA
      have HB := Lib.hid hB
      have HLN := Lib.hid hlen
      clear hA hB hlen
      rcases hm with rfl | rfl
      all_goals
        go_wp2_with fail
        refine (HA.out _ g q t1.ch).mono ?_
        rintro e w3 ⟨rfl, h3, m3⟩
        have r3' := t1.rc.mv m3 t1.d.2.2.1 t1.d.2.2.2.1 t1.d.2.2.2.2
        go_wp2_with fail
        refine (HB.out _ h b u r3').mono ?_
        rintro e w4 ⟨rfl, r4', m4⟩
        have h4 := h3.mv m4 t1.d.1 t1.d.2.1
        go_wp2_with fail
        go_ret
        exact ⟨ret_bool (by simp), _, _, (by first | exact HLN.out | rfl), ⟨h4, r4', ok', t1.d⟩, (Mv.of k1).trans ((m3.sub sub1).trans (m4.sub sub2))⟩
    · obtain ⟨c, d, l', hlen, ok', hA, hB⟩ := both_take t1.ok
      have HA := Lib.hid hA
      have HB := Lib.hid hB
      have HLN := Lib.hid hlen
      clear hA hB hlen
      have q0 : (m == 0) = false := by simp; omega
      have q1 : (m == 1) = false := by simp; omega
      have q2 : (m == 2) = false := by simp; omega
      have q3 : (m == 3) = false := by simp; omega
      have q8 : (m == 8) = false := by simp; omega
      have q9 : (m == 9) = false := by simp; omega
      go_wp2_with fail
      refine (HA.out _ g q t1.ch).mono ?_
      rintro e w3 ⟨rfl, h3, m3⟩
      have r3' := t1.rc.mv m3 t1.d.2.2.1 t1.d.2.2.2.1 t1.d.2.2.2.2
      go_wp2_with fail
      refine (HB.out _ h b u r3').mono ?_
      rintro e w4 ⟨rfl, r4', m4⟩
      have h4 := h3.mv m4 t1.d.1 t1.d.2.1
      go_wp2_with fail
      go_ret
      exact ⟨ret_bool (by simp), _, _, (by first | exact HLN.out | rfl), ⟨h4, r4', ok', t1.d⟩, (Mv.of k1).trans ((m3.sub sub1).trans (m4.sub sub2))⟩
  · go_wp2_with fail
    have hInh := fun (x v : Value) => (⟨fun h => h _ (hwq.drew), fun h _ _ => h⟩ : (∀ W, (fun W1 => Kp w0 W1) W → x = v) ↔ x = v)
    dsimp only at hInh
    refine wp_region_quietC (C := fun W1 => Kp w0 W1) (by kernel_rfl) (by kernel_rfl) (hwq.drew) ?_
    repeat (first | go_big_quiet_step ((intro hW; first | (go_at_call 13; refine (HP.out _ _ _ (by omega) (by omega) (by assumption)).mono ?_; rintro e w' ⟨rfl, rfl⟩; exact ⟨rfl, hW⟩) | (with_reducible rfl) | (obtain ⟨d0, d1, d2, d3, d4⟩ := HX.out _ hW; obtain ⟨c0, c1, c2, c3, c4, c5⟩ := HR.out _ hW; (try go_simp); first | done | with_reducible rfl | exact ⟨rfl, rfl⟩))) | quiet_step ((intro hW; first | (go_at_call 13; refine (HP.out _ _ _ (by omega) (by omega) (by assumption)).mono ?_; rintro e w' ⟨rfl, rfl⟩; exact ⟨rfl, hW⟩) | (with_reducible rfl) | (obtain ⟨d0, d1, d2, d3, d4⟩ := HX.out _ hW; obtain ⟨c0, c1, c2, c3, c4, c5⟩ := HR.out _ hW; (try go_simp); first | done | with_reducible rfl | exact ⟨rfl, rfl⟩))))
    refine wpQuiet_nil ?_
    intro wq hwq
    clear hInh
    clear t1 k1 d0 d1 d2 d3 d4
    have t1 := t0.keep hwq
    have k1 := k0.trans hwq
    obtain ⟨d0, d1, d2, d3, d4⟩ := HX.out _ hwq
    go_wp2_with fail
    refine (HPW.out _).mono ?_
    rintro e w2 ⟨rfl, rfl⟩
    have hy0 : 0 ≤ x3 % 9 := by omega
    clear HX HR HP HPW d0 d1 d2 d3 d4
    generalize x1 % (l.length : Int) = x1 at *
    generalize x3 % 9 = x3 at *
    generalize x2 % s = x2 at *
    rcases hcases with rfl | rfl | hm | hm | ⟨hm4, hm7⟩
    · obtain ⟨c, l', hlen, ok', hA, hB⟩ := both_set t1.ok x1 x3 x2 hy0
      have HA := Lib.hid hA
      have HB := Lib.hid hB
      have HLN := Lib.hid hlen
      clear hA hB hlen
      go_wp2_with fail
      refine (HA.out _ g q t1.ch).mono ?_
      rintro e w3 ⟨rfl, h3, m3⟩
      have r3' := t1.rc.mv m3 t1.d.2.2.1 t1.d.2.2.2.1 t1.d.2.2.2.2
      go_wp2_with fail
      refine (HB.out _ h b u r3').mono ?_
      rintro e w4 ⟨rfl, r4', m4⟩
      have h4 := h3.mv m4 t1.d.1 t1.d.2.1
      go_wp2_with fail
      go_ret
      exact ⟨ret_bool (by simp), _, _, (by first | exact HLN.out | rfl), ⟨h4, r4', ok', t1.d⟩, (Mv.of k1).trans ((m3.sub sub1).trans (m4.sub sub2))⟩
    · obtain ⟨c, o', hlen, ok', hA, hB⟩ := both_resume t1.ok x1
      have HA := Lib.hid hA
      have HB := Lib.hid hB
      have HLN := Lib.hid hlen
      clear hA hB hlen
      go_wp2_with fail
      refine (HA.out _ g q t1.ch).mono ?_
      rintro e w3 ⟨rfl, h3, m3⟩
      have r3' := t1.rc.mv m3 t1.d.2.2.1 t1.d.2.2.2.1 t1.d.2.2.2.2
      go_wp2_with fail
      refine (HB.out _ h b u r3').mono ?_
      rintro e w4 ⟨rfl, r4', m4⟩
      have h4 := h3.mv m4 t1.d.1 t1.d.2.1
      go_wp2_with fail
      go_ret
      exact ⟨ret_bool (by simp), _, _, (by first | exact HLN.out | rfl), ⟨h4, r4', ok', t1.d⟩, (Mv.of k1).trans ((m3.sub sub1).trans (m4.sub sub2))⟩
    · obtain ⟨c, e', d, l', o', hlen, ok', hA, hB⟩ := both_open t1.ok
      have HA := Lib.hid hA
      have HB := Lib.hid hB
      have HLN := Lib.hid hlen
      clear hA hB hlen
      rcases hm with rfl | rfl
      all_goals
        go_wp2_with fail
        refine (HA.out _ g q t1.ch).mono ?_
        rintro e w3 ⟨rfl, h3, m3⟩
        have r3' := t1.rc.mv m3 t1.d.2.2.1 t1.d.2.2.2.1 t1.d.2.2.2.2
        go_wp2_with fail
        refine (HB.out _ h b u r3').mono ?_
        rintro e w4 ⟨rfl, r4', m4⟩
        have h4 := h3.mv m4 t1.d.1 t1.d.2.1
        go_wp2_with fail
        go_ret
        exact ⟨ret_bool (by simp), _, _, (by first | exact HLN.out | rfl), ⟨h4, r4', ok', t1.d⟩, (Mv.of k1).trans ((m3.sub sub1).trans (m4.sub sub2))⟩
    · obtain ⟨c, l', hlen, ok', hA, hB⟩ := both_erase t1.ok x1
      have HA := Lib.hid hA
      have HB := Lib.hid hB
      have HLN := Lib.hid hlen
      clear hA hB hlen
      rcases hm with rfl | rfl
      all_goals
        go_wp2_with fail
        refine (HA.out _ g q t1.ch).mono ?_
        rintro e w3 ⟨rfl, h3, m3⟩
        have r3' := t1.rc.mv m3 t1.d.2.2.1 t1.d.2.2.2.1 t1.d.2.2.2.2
        go_wp2_with fail
        refine (HB.out _ h b u r3').mono ?_
        rintro e w4 ⟨rfl, r4', m4⟩
        have h4 := h3.mv m4 t1.d.1 t1.d.2.1
        go_wp2_with fail
        go_ret
        exact ⟨ret_bool (by simp), _, _, (by first | exact HLN.out | rfl), ⟨h4, r4', ok', t1.d⟩, (Mv.of k1).trans ((m3.sub sub1).trans (m4.sub sub2))⟩
    · obtain ⟨c, d, l', hlen, ok', hA, hB⟩ := both_take t1.ok
      have HA := Lib.hid hA
      have HB := Lib.hid hB
      have HLN := Lib.hid hlen
      clear hA hB hlen
      have q0 : (m == 0) = false := by simp; omega
      have q1 : (m == 1) = false := by simp; omega
      have q2 : (m == 2) = false := by simp; omega
      have q3 : (m == 3) = false := by simp; omega
      have q8 : (m == 8) = false := by simp; omega
      have q9 : (m == 9) = false := by simp; omega
      go_wp2_with fail
      refine (HA.out _ g q t1.ch).mono ?_
      rintro e w3 ⟨rfl, h3, m3⟩
      have r3' := t1.rc.mv m3 t1.d.2.2.1 t1.d.2.2.2.1 t1.d.2.2.2.2
      go_wp2_with fail
      refine (HB.out _ h b u r3').mono ?_
      rintro e w4 ⟨rfl, r4', m4⟩
      have h4 := h3.mv m4 t1.d.1 t1.d.2.1
      go_wp2_with fail
      go_ret
      exact ⟨ret_bool (by simp), _, _, (by first | exact HLN.out | rfl), ⟨h4, r4', ok', t1.d⟩, (Mv.of k1).trans ((m3.sub sub1).trans (m4.sub sub2))⟩
end Go.Proofs.Ytbcoghfpomnkkaa
