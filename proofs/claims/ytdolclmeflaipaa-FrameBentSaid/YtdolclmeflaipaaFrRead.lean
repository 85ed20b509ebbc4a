/- The contract of Read. -/
import Derived.Test.YtdolclmeflaipaaFrMath
namespace Go.Proofs.Ytdolclmeflaipaa
open Go.RowKit
set_option linter.unusedVariables false

def ReadPost (w : World) (f : Fr) (c : Int) (e : Ending) (w' : World) : Prop := e = .returned (.tuple #[frv f.k f.a f.b f.t, .int .i64 c]) ∧ Kp w w'
set_option maxHeartbeats 800000 in
theorem read_len (s : ByteArray) (hs : s.size ≤ 9223372036854775807) (h : s.size < 32 ∨ (32 ≤ s.size ∧ 128 < s.size)) (w : World) :
    Calls Try.prog 16 #[.string s] w (ReadPost w noFr 1) := by
  rcases h with h | ⟨h1, h2⟩
  all_goals
    go_enter Try.func16, Try.ntmps16
    go_wp2_with fail
    refine bodyPost_ret (v := .tuple #[frv 0 0 0 ⟨#[]⟩, .int .i64 1]) (by simp [results, Try.results16, go_sem]) rfl ⟨rfl, ?_⟩
    (repeat (first | with_reducible exact Kp.refl _ | with_reducible assumption | with_reducible refine Kp.alloc ?_ _ | with_reducible refine Kp.drew ?_ | with_reducible refine Kp.drewN ?_ _ | exact Kp.refl _ | assumption | refine Kp.alloc ?_ _ | refine Kp.drew ?_ | refine Kp.drewN ?_ _ | refine Kp.trans ?_ (by assumption)))
set_option maxHeartbeats 800000 in
theorem read_blank (s : ByteArray) (h1 : 32 ≤ s.size) (h2 : s.size ≤ 128) (hb : blankB s = true) (w : World) :
    Calls Try.prog 16 #[.string s] w (ReadPost w noFr 9) := by
  have HBL := Lib.hid (fun W => blank_any s (by omega) W)
  rw [hb] at HBL
  clear hb
  go_enter Try.func16, Try.ntmps16
  go_wp2_with fail
  refine (HBL.out _).mono ?_
  rintro e w1 ⟨rfl, rfl⟩
  go_wp2_with fail
  refine bodyPost_ret (v := .tuple #[frv 0 0 0 ⟨#[]⟩, .int .i64 9]) (by simp [results, Try.results16, go_sem]) rfl ⟨rfl, ?_⟩
  (repeat (first | with_reducible exact Kp.refl _ | with_reducible assumption | with_reducible refine Kp.alloc ?_ _ | with_reducible refine Kp.drew ?_ | with_reducible refine Kp.drewN ?_ _ | exact Kp.refl _ | assumption | refine Kp.alloc ?_ _ | refine Kp.drew ?_ | refine Kp.drewN ?_ _ | refine Kp.trans ?_ (by assumption)))
theorem beq_bytes (a b : ByteArray) : (a.toList == b.toList) = decide (a = b) := by
  rw [Bool.eq_iff_iff]
  simp only [beq_iff_eq, decide_eq_true_eq, ByteArray.toList_eq]
  exact ⟨fun h => ByteArray.ext (Array.toList_inj.1 h), fun h => by rw [h]⟩
theorem sum_bool (s : ByteArray) (h1 : 32 ≤ s.size) : ((s.extract (s.size - 4) s.size).toList == (put (crcN (s.extract 0 (s.size - 4)))).toList) = decide (SumOk s) := by
  rw [beq_bytes, Bool.eq_iff_iff]
  simp only [decide_eq_true_eq]
  exact (sum_str s h1).symm
set_option maxHeartbeats 1600000 in
theorem read_sum (s : ByteArray) (h1 : 32 ≤ s.size) (h2 : s.size ≤ 128) (hb : blankB s = false) (hS : ¬ SumOk s) (w : World) :
    Calls Try.prog 16 #[.string s] w (ReadPost w noFr 5) := by
  have HBL := Lib.hid (fun W => blank_any s (by omega) W)
  rw [hb] at HBL
  have HEQ := Lib.hid (sum_bool s h1)
  rw [show decide (SumOk s) = false by simpa using hS] at HEQ
  clear hS
  clear hb
  have q1 : IntKind.i64.wrap ((s.size : Int) - 4) = (s.size : Int) - 4 := IntWalk.i64_in _ (by omega)
  have q0 : 4 ≤ (s.size : Int) := by omega
  have hes : (s.extract 0 (s.size - 4)).size ≤ 9223372036854775807 := by rw [ext_size _ _ _ (by omega)]; omega
  have q2 : 0 ≤ (s.size : Int) - 4 := by omega
  have q3 : (s.size : Int) - 4 ≤ (s.size : Int) := by omega
  have q4 : ((s.size : Int) - 4).toNat = s.size - 4 := by omega
  go_enter Try.func16, Try.ntmps16
  go_wp2_with fail
  refine (HBL.out _).mono ?_
  rintro e w1 ⟨rfl, rfl⟩
  go_wp2_with fail
  have hK1 := Kp.one w (fob 0 0 0 ⟨#[]⟩)
  have hR0 := Bk.new w 26 [.int .i64 0, .int .u32 0, .int .u32 0, .string ⟨#[]⟩]
  generalize hw1 : w.alloc (fob 0 0 0 ⟨#[]⟩) = w1 at *
  refine wp_region_rel (R := Kp) (C := fun W => Kp w1 W) (by kernel_rfl) (by kernel_rfl) (Kp.refl w1).drew (fun _ _ h k => h.trans k) Kp.refl (fun _ _ _ h k => h.trans k) ?_
  repeat (refine wpRel_step (fun K hK => ?_); apply rel_eq; (case ob => (intro f W hW hd; (skip); (try simp [deps, factOf, Region.binds] at hd); unfold relOp; go_simp; (first | exact ⟨Kp.refl _, rfl⟩ | exact Kp.refl _ | (refine ⟨Kp.refl _, ?_⟩; fail)))); go_simp; refine hK _ _ ?_; clear hK K)
  refine wpRel_step (fun K hK => ?_)
  apply rel_fact (fun v W => ∃ q, v = .slice (some ⟨q, 0, none⟩) 1 1 ∧ W.cell? ⟨q, 0, none⟩ = some (.string (s.extract 0 (s.size - 4)))) (fun v W W' hr ⟨q, h1, h2⟩ => ⟨q, h1, hr.cell h2⟩)
  case ob =>
    intro f W hW hd
    skip
    (try simp [deps, factOf, Region.binds] at hd)
    unfold relOp
    go_simp
    first | exact ⟨Kp.one _ _, one_cell _ _ _⟩ | exact Kp.one _ _
  go_simp
  refine hK _ _ ?_
  clear hK K
  refine wpRel_step (fun K hK => ?_)
  apply rel_fact (fun v _ => v = .int .u32 (crcN (s.extract 0 (s.size - 4)) : Nat)) (fun _ _ _ _ h => h)
  case ob =>
    intro f W hW hd
    (simp [deps, factOf, Region.binds] at hd; obtain ⟨q, e3, hq⟩ := hd)
    (try simp [deps, factOf, Region.binds] at hd)
    unfold relOp
    go_simp
    (refine ⟨Kp.refl _, ?_⟩; refine (sum1 _ hes _ _ hq).mono ?_; rintro e w' ⟨rfl, rfl⟩; exact ⟨rfl, Kp.refl _⟩)
  go_simp
  refine hK _ _ ?_
  clear hK K
  repeat (refine wpRel_step (fun K hK => ?_); apply rel_eq; (case ob => (intro f W hW hd; (skip); (try simp [deps, factOf, Region.binds] at hd); unfold relOp; go_simp; (first | exact ⟨Kp.refl _, rfl⟩ | exact Kp.refl _ | (refine ⟨Kp.refl _, ?_⟩; (go_at_call 30; refine (putK _ (crcI _) _).mono ?_; rintro e w' ⟨rfl, hk9⟩; exact ⟨rfl, hk9⟩))))); go_simp; refine hK _ _ ?_; clear hK K)
  refine wpRel_nil ?_
  intro f W hW hall
  have h11 : f 11 = .bool true := (allF_get hall 11 _ rfl).trans (by rw [HEQ.out]; rfl)
  dsimp only
  rw [h11]
  clear hall h11 HBL HEQ q1 q0 q2 q3 q4 hes hw1
  have hRW := hR0.keep hW
  have hKW := hK1.trans hW
  clear hR0 hK1 hW
  have hfr := fun i => hRW.free i
  obtain ⟨r0, r1, r2, r3⟩ : W.cell? ⟨w.heap.size, 0, none⟩ = some (.int .i64 0) ∧ W.cell? ⟨w.heap.size, 1, none⟩ = some (.int .u32 0) ∧ W.cell? ⟨w.heap.size, 2, none⟩ = some (.int .u32 0) ∧ W.cell? ⟨w.heap.size, 3, none⟩ = some (.string ⟨#[]⟩) := ⟨hRW.cell 0, hRW.cell 1, hRW.cell 2, hRW.cell 3⟩
  go_wp2_with fail
  have hR9 := (((hRW.put 0 (.int .i64 0)).put 1 (.int .u32 0)).put 2 (.int .u32 0)).put 3 (.string ⟨#[]⟩)
  have hK9 := (((hKW.set (p := ⟨w.heap.size, 0, none⟩) (Nat.le_refl _) (.int .i64 0)).set (p := ⟨w.heap.size, 1, none⟩) (Nat.le_refl _) (.int .u32 0)).set (p := ⟨w.heap.size, 2, none⟩) (Nat.le_refl _) (.int .u32 0)).set (p := ⟨w.heap.size, 3, none⟩) (Nat.le_refl _) (.string ⟨#[]⟩)
  generalize (((W.setCell ⟨w.heap.size, 0, none⟩ (.int .i64 0)).setCell ⟨w.heap.size, 1, none⟩ (.int .u32 0)).setCell ⟨w.heap.size, 2, none⟩ (.int .u32 0)).setCell ⟨w.heap.size, 3, none⟩ (.string ⟨#[]⟩) = w9 at *
  have x0 : w9.cell? ⟨w.heap.size, 0, none⟩ = some (.int .i64 0) := hR9.cell 0
  have x1 : w9.cell? ⟨w.heap.size, 1, none⟩ = some (.int .u32 0) := hR9.cell 1
  have x2 : w9.cell? ⟨w.heap.size, 2, none⟩ = some (.int .u32 0) := hR9.cell 2
  have x3 : w9.cell? ⟨w.heap.size, 3, none⟩ = some (.string ⟨#[]⟩) := hR9.cell 3
  refine bodyPost_ret (v := .tuple #[frv 0 0 0 ⟨#[]⟩, .int .i64 5]) (by simp [results, Try.results16, go_sem, x0, x1, x2, x3]) rfl ⟨rfl, hK9⟩
theorem readF_ok (s : ByteArray) (h1 : 32 ≤ s.size) (h2 : s.size ≤ 128) (hb : blankB s = false) (hS : SumOk s) (h : 1 ≤ (byteAt s 0 : Int) ∧ (byteAt s 0 : Int) ≤ 4 ∧ bodyLen s + 15 ≤ s.size) (hp : Padded s) : readF s = (⟨fKind s, fA s, fB s, fBody s⟩, 0) := by
  unfold readF
  rw [if_neg (by omega), if_neg (by rw [hb]; simp), if_neg (by simpa using hS), if_neg (by unfold fKind; omega), if_pos hp]
theorem readF_bad (s : ByteArray) (h1 : 32 ≤ s.size) (h2 : s.size ≤ 128) (hb : blankB s = false) (hS : SumOk s) (h : (byteAt s 0 : Int) < 1 ∨ 4 < (byteAt s 0 : Int) ∨ s.size < bodyLen s + 15 ∨ ¬ Padded s) : readF s = (noFr, 2) := by
  unfold readF
  rw [if_neg (by omega), if_neg (by rw [hb]; simp), if_neg (by simpa using hS)]
  split
  · rfl
  · rename_i hn
    rw [if_neg]
    unfold fKind at hn
    intro hp
    rcases h with h | h | h | h
    · omega
    · omega
    · omega
    · exact h hp
theorem getK (s : ByteArray) (k : Nat) (hs : s.size ≤ 9223372036854775807) (h : k + 4 ≤ s.size) (w : World) :
    Calls Try.prog 32 #[.string s, .int .i64 k] w fun e w' => e = .returned (.tuple #[.int .u32 (get4 s k : Nat), .bool true]) ∧ Kp w w' :=
  (get_yes s k hs h w).mono fun e w' ⟨h1, n, h2⟩ => ⟨h1, h2 ▸ (Kp.refl w).drewN n⟩
set_option maxRecDepth 20000 in
set_option maxHeartbeats 3200000 in
theorem read_rest (s : ByteArray) (h1 : 32 ≤ s.size) (h2 : s.size ≤ 128) (hb : blankB s = false) (hS : SumOk s) (w : World) :
    Calls Try.prog 16 #[.string s] w (ReadPost w (readF s).1 (readF s).2) := by
  have hb2 := hb
  have HBL := Lib.hid (fun W => blank_any s (by omega) W)
  rw [hb] at HBL
  have HEQ := Lib.hid (sum_bool s h1)
  rw [show decide (SumOk s) = true by simpa using hS] at HEQ
  clear hb
  have q1 : IntKind.i64.wrap ((s.size : Int) - 4) = (s.size : Int) - 4 := IntWalk.i64_in _ (by omega)
  have q0 : 4 ≤ (s.size : Int) := by omega
  have hes : (s.extract 0 (s.size - 4)).size ≤ 9223372036854775807 := by rw [ext_size _ _ _ (by omega)]; omega
  have q2 : 0 ≤ (s.size : Int) - 4 := by omega
  have q3 : (s.size : Int) - 4 ≤ (s.size : Int) := by omega
  have q4 : ((s.size : Int) - 4).toNat = s.size - 4 := by omega
  have hby : ∀ i (h : i < s.size), (s[i]'h).toNat = byteAt s i := fun i h => (byteAt_get s i h).symm
  have z0 : (byteAt s 0 : Int) < 256 := by have := byteAt_lt s 0; omega
  have z9 : (byteAt s 9 : Int) < 256 := by have := byteAt_lt s 9; omega
  have z10 : (byteAt s 10 : Int) < 256 := by have := byteAt_lt s 10; omega
  have hor : bits .or .i64 (byteAt s 9 : Int) ((byteAt s 10 : Int) * 256) = (bodyLen s : Nat) := or256 _ _ (byteAt_lt s 9) (byteAt_lt s 10)
  have p9 : 9 < s.size := by omega
  have p10 : 10 < s.size := by omega
  have p0 : 0 < s.size := by omega
  go_enter Try.func16, Try.ntmps16
  go_wp2_with fail
  refine (HBL.out _).mono ?_
  rintro e w1 ⟨rfl, rfl⟩
  go_wp2_with fail
  have hK1 := Kp.one w (fob 0 0 0 ⟨#[]⟩)
  have hR0 := Bk.new w 26 [.int .i64 0, .int .u32 0, .int .u32 0, .string ⟨#[]⟩]
  generalize hw1 : w.alloc (fob 0 0 0 ⟨#[]⟩) = w1 at *
  refine wp_region_rel (R := Kp) (C := fun W => Kp w1 W) (by kernel_rfl) (by kernel_rfl) (Kp.refl w1).drew (fun _ _ h k => h.trans k) Kp.refl (fun _ _ _ h k => h.trans k) ?_
  repeat (refine wpRel_step (fun K hK => ?_); apply rel_eq; (case ob => (intro f W hW hd; (skip); (try simp [deps, factOf, Region.binds] at hd); unfold relOp; go_simp; (first | exact ⟨Kp.refl _, rfl⟩ | exact Kp.refl _ | (refine ⟨Kp.refl _, ?_⟩; fail)))); go_simp; refine hK _ _ ?_; clear hK K)
  refine wpRel_step (fun K hK => ?_)
  apply rel_fact (fun v W => ∃ q, v = .slice (some ⟨q, 0, none⟩) 1 1 ∧ W.cell? ⟨q, 0, none⟩ = some (.string (s.extract 0 (s.size - 4)))) (fun v W W' hr ⟨q, h1, h2⟩ => ⟨q, h1, hr.cell h2⟩)
  case ob =>
    intro f W hW hd
    skip
    (try simp [deps, factOf, Region.binds] at hd)
    unfold relOp
    go_simp
    first | exact ⟨Kp.one _ _, one_cell _ _ _⟩ | exact Kp.one _ _
  go_simp
  refine hK _ _ ?_
  clear hK K
  refine wpRel_step (fun K hK => ?_)
  apply rel_fact (fun v _ => v = .int .u32 (crcN (s.extract 0 (s.size - 4)) : Nat)) (fun _ _ _ _ h => h)
  case ob =>
    intro f W hW hd
    (simp [deps, factOf, Region.binds] at hd; obtain ⟨q, e3, hq⟩ := hd)
    (try simp [deps, factOf, Region.binds] at hd)
    unfold relOp
    go_simp
    (refine ⟨Kp.refl _, ?_⟩; refine (sum1 _ hes _ _ hq).mono ?_; rintro e w' ⟨rfl, rfl⟩; exact ⟨rfl, Kp.refl _⟩)
  go_simp
  refine hK _ _ ?_
  clear hK K
  repeat (refine wpRel_step (fun K hK => ?_); apply rel_eq; (case ob => (intro f W hW hd; (skip); (try simp [deps, factOf, Region.binds] at hd); unfold relOp; go_simp; (first | exact ⟨Kp.refl _, rfl⟩ | exact Kp.refl _ | (refine ⟨Kp.refl _, ?_⟩; (go_at_call 30; refine (putK _ (crcI _) _).mono ?_; rintro e w' ⟨rfl, hk9⟩; exact ⟨rfl, hk9⟩))))); go_simp; refine hK _ _ ?_; clear hK K)
  refine wpRel_nil ?_
  intro f W hW hall
  have h11 : f 11 = .bool false := (allF_get hall 11 _ rfl).trans (by rw [HEQ.out]; rfl)
  dsimp only
  rw [h11]
  clear hall h11 HBL HEQ q1 q0 q2 q3 q4 hes hw1
  have hRW := hR0.keep hW
  have hKW := hK1.trans hW
  clear hR0 hK1 hW
  have hfr := fun i => hRW.free i
  obtain ⟨r0, r1, r2, r3⟩ : W.cell? ⟨w.heap.size, 0, none⟩ = some (.int .i64 0) ∧ W.cell? ⟨w.heap.size, 1, none⟩ = some (.int .u32 0) ∧ W.cell? ⟨w.heap.size, 2, none⟩ = some (.int .u32 0) ∧ W.cell? ⟨w.heap.size, 3, none⟩ = some (.string ⟨#[]⟩) := ⟨hRW.cell 0, hRW.cell 1, hRW.cell 2, hRW.cell 3⟩
  go_wp2_with fail
  have hB0 := Bk.new W 26 [.int .i64 (fKind s), .int .u32 0, .int .u32 0, .string ⟨#[]⟩]
  have hKB := Kp.one W (fob (fKind s) 0 0 ⟨#[]⟩)
  have hG : w.heap.size < W.heap.size := hRW.lt
  have hRB := hRW.keep hKB
  have hK2 := hKW.trans hKB
  clear hRW hKB hKW hfr r0 r1 r2 r3
  refine (getK s 1 (by omega) (by omega) _).mono ?_
  rintro e w2 ⟨rfl, hk2⟩
  generalize hNB : W.heap.size = nb9 at *
  have hB2 := hB0.keep hk2
  have hR2 := hRB.keep hk2
  have hK3 := hK2.trans hk2
  have c1 := hB2.cell 1
  have f1 := hB2.free 1
  clear hB0 hRB hK2 hk2
  go_wp2_with fail
  have hB3 := hB2.put 1 (.int .u32 (fA s))
  have hR3 := hR2.far (p := ⟨nb9, 1, none⟩) (by simp; omega) (.int .u32 (fA s))
  have hK4 := hK3.set (p := ⟨nb9, 1, none⟩) (by simp; omega) (.int .u32 (fA s))
  generalize w2.setCell ⟨nb9, 1, none⟩ (.int .u32 (fA s)) = w3 at *
  clear hB2 hR2 hK3 c1 f1
  refine (getK s 5 (by omega) (by omega) _).mono ?_
  rintro e w4 ⟨rfl, hk4⟩
  have hB4 := hB3.keep hk4
  have hR4 := hR3.keep hk4
  have hK5 := hK4.trans hk4
  have c2 := hB4.cell 2
  have f2 := hB4.free 2
  clear hB3 hR3 hK4 hk4
  go_wp2_with fail
  have hB5 := hB4.put 2 (.int .u32 (fB s))
  have hR5 := hR4.far (p := ⟨nb9, 2, none⟩) (by simp; omega) (.int .u32 (fB s))
  have hK6 := hK5.set (p := ⟨nb9, 2, none⟩) (by simp; omega) (.int .u32 (fB s))
  generalize w4.setCell ⟨nb9, 2, none⟩ (.int .u32 (fB s)) = w5 at *
  clear hB4 hR4 hK5 c2 f2
  have hInh := fun (x v : Value) => (⟨fun h => h _ ((Kp.refl w5).drew), fun h _ _ => h⟩ : (∀ W, (fun W => Kp w5 W) W → x = v) ↔ x = v)
  dsimp only at hInh
  refine wp_region_quietC (C := fun W => Kp w5 W) (by kernel_rfl) (by kernel_rfl) ((Kp.refl w5).drew) ?_
  repeat (first | go_big_quiet_step ((intro hW; first | fail | (with_reducible rfl) | (skip; (try go_simp); first | done | with_reducible rfl | exact ⟨rfl, rfl⟩))) | quiet_step ((intro hW; first | fail | (with_reducible rfl) | (skip; (try go_simp); first | done | with_reducible rfl | exact ⟨rfl, rfl⟩))))
  refine wpQuiet_nil ?_
  intro wq hwq
  clear hInh
  have hB7 : Bk wq nb9 26 [.int .i64 (byteAt s 0 : Int), .int .u32 (fA s), .int .u32 (fB s), .string ⟨#[]⟩] := hB5.keep hwq
  have hR7 := hR5.keep hwq
  have hK7 := hK6.trans hwq
  clear hB5 hR5 hK6 hwq
  obtain ⟨d0, d1, d2, d3⟩ : wq.cell? ⟨nb9, 0, none⟩ = some (.int .i64 (byteAt s 0 : Int)) ∧ wq.cell? ⟨nb9, 1, none⟩ = some (.int .u32 (fA s)) ∧ wq.cell? ⟨nb9, 2, none⟩ = some (.int .u32 (fB s)) ∧ wq.cell? ⟨nb9, 3, none⟩ = some (.string ⟨#[]⟩) := ⟨hB7.cell 0, hB7.cell 1, hB7.cell 2, hB7.cell 3⟩
  have hfr := fun i => hR7.free i
  obtain ⟨r0, r1, r2, r3⟩ : wq.cell? ⟨w.heap.size, 0, none⟩ = some (.int .i64 0) ∧ wq.cell? ⟨w.heap.size, 1, none⟩ = some (.int .u32 0) ∧ wq.cell? ⟨w.heap.size, 2, none⟩ = some (.int .u32 0) ∧ wq.cell? ⟨w.heap.size, 3, none⟩ = some (.string ⟨#[]⟩) := ⟨hR7.cell 0, hR7.cell 1, hR7.cell 2, hR7.cell 3⟩
  have hw15 : IntKind.i64.wrap ((s.size : Int) - 15) = (s.size : Int) - 15 := IntWalk.i64_in _ (by omega)
  have hcases : (byteAt s 0 : Int) < 1 ∨ (1 ≤ (byteAt s 0 : Int) ∧ 4 < (byteAt s 0 : Int)) ∨ (1 ≤ (byteAt s 0 : Int) ∧ (byteAt s 0 : Int) ≤ 4 ∧ (s.size : Int) - 15 < (bodyLen s : Int)) ∨ (1 ≤ (byteAt s 0 : Int) ∧ (byteAt s 0 : Int) ≤ 4 ∧ (bodyLen s : Int) ≤ (s.size : Int) - 15) := by omega
  have HCL := Lib.hid (readF_ok s h1 h2 hb2 hS)
  have HCB := Lib.hid (readF_bad s h1 h2 hb2 hS)
  rcases hcases with hc | ⟨hc1, hc⟩ | ⟨hc1, hc2, hc⟩ | ⟨hc1, hc2, hc⟩
  · have HRF := Lib.hid (HCB.out (Or.inl hc))
    clear HCL HCB
    go_wp2_with fail
    have hR9 := (((hR7.put 0 (.int .i64 0)).put 1 (.int .u32 0)).put 2 (.int .u32 0)).put 3 (.string ⟨#[]⟩)
    have hK9 := (((hK7.set (p := ⟨w.heap.size, 0, none⟩) (Nat.le_refl _) (.int .i64 0)).set (p := ⟨w.heap.size, 1, none⟩) (Nat.le_refl _) (.int .u32 0)).set (p := ⟨w.heap.size, 2, none⟩) (Nat.le_refl _) (.int .u32 0)).set (p := ⟨w.heap.size, 3, none⟩) (Nat.le_refl _) (.string ⟨#[]⟩)
    generalize (((wq.setCell ⟨w.heap.size, 0, none⟩ (.int .i64 0)).setCell ⟨w.heap.size, 1, none⟩ (.int .u32 0)).setCell ⟨w.heap.size, 2, none⟩ (.int .u32 0)).setCell ⟨w.heap.size, 3, none⟩ (.string ⟨#[]⟩) = w9 at *
    have x0 : w9.cell? ⟨w.heap.size, 0, none⟩ = some (.int .i64 0) := hR9.cell 0
    have x1 : w9.cell? ⟨w.heap.size, 1, none⟩ = some (.int .u32 0) := hR9.cell 1
    have x2 : w9.cell? ⟨w.heap.size, 2, none⟩ = some (.int .u32 0) := hR9.cell 2
    have x3 : w9.cell? ⟨w.heap.size, 3, none⟩ = some (.string ⟨#[]⟩) := hR9.cell 3
    refine bodyPost_ret (v := .tuple #[frv 0 0 0 ⟨#[]⟩, .int .i64 2]) (by simp [results, Try.results16, go_sem, x0, x1, x2, x3]) rfl ⟨by rw [HRF.out]; rfl, hK9⟩

  · have HRF := Lib.hid (HCB.out (Or.inr (Or.inl hc)))
    clear HCL HCB
    go_wp2_with fail
    have hR9 := (((hR7.put 0 (.int .i64 0)).put 1 (.int .u32 0)).put 2 (.int .u32 0)).put 3 (.string ⟨#[]⟩)
    have hK9 := (((hK7.set (p := ⟨w.heap.size, 0, none⟩) (Nat.le_refl _) (.int .i64 0)).set (p := ⟨w.heap.size, 1, none⟩) (Nat.le_refl _) (.int .u32 0)).set (p := ⟨w.heap.size, 2, none⟩) (Nat.le_refl _) (.int .u32 0)).set (p := ⟨w.heap.size, 3, none⟩) (Nat.le_refl _) (.string ⟨#[]⟩)
    generalize (((wq.setCell ⟨w.heap.size, 0, none⟩ (.int .i64 0)).setCell ⟨w.heap.size, 1, none⟩ (.int .u32 0)).setCell ⟨w.heap.size, 2, none⟩ (.int .u32 0)).setCell ⟨w.heap.size, 3, none⟩ (.string ⟨#[]⟩) = w9 at *
    have x0 : w9.cell? ⟨w.heap.size, 0, none⟩ = some (.int .i64 0) := hR9.cell 0
    have x1 : w9.cell? ⟨w.heap.size, 1, none⟩ = some (.int .u32 0) := hR9.cell 1
    have x2 : w9.cell? ⟨w.heap.size, 2, none⟩ = some (.int .u32 0) := hR9.cell 2
    have x3 : w9.cell? ⟨w.heap.size, 3, none⟩ = some (.string ⟨#[]⟩) := hR9.cell 3
    refine bodyPost_ret (v := .tuple #[frv 0 0 0 ⟨#[]⟩, .int .i64 2]) (by simp [results, Try.results16, go_sem, x0, x1, x2, x3]) rfl ⟨by rw [HRF.out]; rfl, hK9⟩

  · have HRF := Lib.hid (HCB.out (Or.inr (Or.inr (Or.inl (by omega)))))
    clear HCL HCB
    have hd : decide ((s.size : Int) - 15 < (bodyLen s : Int)) = true := by simpa using hc
    go_wp2_with fail
    have hR9 := (((hR7.put 0 (.int .i64 0)).put 1 (.int .u32 0)).put 2 (.int .u32 0)).put 3 (.string ⟨#[]⟩)
    have hK9 := (((hK7.set (p := ⟨w.heap.size, 0, none⟩) (Nat.le_refl _) (.int .i64 0)).set (p := ⟨w.heap.size, 1, none⟩) (Nat.le_refl _) (.int .u32 0)).set (p := ⟨w.heap.size, 2, none⟩) (Nat.le_refl _) (.int .u32 0)).set (p := ⟨w.heap.size, 3, none⟩) (Nat.le_refl _) (.string ⟨#[]⟩)
    generalize (((wq.setCell ⟨w.heap.size, 0, none⟩ (.int .i64 0)).setCell ⟨w.heap.size, 1, none⟩ (.int .u32 0)).setCell ⟨w.heap.size, 2, none⟩ (.int .u32 0)).setCell ⟨w.heap.size, 3, none⟩ (.string ⟨#[]⟩) = w9 at *
    have x0 : w9.cell? ⟨w.heap.size, 0, none⟩ = some (.int .i64 0) := hR9.cell 0
    have x1 : w9.cell? ⟨w.heap.size, 1, none⟩ = some (.int .u32 0) := hR9.cell 1
    have x2 : w9.cell? ⟨w.heap.size, 2, none⟩ = some (.int .u32 0) := hR9.cell 2
    have x3 : w9.cell? ⟨w.heap.size, 3, none⟩ = some (.string ⟨#[]⟩) := hR9.cell 3
    refine bodyPost_ret (v := .tuple #[frv 0 0 0 ⟨#[]⟩, .int .i64 2]) (by simp [results, Try.results16, go_sem, x0, x1, x2, x3]) rfl ⟨by rw [HRF.out]; rfl, hK9⟩

  · have hd : decide ((s.size : Int) - 15 < (bodyLen s : Int)) = false := by simp; omega
    have hl : bodyLen s + 15 ≤ s.size := by omega
    have HPS := Lib.hid (page_same s h1 h2 hl hS)
    have g1 : IntKind.i64.wrap (11 + (bodyLen s : Int)) = 11 + (bodyLen s : Int) := IntWalk.i64_in _ (by omega)
    have g2 : 0 ≤ 11 + (bodyLen s : Int) := by omega
    have g3 : 11 ≤ 11 + (bodyLen s : Int) := by omega
    have g4 : 11 + (bodyLen s : Int) ≤ (s.size : Int) := by omega
    have g5 : (11 + (bodyLen s : Int)).toNat = 11 + bodyLen s := by omega
    have f3 := hB7.free 3
    have HKA : (0 ≤ fA s ∧ fA s ≤ 4294967295) ∧ (0 ≤ fB s ∧ fB s ≤ 4294967295) := by
      have := get4_lt s 1
      have := get4_lt s 5
      simp only [fA, fB]
      omega
    have hbsz : (fBody s).size = bodyLen s := by rw [ext_size _ _ _ (by omega)]; omega
    have HPG := Lib.hid (fun W => page_any (s.size : Int) (fKind s) (fA s) (fB s) (fBody s) ⟨hc1, hc2⟩ HKA.1 HKA.2 (by omega) (by rw [hbsz]; omega) W)
    clear hbsz HKA
    go_wp2_with fail
    have hB8 := hB7.put 3 (.string (fBody s))
    have hR8 := hR7.far (p := ⟨nb9, 3, none⟩) (by simp; omega) (.string (fBody s))
    have hK8 := hK7.set (p := ⟨nb9, 3, none⟩) (by simp; omega) (.string (fBody s))
    generalize wq.setCell ⟨nb9, 3, none⟩ (.string (fBody s)) = w8 at *
    clear hB7 hR7 hK7 d0 d1 d2 d3 f3 hfr r0 r1 r2 r3
    obtain ⟨d0, d1, d2, d3⟩ : w8.cell? ⟨nb9, 0, none⟩ = some (.int .i64 (byteAt s 0 : Int)) ∧ w8.cell? ⟨nb9, 1, none⟩ = some (.int .u32 (fA s)) ∧ w8.cell? ⟨nb9, 2, none⟩ = some (.int .u32 (fB s)) ∧ w8.cell? ⟨nb9, 3, none⟩ = some (.string (fBody s)) := ⟨hB8.cell 0, hB8.cell 1, hB8.cell 2, hB8.cell 3⟩
    refine (HPG.out _).mono ?_
    rintro e w10 ⟨rfl, hk10⟩
    have hB10 := hB8.keep hk10
    have hR10 := hR8.keep hk10
    have hK10 := hK8.trans hk10
    clear HPG hB8 hR8 hK8 hk10 d0 d1 d2 d3
    have hfr := fun i => hR10.free i
    obtain ⟨r0, r1, r2, r3⟩ : w10.cell? ⟨w.heap.size, 0, none⟩ = some (.int .i64 0) ∧ w10.cell? ⟨w.heap.size, 1, none⟩ = some (.int .u32 0) ∧ w10.cell? ⟨w.heap.size, 2, none⟩ = some (.int .u32 0) ∧ w10.cell? ⟨w.heap.size, 3, none⟩ = some (.string ⟨#[]⟩) := ⟨hR10.cell 0, hR10.cell 1, hR10.cell 2, hR10.cell 3⟩
    have hps := HPS.out
    obtain ⟨z, hz⟩ : ∃ z, pageS (s.size : Int) (fKind s) (fA s) (fB s) (fBody s) = z := ⟨_, rfl⟩
    rw [hz] at hps ⊢
    clear HPS hz
    by_cases hp : Padded s
    · have HRF := Lib.hid (HCL.out ⟨hc1, hc2, hl⟩ hp)
      have hzz : (z.toList == s.toList) = true := by rw [beq_bytes]; simpa using hps.2 hp
      clear HCL HCB hps
      obtain ⟨d0, d1, d2, d3⟩ : w10.cell? ⟨nb9, 0, none⟩ = some (.int .i64 (byteAt s 0 : Int)) ∧ w10.cell? ⟨nb9, 1, none⟩ = some (.int .u32 (fA s)) ∧ w10.cell? ⟨nb9, 2, none⟩ = some (.int .u32 (fB s)) ∧ w10.cell? ⟨nb9, 3, none⟩ = some (.string (fBody s)) := ⟨hB10.cell 0, hB10.cell 1, hB10.cell 2, hB10.cell 3⟩
      go_wp2_with fail
      have hR9 := (((hR10.put 0 (.int .i64 (fKind s))).put 1 (.int .u32 (fA s))).put 2 (.int .u32 (fB s))).put 3 (.string (fBody s))
      have hK9 := (((hK10.set (p := ⟨w.heap.size, 0, none⟩) (Nat.le_refl _) (.int .i64 (fKind s))).set (p := ⟨w.heap.size, 1, none⟩) (Nat.le_refl _) (.int .u32 (fA s))).set (p := ⟨w.heap.size, 2, none⟩) (Nat.le_refl _) (.int .u32 (fB s))).set (p := ⟨w.heap.size, 3, none⟩) (Nat.le_refl _) (.string (fBody s))
      generalize (((w10.setCell ⟨w.heap.size, 0, none⟩ (.int .i64 (fKind s))).setCell ⟨w.heap.size, 1, none⟩ (.int .u32 (fA s))).setCell ⟨w.heap.size, 2, none⟩ (.int .u32 (fB s))).setCell ⟨w.heap.size, 3, none⟩ (.string (fBody s)) = w9 at *
      have x0 : w9.cell? ⟨w.heap.size, 0, none⟩ = some (.int .i64 (byteAt s 0 : Int)) := hR9.cell 0
      have x1 : w9.cell? ⟨w.heap.size, 1, none⟩ = some (.int .u32 (fA s)) := hR9.cell 1
      have x2 : w9.cell? ⟨w.heap.size, 2, none⟩ = some (.int .u32 (fB s)) := hR9.cell 2
      have x3 : w9.cell? ⟨w.heap.size, 3, none⟩ = some (.string (fBody s)) := hR9.cell 3
      refine bodyPost_ret (v := .tuple #[frv (fKind s) (fA s) (fB s) (fBody s), .int .i64 0]) (by simp [results, Try.results16, go_sem, x0, x1, x2, x3]) rfl ⟨by rw [HRF.out], hK9⟩

    · have HRF := Lib.hid (HCB.out (Or.inr (Or.inr (Or.inr hp))))
      have hzz : (z.toList == s.toList) = false := by rw [beq_bytes]; simpa using fun h => hp (hps.1 h)
      clear HCL HCB hps
      go_wp2_with fail
      have hR9 := (((hR10.put 0 (.int .i64 0)).put 1 (.int .u32 0)).put 2 (.int .u32 0)).put 3 (.string ⟨#[]⟩)
      have hK9 := (((hK10.set (p := ⟨w.heap.size, 0, none⟩) (Nat.le_refl _) (.int .i64 0)).set (p := ⟨w.heap.size, 1, none⟩) (Nat.le_refl _) (.int .u32 0)).set (p := ⟨w.heap.size, 2, none⟩) (Nat.le_refl _) (.int .u32 0)).set (p := ⟨w.heap.size, 3, none⟩) (Nat.le_refl _) (.string ⟨#[]⟩)
      generalize (((w10.setCell ⟨w.heap.size, 0, none⟩ (.int .i64 0)).setCell ⟨w.heap.size, 1, none⟩ (.int .u32 0)).setCell ⟨w.heap.size, 2, none⟩ (.int .u32 0)).setCell ⟨w.heap.size, 3, none⟩ (.string ⟨#[]⟩) = w9 at *
      have x0 : w9.cell? ⟨w.heap.size, 0, none⟩ = some (.int .i64 0) := hR9.cell 0
      have x1 : w9.cell? ⟨w.heap.size, 1, none⟩ = some (.int .u32 0) := hR9.cell 1
      have x2 : w9.cell? ⟨w.heap.size, 2, none⟩ = some (.int .u32 0) := hR9.cell 2
      have x3 : w9.cell? ⟨w.heap.size, 3, none⟩ = some (.string ⟨#[]⟩) := hR9.cell 3
      refine bodyPost_ret (v := .tuple #[frv 0 0 0 ⟨#[]⟩, .int .i64 2]) (by simp [results, Try.results16, go_sem, x0, x1, x2, x3]) rfl ⟨by rw [HRF.out]; rfl, hK9⟩

/-- Read, of any text. -/
theorem read_any (s : ByteArray) (hs : s.size ≤ 9223372036854775807) (w : World) :
    Calls Try.prog 16 #[.string s] w fun e w' => e = .returned (.tuple #[(readF s).1.v, .int .i64 (readF s).2]) ∧ Kp w w' := by
  show Calls Try.prog 16 #[.string s] w (ReadPost w (readF s).1 (readF s).2)
  by_cases hl : s.size < 32 ∨ 128 < s.size
  · have : readF s = (noFr, 1) := if_pos hl
    rw [this]
    exact read_len s hs (by omega) w
  · rcases hb : blankB s with _ | _
    · by_cases hS : SumOk s
      · exact read_rest s (by omega) (by omega) hb hS w
      · have : readF s = (noFr, 5) := by unfold readF; rw [if_neg hl, if_neg (by rw [hb]; simp), if_pos hS]
        rw [this]
        exact read_sum s (by omega) (by omega) hb hS w
    · have : readF s = (noFr, 9) := by unfold readF; rw [if_neg hl, if_pos hb]
      rw [this]
      exact read_blank s (by omega) (by omega) hb w
end Go.Proofs.Ytdolclmeflaipaa
