/- Merged texts: LawTape. -/
import Derived.Test.YtdmkfklnnonkhaaGH
import Derived.Test.YtdmkfklnnonkhaaGA
/- The walk of TapeRefuses. -/
namespace Go.Proofs.Ytdmkfklnnonkhaa
open Go.RowKit
set_option linter.unusedVariables false
set_option maxRecDepth 20000

/-- What stands in a law: a geom's box and a tape's parts. -/
theorem pair_cells {X : List (Nat × Obj)} {w W : World} {pb tb g ib ic h q rb : Nat} {p s : Int} {d : Dev} {v : Value} {l : List (Int × Int)} {o : Int} (t : TpS [(pb, pairOb g h tb rb)] w W tb g ib ic h q p s d v l o) :
    W.cell? ⟨pb, 0, none⟩ = some (.pointer (some ⟨g, 0, none⟩)) ∧ W.cell? ⟨pb, 1, none⟩ = some (.pointer (some ⟨h, 0, none⟩)) ∧ W.cell? ⟨pb, 2, none⟩ = some (.pointer (some ⟨tb, 0, none⟩)) := by
  have hb : Bk W pb 40 (pairCells g h tb rb) := (t.watch _ (List.mem_singleton.2 rfl)).1
  exact ⟨hb.cell 0, hb.cell 1, hb.cell 2⟩
theorem rbytes2 {p s r kd a b : Int} {body : ByteArray} (hb : body.size ≤ 9223372036854775807) (ha : 0 ≤ a ∧ a ≤ 4294967295) (hb2 : 0 ≤ b ∧ b ≤ 4294967295) (x : ByteArray) (c : Int) (hf : fbS p s r kd a b body = (x, c)) (w : World) :
    Calls Try.prog 11 #[geo p s r, frv kd a b body] w fun e w' => e = .returned (.tuple #[.string x, .int .i64 c]) ∧ Kp w w' := by
  have := rfbytes_any p s r kd a b body hb ha hb2 w
  rw [hf] at this
  exact this
/-- What one Append on a new tape leaves: the frame's own code; if it is not 0, nothing. -/
def OnePost (X : List (Nat × Obj)) (w0 : World) (tb g ib ic h q : Nat) (p s : Int) (n : Nat) (c : Int) (e : Ending) (w' : World) : Prop :=
  ∃ d2 v2 l2 o2, e = .returned (.tuple #[.int .i64 (if c = 0 then 1 else 0), .int .i64 c]) ∧ TpS X w0 w' tb g ib ic h q p s d2 v2 l2 o2 ∧ (c ≠ 0 → d2.row = [] ∧ l2 = List.replicate n (0, 0))
theorem tapp_one {X : List (Nat × Obj)} {w0 W : World} {tb g ib ic h q : Nat} {p s : Int} {v : Value} {n : Nat} {kd a b : Int} {body : ByteArray} (t : TpS X w0 W tb g ib ic h q p s (newD p s (n : Nat) ⟨#[]⟩) v (List.replicate n (0, 0)) (-1)) (hR : RightG p s n) (hn : n ≤ 12)
    (hb : body.size ≤ 9223372036854775807) (ha : 0 ≤ a ∧ a ≤ 4294967295) (hb2 : 0 ≤ b ∧ b ≤ 4294967295) (x : ByteArray) (c : Int) (hf : fbS p s (n : Nat) kd a b body = (x, c)) :
    Calls Try.prog 12 #[.pointer (some ⟨tb, 0, none⟩), frv kd a b body] W (OnePost X w0 tb g ib ic h q p s n c) := by
  obtain ⟨r1, r2, r3, r4, r5, r6⟩ := id hR
  have hl : (List.replicate n ((0 : Int), (0 : Int))).length = n := List.length_replicate
  by_cases hc : c = 0
  · subst hc
    obtain ⟨m, hm⟩ : ∃ m : Nat, s = (m : Int) + 1 := ⟨(s - 1).toNat, by omega⟩
    have hx : (x.size : Int) = p := by
      have hcase := hf
      unfold fbS at hcase
      split at hcase
      · simp at hcase
      · split at hcase
        · simp at hcase
        · split at hcase
          · simp at hcase
          · rename_i h1 h2 h3
            injection hcase with h4 h5
            rw [← h4]
            exact pageS_size ⟨r1, r2, by omega, by omega, ha.1, ha.2, hb2.1, hb2.2, by omega⟩
    have t2 := t
    rw [← RL_zero n m m, run_new p s (n : Nat) (fun j => if j = 0 then headP p 1 0 else x)] at t2
    have hh := headP_size hR 1 0 (by omega) (by omega)
    have hsn : (1 : Int) < s * n := by
      have : (3 : Int) * 4 ≤ s * n := Int.mul_le_mul r3 r5 (by omega) (by omega)
      omega
    have p1 := run_prog (p := p) (s := s) (n := (n : Nat)) (B := fun j => if j = 0 then headP p 1 0 else x) (k := 0) (fz := none) hR (by omega) hh (fun N h => by cases h)
    have p2 := run_prog (p := p) (s := s) (n := (n : Nat)) (B := fun j => if j = 0 then headP p 1 0 else x) (k := 0 + 1) (fz := none) hR (by omega) hx (fun N h => by cases h)
    have H := trun_opn2 (c := 0) (k := 0) hm (t2 : TpS X w0 W tb g ib ic h q p s _ v (RL n m 0 m) (((0 : Nat) : Int) - 1)) (by omega) (by omega) (by omega) hb ha hb2 hf hx rfl _ 0 p1 p2
    refine H.mono ?_
    rintro e w' ⟨h1, v2, h2⟩
    exact ⟨_, v2, _, _, h1, h2, fun hx => absurd rfl hx⟩
  · have H := tapp_bad t hb ha hb2 x c (by rw [hl]; exact hf) hc
    refine H.mono ?_
    rintro e w' ⟨h1, v2, h2⟩
    exact ⟨_, v2, _, _, by rw [h1, if_neg hc], h2, fun _ => ⟨rfl, rfl⟩⟩
/-- The worlds ahead of Append, and behind it. -/
def RefC (w0 : World) (pb rb tb g ib ic h q : Nat) (p s : Int) (n : Nat) (v : Value) (c : Int) (b : Bool) (W : World) : Prop :=
  if b = true then ∃ d2 v2 l2 o2, TpS [(pb, pairOb g h tb rb)] w0 W tb g ib ic h q p s d2 v2 l2 o2 ∧ (c ≠ 0 → d2.row = [] ∧ l2 = List.replicate n (0, 0))
  else TpS [(pb, pairOb g h tb rb)] w0 W tb g ib ic h q p s (newD p s (n : Nat) ⟨#[]⟩) v (List.replicate n (0, 0)) (-1)
section
variable {w0 W W' : World} {pb rb tb g ib ic h q : Nat} {p s : Int} {n : Nat} {v : Value} {c : Int} {b : Bool}
theorem RefC.keep (t : RefC w0 pb rb tb g ib ic h q p s n v c b W) (k : Kp W W') : RefC w0 pb rb tb g ib ic h q p s n v c b W' := by
  unfold RefC at t ⊢
  split at t
  · rename_i hb
    rw [if_pos hb]
    obtain ⟨d2, v2, l2, o2, t1, t2⟩ := t
    exact ⟨d2, v2, l2, o2, t1.keep k, t2⟩
  · rename_i hb
    rw [if_neg hb]
    exact t.keep k
theorem RefC.facts (t : RefC w0 pb rb tb g ib ic h q p s n v c b W) : Kp w0 W ∧ W.cell? ⟨pb, 0, none⟩ = some (.pointer (some ⟨g, 0, none⟩)) ∧ W.cell? ⟨pb, 1, none⟩ = some (.pointer (some ⟨h, 0, none⟩)) ∧ W.cell? ⟨pb, 2, none⟩ = some (.pointer (some ⟨tb, 0, none⟩)) := by
  unfold RefC at t
  split at t
  · obtain ⟨d2, v2, l2, o2, t1, t2⟩ := t
    exact ⟨t1.fl.kp, pair_cells (X := []) t1⟩
  · exact ⟨t.fl.kp, pair_cells (X := []) t⟩
end
set_option maxHeartbeats 12800000 in
theorem TapeRefuses_walk (w : World) (p s r : Int) (wp : (Lit.int .i64 p).wf = true) (ws : (Lit.int .i64 s).wf = true) (wr : (Lit.int .i64 r).wf = true) (kd a b : Int) (body : ByteArray) (wk : (Lit.int .i64 kd).wf = true) (wa : (Lit.int .u32 a).wf = true) (wb : (Lit.int .u32 b).wf = true) (wbo : body.size ≤ 140737488351232) :
    Calls Try.prog 3 #[geo p s r, frv kd a b body] w fun e w' => e = .returned (.bool true) ∧ Kp w w' := by
  have bp := bounds_i64 wp
  have bs := bounds_i64 ws
  have br := bounds_i64 wr
  have ba := bounds_u32 wa
  have bb := bounds_u32 wb
  clear wp ws wr wk wa wb
  obtain ⟨P, S, n, hP, hS, hn, hR, hn7, hS6, hP64⟩ := small_geom p s r
  have HGE := Lib.hid (fun w => bgeom_any p s r bp bs br w)
  rw [hP, hS, hn] at HGE
  clear hP hS hn
  have HM := Lib.hid (fun W => made_any P S n hR W)
  have HAL := Lib.hid talive
  obtain ⟨x, c, hf⟩ : ∃ x c, fbS P S (n : Nat) kd a b body = (x, c) := ⟨_, _, rfl⟩
  have hbs : body.size ≤ 9223372036854775807 := by omega
  have HRB := Lib.hid (fun W => rbytes2 hbs ba bb x c hf W)
  have HF := Lib.hid hf
  have hfr := frees_rep n n
  have HFR := Lib.hid hfr
  clear hf hfr
  go_enter Try.func3, Try.ntmps3
  go_wp2_with fail
  refine (HGE.out _).mono ?_
  rintro e w1 ⟨rfl, hk1⟩
  have hz1 : (w.alloc (gob p s r)).heap.size = w.heap.size + 1 := by simp
  have hB := ((Bk.new w 23 [.int .i64 p, .int .i64 s, .int .i64 r]).alloc (fob kd a b body)).keep hk1
  have hX := (Bk.new (w.alloc (gob p s r)) 26 [.int .i64 kd, .int .u32 a, .int .u32 b, .string body])
  have hX1 := Bk.keep hX hk1
  rw [hz1] at hX1
  have hK := ((Kp.one w (gob p s r)).alloc (fob kd a b body)).trans hk1
  clear hX hk1 hz1
  obtain ⟨c0, c1, c2⟩ := hB.c3g
  have f0 := hB.free 0
  have f1 := hB.free 1
  have f2 := hB.free 2
  go_wp2_with fail
  obtain ⟨hB2, hK2⟩ := put3 hB hK (Nat.le_refl _) (.int .i64 P) (.int .i64 S) (.int .i64 n)
  have hX2 := far3 (g := w.heap.size) hX1 (by omega) (.int .i64 P) (.int .i64 S) (.int .i64 (n : Int))
  generalize ((w1.setCell ⟨w.heap.size, 0, none⟩ (.int .i64 P)).setCell ⟨w.heap.size, 1, none⟩ (.int .i64 S)).setCell ⟨w.heap.size, 2, none⟩ (.int .i64 (n : Int)) = w2 at *
  clear c0 c1 c2 f0 f1 f2 hB hK hX1
  have HC := Lib.hid (fun W (kk : Kp w2 W) => And.intro ((hB2.keep kk).c3g) ((hX2.keep kk).c4g))
  refine (HM.out _).mono ?_
  rintro e w3 ⟨pb, tb, g, ib, ic, h, q, v, rb, a1, ab, ac, b1, be, bu, rfl, -, t, -⟩
  have HT := Lib.hid t
  have hk3 := t.fl.kp
  clear hB2 hX2 t
  go_wp2_with fail
  refine (HAL.out _).mono ?_
  rintro e w4 ⟨rfl, hk4⟩
  have t4 := HT.out.keep hk4
  obtain ⟨⟨c0, c1, c2⟩, x0, x1, x2, x3⟩ := HC.out _ (hk3.trans hk4)
  go_wp2_with fail
  refine (HRB.out _).mono ?_
  rintro e w5 ⟨rfl, hk5⟩
  have t5 := t4.keep hk5
  have hK5 := (hk3.trans hk4).trans hk5
  clear c0 c1 c2 x0 x1 x2 x3 t4
  have HA := Lib.hid (fun W (tt : TpS [(pb, pairOb g h tb rb)] w2 W tb g ib ic h q P S (newD P S (n : Nat) ⟨#[]⟩) v (List.replicate n (0, 0)) (-1)) => tapp_one (kd := kd) (a := a) (b := b) (body := body) tt hR (by omega) hbs ba bb x c HF.out)
  have H0 : Hid (RefC w2 pb rb tb g ib ic h q P S n v c false w5) := Lib.hid t5
  generalize hpg : (if c = 0 then (1 : Int) else 0) = pg at *
  have HPG := Lib.hid hpg
  clear t5 hpg
  unfold OnePost at HA
  rw [HPG.out] at HA
  go_wp2_with fail
  refine wp_region_rel3A (R1 := Kp) (C := RefC w2 pb rb tb g ib ic h q P S n v c) 5 (by kernel_rfl) (by kernel_rfl) (H0.out.keep (Kp.refl _).drew) (fun _ _ _ h k => h.keep k) Kp.refl (fun _ _ _ h k => h.trans k) ?_
  repeat (refine wpRel3_step (by simp) (fun K hK => ?_); apply rel3_eq; (case ob => (intro f b W hW hd; (obtain ⟨hk9, p0, p1, p2⟩ := hW.facts; obtain ⟨⟨c0, c1, c2⟩, x0, x1, x2, x3⟩ := HC.out _ hk9); (try simp [deps, factOf, Region.binds] at hd); unfold relOp; go_simp; (first | exact ⟨Kp.refl _, rfl⟩ | exact Kp.refl _ | (refine ⟨Kp.refl _, ?_⟩; fail)))); go_simp; refine hK _ _ ?_; clear hK K)
  refine wpRel3_move rfl rfl (.tuple #[.int .i64 pg, .int .i64 c]) ?ob (fun K hK => ?_)
  case ob =>
    intro f W hW hd
    have HW2 := Lib.hid hW
    (try simp [deps, factOf, Region.binds] at hd)
    unfold mvOp
    go_simp
    (refine (HA.out _ HW2.out).mono ?_; rintro e w4 ⟨d2, v2, l2, o2, rfl, t2, hn2⟩; exact ⟨rfl, d2, v2, l2, o2, t2, hn2⟩)
  go_simp
  refine hK _ _ ?_
  clear hK K
  repeat (refine wpRel3_step (by simp) (fun K hK => ?_); apply rel3_eq; (case ob => (intro f b W hW hd; (skip); (try simp [deps, factOf, Region.binds] at hd); unfold relOp; go_simp; (first | exact ⟨Kp.refl _, rfl⟩ | exact Kp.refl _ | (refine ⟨Kp.refl _, ?_⟩; fail)))); go_simp; refine hK _ _ ?_; clear hK K)
  refine wpRel3_nil ?_
  intro f w6 hW hall
  have h9 : f 9 = .int .i64 pg := allF_get hall 9 _ rfl
  have h10 : f 10 = .int .i64 c := allF_get hall 10 _ rfl
  clear hall
  dsimp only
  rw [h9, h10]
  obtain ⟨d2, v2, l2, o2, t6, hnil⟩ := hW
  clear h9 h10 H0 HA
  have hk6 := t6.fl.kp
  have hbe : (c != c) = false := by simp
  have HP6 := Lib.hid (fun W (kk : Kp w6 W) => And.intro (pair_cells (X := []) (t6.keep kk)) (HC.out _ (hk6.trans kk)).1)
  have HFR6 := Lib.hid (fun W (kk : Kp w6 W) => cfree_any W h q P S l2 o2 (t6.keep kk).ch (by have := t6.cok.len; omega) t6.cok.ep0)
  have HPN := Lib.hid (fun W (kk : Kp w6 W) => fpending (t6.keep kk).fl.at_)
  have hkw := hK2.trans hk6
  clear t6
  by_cases hc : c = 0
  · subst hc
    clear hnil HF
    go_wp2_with fail
    have hInh := fun (x v : Value) => (⟨fun h => h _ ((Kp.refl _).drew), fun h _ _ => h⟩ : (∀ Wz9, (fun W => Kp w6 W) Wz9 → x = v) ↔ x = v)
    dsimp only at hInh
    refine wp_region_quietC (C := fun W => Kp w6 W) (by kernel_rfl) (by kernel_rfl) ((Kp.refl _).drew) ?_
    repeat (first | go_big_quiet_step ((intro hW; first | fail | (with_reducible rfl) | (obtain ⟨⟨p0, p1, p2⟩, c0, c1, c2⟩ := HP6.out _ hW; (try go_simp); first | done | with_reducible rfl | exact ⟨rfl, rfl⟩))) | quiet_step ((intro hW; first | fail | (with_reducible rfl) | (obtain ⟨⟨p0, p1, p2⟩, c0, c1, c2⟩ := HP6.out _ hW; (try go_simp); first | done | with_reducible rfl | exact ⟨rfl, rfl⟩))))
    refine wpQuiet_nil ?_
    intro wq hwq
    clear hInh
    go_wp2_with fail
    go_ret
    exact ⟨rfl, hkw.trans hwq⟩
  · obtain ⟨hr, hl⟩ := hnil hc
    have hz : d2.row.length = 0 := by rw [hr]; rfl
    rw [hz] at HPN
    have hf2 : frees l2 l2.length = n := by rw [hl, List.length_replicate, HFR.out]
    rw [hf2] at HFR6
    have hcb : (c == 0) = false := by simp [hc]
    clear hr hl hz hf2 hnil HF hc HFR
    go_wp2_with fail
    have hInh := fun (x v : Value) => (⟨fun h => h _ ((Kp.refl _).drew), fun h _ _ => h⟩ : (∀ Wz9, (fun W => Kp w6 W) Wz9 → x = v) ↔ x = v)
    dsimp only at hInh
    refine wp_region_quietC (C := fun W => Kp w6 W) (by kernel_rfl) (by kernel_rfl) ((Kp.refl _).drew) ?_
    repeat (first | go_big_quiet_step ((intro hW; first | (first | (go_at_call 13; refine (HPN.out _ hW).mono ?_; rintro e w' ⟨rfl, hk9⟩; exact ⟨rfl, hW.trans hk9⟩) | (go_at_call 14; refine (HFR6.out _ hW).mono ?_; rintro e w' ⟨rfl, hk9⟩; exact ⟨rfl, hW.trans hk9⟩)) | (with_reducible rfl) | (obtain ⟨⟨p0, p1, p2⟩, c0, c1, c2⟩ := HP6.out _ hW; (try go_simp); first | done | with_reducible rfl | exact ⟨rfl, rfl⟩))) | quiet_step ((intro hW; first | (first | (go_at_call 13; refine (HPN.out _ hW).mono ?_; rintro e w' ⟨rfl, hk9⟩; exact ⟨rfl, hW.trans hk9⟩) | (go_at_call 14; refine (HFR6.out _ hW).mono ?_; rintro e w' ⟨rfl, hk9⟩; exact ⟨rfl, hW.trans hk9⟩)) | (with_reducible rfl) | (obtain ⟨⟨p0, p1, p2⟩, c0, c1, c2⟩ := HP6.out _ hW; (try go_simp); first | done | with_reducible rfl | exact ⟨rfl, rfl⟩))))
    refine wpQuiet_nil ?_
    intro wq hwq
    clear hInh
    go_wp2_with fail
    go_ret
    exact ⟨rfl, hkw.trans hwq⟩
end Go.Proofs.Ytdmkfklnnonkhaa
