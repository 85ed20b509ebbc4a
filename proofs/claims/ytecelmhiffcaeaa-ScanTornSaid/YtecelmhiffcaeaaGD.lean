/- Merged texts: RFl, RFl2, RFl3, RFl4, RFl5, RFl6. -/
import Derived.Test.YtecelmhiffcaeaaGC
import Derived.Test.YtecelmhiffcaeaaGA
set_option linter.unusedSimpArgs false
set_option linter.unusedVariables false
/- The reference's device in memory: what it is, how it is kept. -/
namespace Go.Proofs.Ytecelmhiffcaeaa
open Go.RowKit
set_option linter.unusedVariables false
set_option maxRecDepth 20000

/-- The reference's device: its struct is block g, its bytes are block ib. -/
structure RfX (W : World) (g ib ic : Nat) (p s r : Int) (d : Dev) (v : Value) : Prop where
  box : Bk W g 101 [.int .i64 p, .int .i64 s, .int .i64 r, .slice (some ⟨ib, 0, none⟩) d.img.length ic, v, .bool d.set, .int .i64 d.left, .bool d.down]
  img : By W ib (ints d.img)
  own : W.ownsRow 0 156 2 v d.row.length (rcells d.row)
  ne : g ≠ ib
  capok : d.img.length ≤ ic
  vne : ∀ k, v.ownBlock = some k → k ≠ g ∧ k ≠ ib
section
variable {W W' : World} {g ib ic : Nat} {p s r : Int} {d : Dev} {v : Value}
theorem RfX.keep (h : RfX W g ib ic p s r d v) (k : Kp W W') : RfX W' g ib ic p s r d v :=
  ⟨h.box.keep k, h.img.keep k, own_keep h.own k, h.ne, h.capok, h.vne⟩
theorem RfX.mv {S : List Nat} (h : RfX W g ib ic p s r d v) (k : Mv S W W') (hd : ∀ x ∈ foot g ib v, x ∉ S) : RfX W' g ib ic p s r d v := by
  have hb := h.box
  refine ⟨hb.mv k (hd g (by simp [foot])), h.img.mv k (hd ib (by simp [foot])), ?_, h.ne, h.capok, h.vne⟩
  rcases h.own with ⟨hl, ⟨e1, e2⟩ | ⟨q, cap, cur, e1, e2, e3, e4⟩⟩
  · exact ⟨hl, Or.inl ⟨e1, e2⟩⟩
  · refine ⟨hl, Or.inr ⟨q, cap, cur, e1, e2, ?_, e4⟩⟩
    have hq : q < W.heap.size := (Array.getElem?_eq_some_iff.1 e3).1
    rw [k.block q hq (hd q (by simp [foot, e1, Value.ownBlock]))]
    exact e3
theorem RfX.foot_lt (h : RfX W g ib ic p s r d v) : ∀ x ∈ foot g ib v, x < W.heap.size := by
  intro x hx
  have hb := h.box
  simp only [foot, List.mem_cons, Option.mem_toList] at hx
  rcases hx with rfl | rfl | hx
  · exact hb.lt
  · exact h.img.lt
  · rcases h.own with ⟨hl, ⟨e1, e2⟩ | ⟨q, cap, cur, e1, e2, e3, e4⟩⟩
    · rw [e1] at hx; simp [Value.ownBlock] at hx
    · rw [e1] at hx
      simp [Value.ownBlock] at hx
      subst hx
      exact (Array.getElem?_eq_some_iff.1 e3).1
theorem RfX.c8 (h : RfX W g ib ic p s r d v) : W.cell? ⟨g, 0, none⟩ = some (.int .i64 p) ∧ W.cell? ⟨g, 1, none⟩ = some (.int .i64 s) ∧ W.cell? ⟨g, 2, none⟩ = some (.int .i64 r) ∧ W.cell? ⟨g, 3, none⟩ = some (.slice (some ⟨ib, 0, none⟩) d.img.length ic) ∧ W.cell? ⟨g, 4, none⟩ = some v ∧ W.cell? ⟨g, 5, none⟩ = some (.bool d.set) ∧ W.cell? ⟨g, 6, none⟩ = some (.int .i64 d.left) ∧ W.cell? ⟨g, 7, none⟩ = some (.bool d.down) := by
  have hb := h.box
  exact ⟨hb.cell 0, hb.cell 1, hb.cell 2, hb.cell 3, hb.cell 4, hb.cell 5, hb.cell 6, hb.cell 7⟩
theorem RfX.fr (h : RfX W g ib ic p s r d v) (i : Nat) : W.frozen? ⟨g, i, none⟩ = false := by
  have hb := h.box
  exact hb.free i
/-- The row's cells. -/
theorem RfX.rows (h : RfX W g ib ic p s r d v) : ∃ A c, v = .slice A d.row.length c ∧ ∀ i (hi : i < d.row.length), ∃ q, A = some ⟨q, 0, none⟩ ∧ W.cell? ⟨q, i * 2, none⟩ = some (.int .i64 d.row[i].1) ∧ W.cell? ⟨q, i * 2 + 1, none⟩ = some (.string d.row[i].2) := by
  obtain ⟨A, c, e, hsrc⟩ := own_src h.own
  refine ⟨A, c, e, fun i hi => ?_⟩
  obtain ⟨q, c', e', _, _⟩ := own_at h.own (by omega)
  have hA : A = some ⟨q, 0, none⟩ := by rw [e] at e'; injection e'
  refine ⟨q, hA, ?_⟩
  have hl := rcells_len d.row
  obtain ⟨g1, g2⟩ := rcells_get d.row i hi
  have hown := h.own
  rw [e'] at hown
  have k1 := hown.cellAt (i * 2) (by omega)
  have k2 := hown.cellAt (i * 2 + 1) (by omega)
  rw [g1] at k1
  rw [g2] at k2
  exact ⟨k1, k2⟩
theorem RfX.setImg1 (h : RfX W g ib ic p s r d v) (o : Nat) (x : Nat) (ho : o < d.img.length) : RfX (W.setCell ⟨ib, o, none⟩ (.int .u8 (x : Int))) g ib ic p s r { d with img := d.img.set o x } v := by
  refine ⟨?_, ?_, own_set h.own (p := ⟨ib, o, none⟩) (fun k hk => (h.vne k hk).2) _, h.ne, by show (d.img.set o x).length ≤ ic; rw [List.length_set]; exact h.capok, h.vne⟩
  · show Bk _ _ _ [_, _, _, .slice (some ⟨ib, 0, none⟩) (d.img.set o x).length ic, _, _, _, _]
    rw [List.length_set]
    exact h.box.far (p := ⟨ib, o, none⟩) h.ne _
  · have := h.img.put o (by rw [List.length_map]; exact ho) (x : Int)
    have e1 : (ints d.img).set o (x : Int) = ints (d.img.set o x) := by simp [ints, List.map_set]
    rw [e1] at this
    exact this
theorem RfX.byte (h : RfX W g ib ic p s r d v) (o : Nat) (ho : o < d.img.length) : W.cell? ⟨ib, o, none⟩ = some (.int .u8 (d.img.getD o 0 : Nat)) ∧ W.frozen? ⟨ib, o, none⟩ = false := by
  refine ⟨?_, h.img.free o (by rw [List.length_map]; exact ho)⟩
  rw [h.img.cell o (by rw [List.length_map]; exact ho), List.getElem_map, List.getD_eq_getElem?_getD, List.getElem?_eq_getElem ho]
  rfl
theorem RfX.setDown (h : RfX W g ib ic p s r d v) : RfX (W.setCell ⟨g, 7, none⟩ (.bool true)) g ib ic p s r { d with down := true } v :=
  ⟨h.box.put 7 (.bool true), h.img.far (p := ⟨g, 7, none⟩) (Ne.symm h.ne) _, own_set h.own (p := ⟨g, 7, none⟩) (fun k hk => (h.vne k hk).1) (.bool true), h.ne, h.capok, h.vne⟩
theorem RfX.setLeft (h : RfX W g ib ic p s r d v) (n : Int) : RfX (W.setCell ⟨g, 6, none⟩ (.int .i64 n)) g ib ic p s r { d with left := n } v :=
  ⟨h.box.put 6 (.int .i64 n), h.img.far (p := ⟨g, 6, none⟩) (Ne.symm h.ne) _, own_set h.own (p := ⟨g, 6, none⟩) (fun k hk => (h.vne k hk).1) _, h.ne, h.capok, h.vne⟩
theorem RfX.setFuse (h : RfX W g ib ic p s r d v) (B : Bool) (n : Int) : RfX ((W.setCell ⟨g, 5, none⟩ (.bool B)).setCell ⟨g, 6, none⟩ (.int .i64 n)) g ib ic p s r { d with set := B, left := n } v :=
  ⟨(h.box.put 5 (.bool B)).put 6 (.int .i64 n), (h.img.far (p := ⟨g, 5, none⟩) (Ne.symm h.ne) _).far (p := ⟨g, 6, none⟩) (Ne.symm h.ne) _, own_set (own_set h.own (p := ⟨g, 5, none⟩) (fun k hk => (h.vne k hk).1) _) (p := ⟨g, 6, none⟩) (fun k hk => (h.vne k hk).1) _, h.ne, h.capok, h.vne⟩
/-- Nothing is pending any more. -/
theorem RfX.setNil (h : RfX W g ib ic p s r d v) : RfX (W.setCell ⟨g, 4, none⟩ (.slice none 0 0)) g ib ic p s r { d with row := [] } (.slice none 0 0) := by
  refine ⟨h.box.put 4 _, h.img.far (p := ⟨g, 4, none⟩) (Ne.symm h.ne) _, World.ownsRow_nil _ _ _ _, h.ne, h.capok, ?_⟩
  intro k hk
  simp [Value.ownBlock] at hk
theorem RfX.setUp (h : RfX W g ib ic p s r d v) : RfX (((W.setCell ⟨g, 4, none⟩ (.slice none 0 0)).setCell ⟨g, 7, none⟩ (.bool false)).setCell ⟨g, 5, none⟩ (.bool false)) g ib ic p s r { d with row := [], down := false, set := false } (.slice none 0 0) := by
  have h1 := h.setNil
  refine ⟨(h1.box.put 7 (.bool false)).put 5 (.bool false), (h1.img.far (p := ⟨g, 7, none⟩) (Ne.symm h.ne) _).far (p := ⟨g, 5, none⟩) (Ne.symm h.ne) _, World.ownsRow_nil _ _ _ _, h.ne, h.capok, ?_⟩
  intro k hk
  simp [Value.ownBlock] at hk
theorem FlMv.setUp2 {W' : World} (k : FlMv W W' g ib v v) : FlMv W (((W'.setCell ⟨g, 4, none⟩ (.slice none 0 0)).setCell ⟨g, 7, none⟩ (.bool false)).setCell ⟨g, 5, none⟩ (.bool false)) g ib v (.slice none 0 0) := by
  refine ⟨((k.1.set (by simp [foot]) _).set (by simp [foot]) _).set (by simp [foot]) _, ?_⟩
  intro x hx
  simp [Value.ownBlock] at hx
/-- One more is pending. -/
theorem RfX.push {w1 w' : World} {v' : Value} (h : RfX W g ib ic p s r d v) (hk : Kp W w1) (x : Int × ByteArray) (hown : w'.ownsRow 0 156 2 v' (d.row.length + 1) (rcells d.row ++ [.int .i64 x.1, .string x.2])) (hg : w1.grownBy w' v.ownBlock) (hat : v'.ownBlock = v.ownBlock ∨ v'.ownBlock = some w1.heap.size) :
    (∀ i, w'.frozen? ⟨g, i, none⟩ = false) ∧ w'.cell? ⟨g, 4, none⟩ = some v ∧ RfX (w'.setCell ⟨g, 4, none⟩ v') g ib ic p s r { d with row := d.row ++ [x] } v' ∧ FlMv W (w'.setCell ⟨g, 4, none⟩ v') g ib v v' := by
  have h1 := h.keep hk
  have lt1 := h1.foot_lt
  have gg : ∀ k, v'.ownBlock = some k → k ≠ g ∧ k ≠ ib := by
    intro k hk'
    rcases hat with e | e
    · exact h.vne k (e ▸ hk')
    · rw [e] at hk'
      injection hk' with hk'
      have a1 := lt1 g (by simp [foot])
      have a2 := lt1 ib (by simp [foot])
      exact ⟨by omega, by omega⟩
  have ng : some g ≠ v.ownBlock := fun e => (h.vne g e.symm).1 rfl
  have ni : some ib ≠ v.ownBlock := fun e => (h.vne ib e.symm).2 rfl
  have hb' : Bk w' g 101 [.int .i64 p, .int .i64 s, .int .i64 r, .slice (some ⟨ib, 0, none⟩) d.img.length ic, v, .bool d.set, .int .i64 d.left, .bool d.down] := (hg.block g h1.box.lt ng).trans h1.box
  have hi' : By w' ib (ints d.img) := h1.img.same (hg.block ib h1.img.lt ni)
  refine ⟨fun i => hb'.free i, hb'.cell 4, ⟨hb'.put 4 v', hi'.far (p := ⟨g, 4, none⟩) (Ne.symm h.ne) _, ?_, h.ne, h.capok, gg⟩, ?_, ?_⟩
  · have := own_set hown (p := ⟨g, 4, none⟩) (fun k hk' => (gg k hk').1) v'
    show World.ownsRow _ 0 _ 2 v' (d.row ++ [x]).length (rcells (d.row ++ [x]))
    rw [List.length_append, rcells_app]
    exact this
  · refine Mv.set (Mv.grown (Mv.of hk) hg (fun k hk' => by simp [foot, hk'])) (by simp [foot]) _
  · intro k hk'
    rcases hat with e | e
    · exact Or.inl (e ▸ hk')
    · rw [e] at hk'
      injection hk' with hk'
      have := hk.size
      exact Or.inr (by omega)
theorem ximg_conv {c : Nat} (h : RfX W g ib ic p s r d v) (ok : DevOk p s r d) (page : Int) (h0 : 0 ≤ page) (h1 : page < s * r) :
    (convert 38 9 (.slice (some ⟨ib, (page * p).toNat, none⟩) (((page + 1) * p).toNat - (page * p).toNat) c)).run Try.prog W = .ok (.string (strN (pgN d.img p.toNat page.toNat))) W := by
  obtain ⟨b1, b2, b3, b4, b5⟩ := page_bd ok.right h0 h1
  have hlen := ok.len
  have hp := ok.right.1
  have e1 : (page * p).toNat = page.toNat * p.toNat := by rw [Int.toNat_mul h0 (by omega)]
  have e2 : ((page + 1) * p).toNat - (page * p).toNat = p.toNat := by omega
  have := h.img.convAt (o := (page * p).toNat) (n := p.toNat) (c := c) (by rw [List.length_map]; omega)
  rw [e2, this]
  congr 2
  unfold strN
  congr 1
  have := pgN_ints d.img p.toNat page.toNat
  rw [← e1] at this
  exact this
end
end Go.Proofs.Ytecelmhiffcaeaa
/- The contracts of the reference's device: what reads, blows, Fuse. -/
namespace Go.Proofs.Ytecelmhiffcaeaa
open Go.RowKit
set_option linter.unusedVariables false
set_option maxRecDepth 20000

def rcountD (d : Dev) : Dev × Bool :=
  if d.set = false then (d, false) else if d.left = 0 then ({ d with down := true }, true) else ({ d with left := d.left - 1 }, false)
theorem rcountD_same (d : Dev) : (rcountD d).1.img = d.img ∧ (rcountD d).1.row = d.row := by
  unfold rcountD
  split
  · exact ⟨rfl, rfl⟩
  · split <;> exact ⟨rfl, rfl⟩
section
variable {W : World} {g ib ic : Nat} {p s r : Int} {d : Dev} {v : Value}
set_option maxHeartbeats 400000 in
theorem rimage (h : RfX W g ib ic p s r d v) : Calls Try.prog 33 #[.pointer (some ⟨g, 0, none⟩)] W fun e w' => e = .returned (.string (strN d.img)) ∧ Kp W w' := by
  obtain ⟨c0, c1, c2, c3, c4, c5, c6, c7⟩ := h.c8
  have hcv := h.img.conv (n := d.img.length) (c := ic) (by simp)
  go_enter Try.func33, Try.ntmps33
  go_wp2_with fail
  go_ret
  exact ⟨rfl, Kp.refl _⟩
set_option maxHeartbeats 800000 in
theorem rpages (h : RfX W g ib ic p s r d v) (hR : RightG p s r) : Calls Try.prog 94 #[.pointer (some ⟨g, 0, none⟩)] W fun e w' => e = .returned (.int .i64 (s * r)) ∧ Kp W w' := by
  have HC := Lib.hid (fun W' (k : Kp W W') => (h.keep k).c8)
  have hm := mul_sr hR
  have hw : IntKind.i64.wrap (s * r) = s * r := IntWalk.i64_in _ (by omega)
  clear hm
  go_enter Try.func94, Try.ntmps94
  go_wp2_with fail
  have hInh := fun (x v : Value) => (⟨fun h => h _ ((Kp.refl W).drew), fun h _ _ => h⟩ : (∀ Wz9, (fun W' => Kp W W') Wz9 → x = v) ↔ x = v)
  dsimp only at hInh
  refine wp_region_quietC (C := fun W' => Kp W W') (by kernel_rfl) (by kernel_rfl) ((Kp.refl W).drew) ?_
  repeat (first | go_big_quiet_step ((intro hW; first | fail | (with_reducible rfl) | (obtain ⟨c0, c1, c2, c3, c4, c5, c6, c7⟩ := HC.out _ hW; (try go_simp); first | done | with_reducible rfl | exact ⟨rfl, rfl⟩))) | quiet_step ((intro hW; first | fail | (with_reducible rfl) | (obtain ⟨c0, c1, c2, c3, c4, c5, c6, c7⟩ := HC.out _ hW; (try go_simp); first | done | with_reducible rfl | exact ⟨rfl, rfl⟩))))
  refine wpQuiet_nil ?_
  intro wq hwq
  clear hInh
  go_wp2_with fail
  go_ret
  exact ⟨rfl, hwq⟩
def rfuseD (d : Dev) (n : Int) : Dev := { d with set := decide (0 ≤ n), left := max n 0 }
def RCountPost (W : World) (g ib ic : Nat) (p s r : Int) (d : Dev) (v : Value) (e : Ending) (w' : World) : Prop :=
  e = .returned (.bool (rcountD d).2) ∧ RfX w' g ib ic p s r (rcountD d).1 v ∧ FlMv W w' g ib v v
set_option maxRecDepth 20000 in
set_option maxHeartbeats 1600000 in
theorem rheld (h : RfX W g ib ic p s r d v) (ok : DevOk p s r d) (page : Int) (h0 : 0 ≤ page) (h1 : page < s * r) :
    Calls Try.prog 95 #[.pointer (some ⟨g, 0, none⟩), .int .i64 page] W fun e w' => e = .returned (.string (heldD d p page)) ∧ Kp W w' := by
  have hrl := ok.rl
  have hlen := ok.len
  obtain ⟨b1, b2, b3, b4, b5⟩ := page_bd ok.right h0 h1
  obtain ⟨r1, r2, r3, r4, r5, r6⟩ := id ok.right
  have hcap := h.capok
  have HC := Lib.hid (fun W' (k : Kp W W') => (h.keep k).c8)
  have q1 : IntKind.i64.wrap (page * p) = page * p := IntWalk.i64_in _ (by omega)
  have q2 : IntKind.i64.wrap (page + 1) = page + 1 := IntWalk.i64_in _ (by omega)
  have q3 : IntKind.i64.wrap ((page + 1) * p) = (page + 1) * p := IntWalk.i64_in _ (by omega)
  have z1 : page * p ≤ (page + 1) * p := by omega
  have z2 : 0 ≤ (page + 1) * p := by omega
  have z3 : (page + 1) * p ≤ (d.img.length : Int) := by omega
  have z4 : (page + 1) * p ≤ (ic : Int) := by omega
  have z5 : page * p ≤ (ic : Int) := by omega
  have z6 : max ((page + 1) * p) 0 = (page + 1) * p := by omega
  have z7 : ¬ (ic = (page * p).toNat) := by omega
  have HI := Lib.hid (fun W' (k : Kp W W') => ximg_conv (c := ic - (page * p).toNat) (h.keep k) ok page h0 h1)
  have HRO := Lib.hid (fun W' (k : Kp W W') => (h.keep k).rows)
  clear b3
  go_enter Try.func95, Try.ntmps95
  go_wp2_with fail
  refine wp_region_rel (R := Kp) (C := fun W' => Kp W W') (by kernel_rfl) (by kernel_rfl) (Kp.refl W).drew (fun _ _ h k => h.trans k) Kp.refl (fun _ _ _ h k => h.trans k) ?_
  repeat (refine wpRel_step (fun K hK => ?_); apply rel_eq; (case ob => (intro f W hW hd; (obtain ⟨c0, c1, c2, c3, c4, c5, c6, c7⟩ := HC.out _ hW); (try simp [deps, factOf, Region.binds] at hd); unfold relOp; go_simp; (first | exact ⟨Kp.refl _, rfl⟩ | exact Kp.refl _ | (refine ⟨Kp.refl _, ?_⟩; fail)))); go_simp; refine hK _ _ ?_; clear hK K)
  refine wpRel_step (fun K hK => ?_)
  apply rel_fact (fun v _ => v = .string (strN (pgN d.img p.toNat page.toNat))) (fun _ _ _ _ h => h)
  case ob =>
    intro f W hW hd
    have hcv := HI.out _ hW
    (try simp [deps, factOf, Region.binds] at hd)
    unfold relOp
    go_simp
    first | exact ⟨Kp.refl _, rfl⟩ | exact Kp.refl _
  go_simp
  refine hK _ _ ?_
  clear hK K
  repeat (refine wpRel_step (fun K hK => ?_); apply rel_eq; (case ob => (intro f W hW hd; (obtain ⟨c0, c1, c2, c3, c4, c5, c6, c7⟩ := HC.out _ hW); (try simp [deps, factOf, Region.binds] at hd); unfold relOp; go_simp; (first | exact ⟨Kp.refl _, rfl⟩ | exact Kp.refl _ | (refine ⟨Kp.refl _, ?_⟩; fail)))); go_simp; refine hK _ _ ?_; clear hK K)
  refine wpRel_nil ?_
  intro f W' hW hall
  have h21 : f 21 = .string (strN (pgN d.img p.toNat page.toNat)) := allF_get hall 21 _ rfl
  clear hall
  dsimp only
  rw [h21]
  obtain ⟨c0, c1, c2, c3, c4, c5, c6, c7⟩ := HC.out _ hW
  obtain ⟨A, cc, hv, hrow⟩ := HRO.out _ hW
  rw [hv] at c4
  have HR := Lib.hid hrow
  have HHD : Hid (heldD d p page = (pend d.row page).getD (strN (pgN d.img p.toNat page.toNat))) := Lib.hid rfl
  generalize strN (pgN d.img p.toNat page.toNat) = base at *
  clear hrow hv HI HC HRO h21
  go_wp2_with fail
  go_loop [5, 6] (fun b i => ∃ k : Nat, k ≤ d.row.length ∧ i = .int .i64 k ∧ b = .string ((pend (d.row.take k) page).getD base)) (fun _ i => d.row.length - (intOf i).toNat)
  case atStart => exact ⟨0, Nat.zero_le _, rfl, by rw [List.take_zero]; rfl⟩
  case round =>
    obtain ⟨k, hk, rfl, rfl⟩ := hrel
    by_cases hkl : k < d.row.length
    · have hkl2 : (k : Int) < (d.row.length : Int) := by omega
      obtain ⟨q, rfl, e1, e2⟩ := HR.out k hkl
      have hps := pend_take d.row page k hkl
      by_cases hpg : d.row[k].1 = page
      · rw [if_pos hpg] at hps
        have HP := Lib.hid hps
        have hb : (d.row[k].1 == page) = true := by simp [hpg]
        clear hps hpg
        generalize hx : d.row[k].2 = x at *
        go_wp2_with fail
        go_round
        case rel => exact ⟨k + 1, by omega, by go_num, by rw [HP.out]; rfl⟩
        case measure => simp [intOf]; omega
      · rw [if_neg hpg] at hps
        have HP := Lib.hid hps
        have hb : (d.row[k].1 == page) = false := by simp [hpg]
        clear hps hpg
        go_wp2_with fail
        go_round
        case rel => exact ⟨k + 1, by omega, by go_num, by rw [HP.out]⟩
        case measure => simp [intOf]; omega
    · obtain rfl : k = d.row.length := by omega
      rw [List.take_length, ← HHD.out]
      go_wp2_with fail
      go_ret
      exact ⟨rfl, hW⟩
set_option maxHeartbeats 1600000 in
theorem rread (h : RfX W g ib ic p s r d v) (ok : DevOk p s r d) (page : Int) :
    Calls Try.prog 76 #[.pointer (some ⟨g, 0, none⟩), .int .i64 page] W fun e w' => e = .returned (.tuple #[.string (readD p s r d page).1, .int .i64 (readD p s r d page).2]) ∧ Kp W w' := by
  have HPP := Lib.hid (fun W' (k : Kp W W') => rpages (h.keep k) ok.right)
  obtain ⟨c0, c1, c2, c3, c4, c5, c6, c7⟩ := h.c8
  rcases hd : d.down with _ | _
  · rw [hd] at c7
    have hcases : page < 0 ∨ (0 ≤ page ∧ s * r ≤ page) ∨ (0 ≤ page ∧ page < s * r) := by omega
    rcases hcases with hc | ⟨hc1, hc⟩ | ⟨hc1, hc⟩
    · have e1 : readD p s r d page = (⟨#[]⟩, 1) := by unfold readD; rw [if_neg (by rw [hd]; simp), if_pos (Or.inl hc)]
      rw [e1]
      clear e1 hd
      go_enter Try.func76, Try.ntmps76
      go_wp2_with fail
      go_ret2
      exact ⟨rfl, Kp.refl _⟩
    · have e1 : readD p s r d page = (⟨#[]⟩, 1) := by unfold readD; rw [if_neg (by rw [hd]; simp), if_pos (Or.inr hc)]
      rw [e1]
      clear e1 hd
      have hdec : decide (s * r ≤ page) = true := by simpa using hc
      go_enter Try.func76, Try.ntmps76
      go_wp2_with fail
      refine (HPP.out _ (Kp.refl _)).mono ?_
      rintro e w2 ⟨rfl, hk2⟩
      go_wp2_with fail
      go_ret2
      exact ⟨rfl, hk2⟩
    · have e1 : readD p s r d page = (heldD d p page, 0) := by unfold readD; rw [if_neg (by rw [hd]; simp), if_neg (by omega)]
      have HHE := Lib.hid (fun W' (k : Kp W W') => rheld (h.keep k) ok page hc1 hc)
      rw [e1]
      have hdec : decide (s * r ≤ page) = false := by simp; omega
      clear e1 hd
      generalize heldD d p page = x at *
      go_enter Try.func76, Try.ntmps76
      go_wp2_with fail
      refine (HPP.out _ (Kp.refl _)).mono ?_
      rintro e w2 ⟨rfl, hk2⟩
      go_wp2_with fail
      refine (HHE.out _ hk2).mono ?_
      rintro e w3 ⟨rfl, hk3⟩
      go_wp2_with fail
      go_ret2
      exact ⟨rfl, hk2.trans hk3⟩
  · rw [hd] at c7
    have e1 : readD p s r d page = (⟨#[]⟩, 6) := by unfold readD; rw [if_pos hd]
    rw [e1]
    clear e1 hd
    go_enter Try.func76, Try.ntmps76
    go_wp2_with fail
    go_ret2
    exact ⟨rfl, Kp.refl _⟩
end
end Go.Proofs.Ytecelmhiffcaeaa
/- The contracts of the reference's device: done, Flush. -/
namespace Go.Proofs.Ytecelmhiffcaeaa
open Go.RowKit
set_option linter.unusedVariables false
set_option maxRecDepth 20000

theorem splice_snoc (img : List Nat) (o : Nat) (bs : List Nat) (x : Nat) (h : o + bs.length < img.length) : spliceN img o (bs ++ [x]) = (spliceN img o bs).set (o + bs.length) x := by
  unfold spliceN
  rw [List.set_append_right _ _ (by simp only [List.length_append, List.length_take]; omega)]
  have e1 : o + bs.length - (img.take o ++ bs).length = 0 := by simp only [List.length_append, List.length_take]; omega
  rw [e1, List.drop_eq_getElem_cons h]
  simp [List.append_assoc, Nat.add_assoc]
theorem doD_step (p : Int) (img : List Nat) (page : Int) (b : ByteArray) (k : Nat) (hk : k < b.size) (h : (page * p).toNat + k < img.length) :
    doD p img page (b.extract 0 (k + 1)) = (doD p img page (b.extract 0 k)).set ((page * p).toNat + k) b[k].toNat := by
  unfold doD
  rw [nb_ext0, nb_ext0, nb_take b k hk]
  have hl : ((nb b).take k).length = k := by rw [List.length_take, nb_len]; omega
  have := splice_snoc img (page * p).toNat ((nb b).take k) b[k].toNat (by rw [hl]; exact h)
  rw [hl] at this
  exact this
theorem doD_zero (p : Int) (img : List Nat) (page : Int) (b : ByteArray) : doD p img page (b.extract 0 0) = img := by
  unfold doD
  rw [nb_ext0, List.take_zero]
  simp [spliceN]
theorem doD_ext_len {p s r : Int} {img : List Nat} {page : Int} {b : ByteArray} (hR : RightG p s r) (hl : (img.length : Int) = p * s * r) (h0 : 0 ≤ page) (h1 : page < s * r) (k : Nat) (hk : (k : Int) ≤ p) : (doD p img page (b.extract 0 k)).length = img.length := by
  obtain ⟨b1, b2, b3, b4, b5⟩ := page_bd hR h0 h1
  refine spliceN_len _ _ _ ?_
  rw [nb_ext0, List.length_take]
  omega
section
variable {W : World} {g ib ic : Nat} {p s r : Int} {d : Dev} {v : Value}
def rflushD (p : Int) (d : Dev) : Dev × Int :=
  if d.down = true then (d, 6) else if (rcountD d).2 = true then ((rcountD d).1, 6) else ({ (rcountD d).1 with img := doAll p (rcountD d).1.img (rcountD d).1.row, row := [] }, 0)
def RfPost (W : World) (g ib ic : Nat) (p s r : Int) (v : Value) (dc : Dev × Int) (e : Ending) (w' : World) : Prop := e = .returned (.int .i64 dc.2) ∧ ∃ v', RfX w' g ib ic p s r dc.1 v' ∧ FlMv W w' g ib v v'
end
end Go.Proofs.Ytecelmhiffcaeaa
/- The contracts of the reference's device: Crash, Rot. -/
namespace Go.Proofs.Ytecelmhiffcaeaa
open Go.RowKit
set_option linter.unusedVariables false
set_option maxRecDepth 20000

theorem crK_stay (p : Int) (img : List Nat) (row : Rw) (mask : List Int) (k : Nat) (h : mask.length ≤ k) : ∀ j, crK p img row mask (k + j) = crK p img row mask k
  | 0 => rfl
  | j + 1 => by
    rw [← Nat.add_assoc, crK]
    have e : mask.getD (k + j) 0 = 0 := by rw [List.getD_eq_getElem?_getD, List.getElem?_eq_none (by omega)]; rfl
    rw [e]
    split
    · rw [crOne, if_pos (by omega)]
      exact crK_stay p img row mask k h j
    · exact crK_stay p img row mask k h j
theorem tornK_nat {p m : Int} (hp : 32 ≤ p) (hm : 2 ≤ m) : ((tornK p m).toNat : Int) = 1 + (m - 2).tmod (p - 1) := by
  obtain ⟨t1, t2, t3⟩ := tornK_bd (p := p) (m := m) hp hm
  omega
section
variable {W : World} {g ib ic : Nat} {p s r : Int} {d : Dev} {v : Value}
def RRotPost (W : World) (g ib ic : Nat) (p s r : Int) (v : Value) (dc : Dev × Int) (e : Ending) (w' : World) : Prop := e = .returned (.int .i64 dc.2) ∧ RfX w' g ib ic p s r dc.1 v ∧ FlMv W w' g ib v v
end
end Go.Proofs.Ytecelmhiffcaeaa
/- The contract of the reference's NewFlash. -/
namespace Go.Proofs.Ytecelmhiffcaeaa
open Go.RowKit
set_option linter.unusedVariables false
set_option maxRecDepth 20000

theorem rsizeK (p s r : Int) (h : RightG p s r) (w : World) : Calls Try.prog 12 #[geo p s r] w fun e w' => e = .returned (.int .i64 (p * s * r)) ∧ Kp w w' :=
  (rsize_any p s r h w).mono fun _ _ ⟨he, hw⟩ => ⟨he, hw ▸ Kp.one _ _⟩
def RNewPost (w : World) (p s r : Int) (image : ByteArray) (e : Ending) (w' : World) : Prop :=
  ∃ g ib ic, e = .returned (.pointer (some ⟨g, 0, none⟩)) ∧ w.heap.size ≤ g ∧ w.heap.size ≤ ib ∧ RfX w' g ib ic p s r (newD p s r image) (.slice none 0 0) ∧ Kp w w'
set_option maxRecDepth 20000 in
set_option maxHeartbeats 1600000 in
theorem rnewf (p s r : Int) (h : RightG p s r) (image : ByteArray) (hl : (image.size : Int) ≤ p * s * r) (w : World) :
    Calls Try.prog 28 #[geo p s r, .string image] w (RNewPost w p s r image) := by
  obtain ⟨m1, m2, m3, m4⟩ := mul3 h
  have HG := Lib.hid (fun (W : World) (k : Kp (w.alloc (gob p s r)) W) => (Gat.new w p s r).keep k)
  have q1 : IntKind.i64.wrap (p * s * r - (image.size : Int)) = p * s * r - (image.size : Int) := IntWalk.i64_in _ (by omega)
  have hN0 : 0 ≤ p * s * r - (image.size : Int) := by omega
  have hN1 : p * s * r - (image.size : Int) ≤ 140737488351232 := by omega
  have HIM := Lib.hid (newD_img p s r image)
  have hlen2 : (image ++ fillS 255 (p * s * r - image.size).toNat).size = (newD p s r image).img.length := by
    rw [ByteArray.size_append, fillS_size]
    unfold newD
    simp only [List.length_append, List.length_replicate, nb_len]
  have HL2 := Lib.hid hlen2
  clear hlen2
  have HSZ := Lib.hid (fun W => rsizeK p s r h W)
  have HFI := Lib.hid (fun W => fill_any 255 (p * s * r - (image.size : Int)) (by omega) hN1 W)
  have hsum : image.size + (fillS 255 (p * s * r - (image.size : Int)).toNat).size ≤ 9223372036854775807 := by rw [fillS_size]; omega
  generalize (fillS 255 (p * s * r - (image.size : Int)).toNat) = fl at *
  have HLF : Hid (image.size + fl.size = (newD p s r image).img.length) := Lib.hid (by rw [← HL2.out, ByteArray.size_append])
  clear q1 hN0 hN1
  have HIS : Hid ((image ++ fl).size = image.size + fl.size) := Lib.hid ByteArray.size_append
  have hsum2 : ¬ (9223372036854775807 < image.size + fl.size) := by omega
  go_enter Try.func28, Try.ntmps28
  go_wp2_with fail
  have q1 : IntKind.i64.wrap (p * s * r - (image.size : Int)) = p * s * r - (image.size : Int) := IntWalk.i64_in _ (by omega)
  refine wp_region_rel (R := Kp) (C := fun W' => Kp (w.alloc (gob p s r)) W') (by kernel_rfl) (by kernel_rfl) (Kp.refl _).drew (fun _ _ h k => h.trans k) Kp.refl (fun _ _ _ h k => h.trans k) ?_
  repeat (refine wpRel_step (fun K hK => ?_); apply rel_eq; (case ob => (intro f W hW hd; (obtain ⟨g0, g1, g2⟩ := HG.out _ hW); (try simp [deps, factOf, Region.binds] at hd); unfold relOp; go_simp; (first | exact ⟨Kp.refl _, rfl⟩ | exact Kp.refl _ | (refine ⟨Kp.refl _, ?_⟩; (first | (go_at_call 12; refine (HSZ.out _).mono ?_; rintro e w' ⟨rfl, hk9⟩; exact ⟨rfl, hk9⟩) | (go_at_call 54; refine (HFI.out _).mono ?_; rintro e w' ⟨rfl, hk9⟩; exact ⟨rfl, hk9⟩)))))); go_simp; refine hK _ _ ?_; clear hK K)
  refine wpRel_step (fun K hK => ?_)
  apply rel_fact (fun v W => ∃ q c, v = .slice (some ⟨q, 0, none⟩) (image ++ fl).size c ∧ By W q (sb (image ++ fl)) ∧ w.heap.size < q ∧ (image ++ fl).size ≤ c) (fun v W W' hr ⟨q, c, h1, h2, h3⟩ => ⟨q, c, h1, h2.keep hr, h3⟩)
  case ob =>
    intro f W hW hd
    (obtain ⟨W1, c, hcv, hby, hkb, hsz, hcap⟩ := bytes_of2 W (image ++ fl) 9 Try.underlying9)
    (try simp [deps, factOf, Region.binds] at hd)
    unfold relOp
    go_simp
    (have hz9 := hW.size; simp at hz9; rw [ByteArray.size_append] at hcap; exact ⟨W.heap.size, c, ⟨rfl, rfl⟩, hby, by omega, hcap⟩)
  go_simp
  refine hK _ _ ?_
  clear hK K
  refine wpRel_step (fun K hK => ?_)
  apply rel_fact (fun v W => ∃ q c, v = .agg #[.int .i64 p, .int .i64 s, .int .i64 r, .slice (some ⟨q, 0, none⟩) (image ++ fl).size c, .slice none 0 0, .bool false, .int .i64 0, .bool false] ∧ By W q (sb (image ++ fl)) ∧ w.heap.size < q ∧ (image ++ fl).size ≤ c) (fun v W W' hr ⟨q, c, h1, h2, h3⟩ => ⟨q, c, h1, h2.keep hr, h3⟩)
  case ob =>
    intro f W hW hd
    (simp [deps, factOf, Region.binds] at hd; obtain ⟨e0, q, c, e9, hby, hq1, hq2⟩ := hd)
    (try simp [deps, factOf, Region.binds] at hd)
    unfold relOp
    go_simp
    exact ⟨Kp.refl _, q, c, ⟨rfl, rfl⟩, hby, hq1, hq2⟩
  go_simp
  refine hK _ _ ?_
  clear hK K
  refine wpRel_step (fun K hK => ?_)
  apply rel_fact (fun v W => ∃ g q c, v = .pointer (some ⟨g, 0, none⟩) ∧ Bk W g 101 [.int .i64 p, .int .i64 s, .int .i64 r, .slice (some ⟨q, 0, none⟩) (image.size + fl.size) c, .slice none 0 0, .bool false, .int .i64 0, .bool false] ∧ By W q (sb (image ++ fl)) ∧ w.heap.size < q ∧ q < g ∧ image.size + fl.size ≤ c) (fun v W W' hr ⟨g, q, c, h1, h2, h3, h4⟩ => ⟨g, q, c, h1, h2.keep hr, h3.keep hr, h4⟩)
  case ob =>
    intro f W hW hd
    (simp [deps, factOf, Region.binds] at hd; obtain ⟨q, c, e10, hby, hq1, hq2⟩ := hd; have hlt := hby.lt)
    (try simp [deps, factOf, Region.binds] at hd)
    unfold relOp
    go_simp
    exact ⟨Kp.one _ _, q, c, Bk.new _ _ _, hby.alloc _, hq1, hlt, hq2⟩
  go_simp
  refine hK _ _ ?_
  clear hK K
  refine wpRel_step (fun K hK => ?_)
  apply rel_fact (fun v W => ∃ g q c, v = .pointer (some ⟨g, 0, none⟩) ∧ Bk W g 101 [.int .i64 p, .int .i64 s, .int .i64 r, .slice (some ⟨q, 0, none⟩) (image.size + fl.size) c, .slice none 0 0, .bool false, .int .i64 0, .bool false] ∧ By W q (sb (image ++ fl)) ∧ w.heap.size < q ∧ q < g ∧ image.size + fl.size ≤ c) (fun v W W' hr ⟨g, q, c, h1, h2, h3, h4⟩ => ⟨g, q, c, h1, h2.keep hr, h3.keep hr, h4⟩)
  case ob =>
    intro f W hW hd
    (simp [deps, factOf, Region.binds] at hd; obtain ⟨g, q, c, e11, hbk, hby, hq1, hq2⟩ := hd)
    (try simp [deps, factOf, Region.binds] at hd)
    unfold relOp
    go_simp
    first | exact Kp.refl _ | exact ⟨Kp.refl _, q, c, hbk, hby, hq1, hq2⟩
  go_simp
  refine hK _ _ ?_
  clear hK K
  refine wpRel_nil ?_
  intro f W' hW hall
  obtain ⟨g, h12, q, c, hbk, hby, hq1, hq2, hq3⟩ := allF_get hall 12 _ rfl
  rw [Nat.zero_add] at h12
  clear hall
  dsimp only
  rw [h12]
  go_wp2_with fail
  refine bodyPost_ret (v := .pointer (some ⟨g, 0, none⟩)) (by simp [results, Try.results28, go_sem]) rfl ?_
  rw [HLF.out] at hbk hq3
  refine ⟨g, q, c, rfl, by omega, by omega, ⟨hbk, ?_, World.ownsRow_nil _ _ _ _, by omega, hq3, ?_⟩, (Kp.one w (gob p s r)).trans hW⟩
  · rw [HIM.out]
    exact hby
  · intro k hk
    simp [Value.ownBlock] at hk
end Go.Proofs.Ytecelmhiffcaeaa
/- The contracts of the reference's device: Program, Erase. -/
namespace Go.Proofs.Ytecelmhiffcaeaa
open Go.RowKit
set_option linter.unusedVariables false
set_option maxRecDepth 20000

theorem pend_mem (page : Int) (b : ByteArray) : ∀ (row : Rw), pend row page = some b → ∃ x ∈ row, x.2 = b := by
  intro row
  have key : ∀ (l : Rw) (acc : Option ByteArray), l.foldl (fun acc x => if x.1 = page then some x.2 else acc) acc = some b → acc = some b ∨ ∃ x ∈ l, x.2 = b := by
    intro l
    induction l with
    | nil => intro acc h; exact Or.inl h
    | cons x l ih =>
      intro acc h
      rw [List.foldl_cons] at h
      rcases ih _ h with h1 | ⟨y, hy, e⟩
      · split at h1
        · injection h1 with h1
          exact Or.inr ⟨x, List.mem_cons_self .., h1⟩
        · exact Or.inl h1
      · exact Or.inr ⟨y, List.mem_cons_of_mem _ hy, e⟩
  intro h
  rcases key row none h with h1 | h1
  · cases h1
  · exact h1
theorem heldD_size {p s r : Int} {d : Dev} (ok : DevOk p s r d) (page : Int) (h0 : 0 ≤ page) (h1 : page < s * r) : ((heldD d p page).size : Int) = p := by
  unfold heldD
  cases hp : pend d.row page with
  | some b =>
    obtain ⟨x, hx, e⟩ := pend_mem page b d.row hp
    have := (ok.rows x hx).2.2
    rw [e] at this
    exact this
  | none =>
    obtain ⟨b1, b2, b3, b4, b5⟩ := page_bd ok.right h0 h1
    have hlen := ok.len
    have hp := ok.right.1
    have e1 : (page * p).toNat = page.toNat * p.toNat := by rw [Int.toNat_mul h0 (by omega)]
    show ((strN (pgN d.img p.toNat page.toNat)).size : Int) = p
    rw [strN_size, pgN_len _ _ _ (by omega)]
    omega
def rprogramD (p s r : Int) (d : Dev) (page : Int) (b : ByteArray) : Dev × Int :=
  if d.down = true then (d, 6)
  else if page < 0 ∨ s * r ≤ page ∨ (b.size : Int) ≠ p then (d, 1)
  else if (pendV d.row page).2 = true ∨ blankB (heldD d p page) = false then (d, 7)
  else ({ (rcountD d).1 with row := (rcountD d).1.row ++ [(page, b)] }, if (rcountD d).2 = true then 6 else 0)
theorem info_wait : (Try.prog.info? 156).map (fun i => (i.zero, i.size, i.bytes)) = some (some (.agg #[.int .i64 0, .string ⟨#[]⟩]), 2, 24) := by kernel_rfl
section
variable {W : World} {g ib ic : Nat} {p s r : Int} {d : Dev} {v : Value}
end
end Go.Proofs.Ytecelmhiffcaeaa
