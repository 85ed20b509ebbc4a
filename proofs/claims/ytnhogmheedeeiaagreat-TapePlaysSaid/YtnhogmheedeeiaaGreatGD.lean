/- Merged texts: RFl, RFl2, RFl3, RFl4, RFl5, RFl6, RFl7, RFl8, FlPair. -/
import Derived.Test.YtnhogmheedeeiaaGreatGC
import Derived.Test.YtnhogmheedeeiaaGreatGA
set_option linter.unusedSimpArgs false
set_option linter.unusedVariables false
/- The reference's device in memory: what it is, how it is kept. -/
namespace Go.Proofs.YtnhogmheedeeiaaGreat
open Go.RowKit
set_option linter.unusedVariables false
set_option maxRecDepth 20000

/-- The reference's device: its struct is block g, its bytes are block ib. -/
structure RfX (W : World) (g ib ic : Nat) (p s r : Int) (d : Dev) (v : Value) : Prop where
  box : Bk W g 58 [.int .i64 p, .int .i64 s, .int .i64 r, .slice (some ⟨ib, 0, none⟩) d.img.length ic, v, .bool d.set, .int .i64 d.left, .bool d.down]
  img : By W ib (ints d.img)
  own : W.ownsRow 0 74 2 v d.row.length (rcells d.row)
  ne : g ≠ ib
  capok : d.img.length ≤ ic
  vne : ∀ k, v.ownBlock = some k → k ≠ g ∧ k ≠ ib
section
variable {W W' : World} {g ib ic : Nat} {p s r : Int} {d : Dev} {v : Value}
theorem RfX.keep (h : RfX W g ib ic p s r d v) (k : Kp W W') : RfX W' g ib ic p s r d v :=
  ⟨h.box.keep k, h.img.keep k, own_keep h.own k, h.ne, h.capok, h.vne⟩
theorem RfX.mv {S : List Nat} (h : RfX W g ib ic p s r d v) (k : Mv S W W') (hd : ∀ x ∈ foot g ib v, x ∉ S) : RfX W' g ib ic p s r d v := by
  have hb := h.box
  refine ⟨hb.mv k (hd g (by simp [foot])), h.img.mv k (hd ib (by simp [foot])), ?_, h.ne, h.capok, h.vne⟩
  rcases h.own with ⟨hl, ⟨e1, e2⟩ | ⟨q, cap, cur, e1, e2, e3, e4⟩⟩
  · exact ⟨hl, Or.inl ⟨e1, e2⟩⟩
  · refine ⟨hl, Or.inr ⟨q, cap, cur, e1, e2, ?_, e4⟩⟩
    have hq : q < W.heap.size := (Array.getElem?_eq_some_iff.1 e3).1
    rw [k.block q hq (hd q (by simp [foot, e1, Value.ownBlock]))]
    exact e3
theorem RfX.foot_lt (h : RfX W g ib ic p s r d v) : ∀ x ∈ foot g ib v, x < W.heap.size := by
  intro x hx
  have hb := h.box
  simp only [foot, List.mem_cons, Option.mem_toList] at hx
  rcases hx with rfl | rfl | hx
  · exact hb.lt
  · exact h.img.lt
  · rcases h.own with ⟨hl, ⟨e1, e2⟩ | ⟨q, cap, cur, e1, e2, e3, e4⟩⟩
    · rw [e1] at hx; simp [Value.ownBlock] at hx
    · rw [e1] at hx
      simp [Value.ownBlock] at hx
      subst hx
      exact (Array.getElem?_eq_some_iff.1 e3).1
theorem RfX.c8 (h : RfX W g ib ic p s r d v) : W.cell? ⟨g, 0, none⟩ = some (.int .i64 p) ∧ W.cell? ⟨g, 1, none⟩ = some (.int .i64 s) ∧ W.cell? ⟨g, 2, none⟩ = some (.int .i64 r) ∧ W.cell? ⟨g, 3, none⟩ = some (.slice (some ⟨ib, 0, none⟩) d.img.length ic) ∧ W.cell? ⟨g, 4, none⟩ = some v ∧ W.cell? ⟨g, 5, none⟩ = some (.bool d.set) ∧ W.cell? ⟨g, 6, none⟩ = some (.int .i64 d.left) ∧ W.cell? ⟨g, 7, none⟩ = some (.bool d.down) := by
  have hb := h.box
  exact ⟨hb.cell 0, hb.cell 1, hb.cell 2, hb.cell 3, hb.cell 4, hb.cell 5, hb.cell 6, hb.cell 7⟩
theorem RfX.fr (h : RfX W g ib ic p s r d v) (i : Nat) : W.frozen? ⟨g, i, none⟩ = false := by
  have hb := h.box
  exact hb.free i
/-- The row's cells. -/
theorem RfX.rows (h : RfX W g ib ic p s r d v) : ∃ A c, v = .slice A d.row.length c ∧ ∀ i (hi : i < d.row.length), ∃ q, A = some ⟨q, 0, none⟩ ∧ W.cell? ⟨q, i * 2, none⟩ = some (.int .i64 d.row[i].1) ∧ W.cell? ⟨q, i * 2 + 1, none⟩ = some (.string d.row[i].2) := by
  obtain ⟨A, c, e, hsrc⟩ := own_src h.own
  refine ⟨A, c, e, fun i hi => ?_⟩
  obtain ⟨q, c', e', _, _⟩ := own_at h.own (by omega)
  have hA : A = some ⟨q, 0, none⟩ := by rw [e] at e'; injection e'
  refine ⟨q, hA, ?_⟩
  have hl := rcells_len d.row
  obtain ⟨g1, g2⟩ := rcells_get d.row i hi
  have hown := h.own
  rw [e'] at hown
  have k1 := hown.cellAt (i * 2) (by omega)
  have k2 := hown.cellAt (i * 2 + 1) (by omega)
  rw [g1] at k1
  rw [g2] at k2
  exact ⟨k1, k2⟩
theorem RfX.setImg1 (h : RfX W g ib ic p s r d v) (o : Nat) (x : Nat) (ho : o < d.img.length) : RfX (W.setCell ⟨ib, o, none⟩ (.int .u8 (x : Int))) g ib ic p s r { d with img := d.img.set o x } v := by
  refine ⟨?_, ?_, own_set h.own (p := ⟨ib, o, none⟩) (fun k hk => (h.vne k hk).2) _, h.ne, by show (d.img.set o x).length ≤ ic; rw [List.length_set]; exact h.capok, h.vne⟩
  · show Bk _ _ _ [_, _, _, .slice (some ⟨ib, 0, none⟩) (d.img.set o x).length ic, _, _, _, _]
    rw [List.length_set]
    exact h.box.far (p := ⟨ib, o, none⟩) h.ne _
  · have := h.img.put o (by rw [List.length_map]; exact ho) (x : Int)
    have e1 : (ints d.img).set o (x : Int) = ints (d.img.set o x) := by simp [ints, List.map_set]
    rw [e1] at this
    exact this
theorem RfX.byte (h : RfX W g ib ic p s r d v) (o : Nat) (ho : o < d.img.length) : W.cell? ⟨ib, o, none⟩ = some (.int .u8 (d.img.getD o 0 : Nat)) ∧ W.frozen? ⟨ib, o, none⟩ = false := by
  refine ⟨?_, h.img.free o (by rw [List.length_map]; exact ho)⟩
  rw [h.img.cell o (by rw [List.length_map]; exact ho), List.getElem_map, List.getD_eq_getElem?_getD, List.getElem?_eq_getElem ho]
  rfl
theorem RfX.setDown (h : RfX W g ib ic p s r d v) : RfX (W.setCell ⟨g, 7, none⟩ (.bool true)) g ib ic p s r { d with down := true } v :=
  ⟨h.box.put 7 (.bool true), h.img.far (p := ⟨g, 7, none⟩) (Ne.symm h.ne) _, own_set h.own (p := ⟨g, 7, none⟩) (fun k hk => (h.vne k hk).1) (.bool true), h.ne, h.capok, h.vne⟩
theorem RfX.setLeft (h : RfX W g ib ic p s r d v) (n : Int) : RfX (W.setCell ⟨g, 6, none⟩ (.int .i64 n)) g ib ic p s r { d with left := n } v :=
  ⟨h.box.put 6 (.int .i64 n), h.img.far (p := ⟨g, 6, none⟩) (Ne.symm h.ne) _, own_set h.own (p := ⟨g, 6, none⟩) (fun k hk => (h.vne k hk).1) _, h.ne, h.capok, h.vne⟩
theorem RfX.setFuse (h : RfX W g ib ic p s r d v) (B : Bool) (n : Int) : RfX ((W.setCell ⟨g, 5, none⟩ (.bool B)).setCell ⟨g, 6, none⟩ (.int .i64 n)) g ib ic p s r { d with set := B, left := n } v :=
  ⟨(h.box.put 5 (.bool B)).put 6 (.int .i64 n), (h.img.far (p := ⟨g, 5, none⟩) (Ne.symm h.ne) _).far (p := ⟨g, 6, none⟩) (Ne.symm h.ne) _, own_set (own_set h.own (p := ⟨g, 5, none⟩) (fun k hk => (h.vne k hk).1) _) (p := ⟨g, 6, none⟩) (fun k hk => (h.vne k hk).1) _, h.ne, h.capok, h.vne⟩
/-- Nothing is pending any more. -/
theorem RfX.setNil (h : RfX W g ib ic p s r d v) : RfX (W.setCell ⟨g, 4, none⟩ (.slice none 0 0)) g ib ic p s r { d with row := [] } (.slice none 0 0) := by
  refine ⟨h.box.put 4 _, h.img.far (p := ⟨g, 4, none⟩) (Ne.symm h.ne) _, World.ownsRow_nil _ _ _ _, h.ne, h.capok, ?_⟩
  intro k hk
  simp [Value.ownBlock] at hk
theorem RfX.setUp (h : RfX W g ib ic p s r d v) : RfX (((W.setCell ⟨g, 4, none⟩ (.slice none 0 0)).setCell ⟨g, 7, none⟩ (.bool false)).setCell ⟨g, 5, none⟩ (.bool false)) g ib ic p s r { d with row := [], down := false, set := false } (.slice none 0 0) := by
  have h1 := h.setNil
  refine ⟨(h1.box.put 7 (.bool false)).put 5 (.bool false), (h1.img.far (p := ⟨g, 7, none⟩) (Ne.symm h.ne) _).far (p := ⟨g, 5, none⟩) (Ne.symm h.ne) _, World.ownsRow_nil _ _ _ _, h.ne, h.capok, ?_⟩
  intro k hk
  simp [Value.ownBlock] at hk
theorem FlMv.setUp2 {W' : World} (k : FlMv W W' g ib v v) : FlMv W (((W'.setCell ⟨g, 4, none⟩ (.slice none 0 0)).setCell ⟨g, 7, none⟩ (.bool false)).setCell ⟨g, 5, none⟩ (.bool false)) g ib v (.slice none 0 0) := by
  refine ⟨((k.1.set (by simp [foot]) _).set (by simp [foot]) _).set (by simp [foot]) _, ?_⟩
  intro x hx
  simp [Value.ownBlock] at hx
/-- One more is pending. -/
theorem RfX.push {w1 w' : World} {v' : Value} (h : RfX W g ib ic p s r d v) (hk : Kp W w1) (x : Int × ByteArray) (hown : w'.ownsRow 0 74 2 v' (d.row.length + 1) (rcells d.row ++ [.int .i64 x.1, .string x.2])) (hg : w1.grownBy w' v.ownBlock) (hat : v'.ownBlock = v.ownBlock ∨ v'.ownBlock = some w1.heap.size) :
    (∀ i, w'.frozen? ⟨g, i, none⟩ = false) ∧ w'.cell? ⟨g, 4, none⟩ = some v ∧ RfX (w'.setCell ⟨g, 4, none⟩ v') g ib ic p s r { d with row := d.row ++ [x] } v' ∧ FlMv W (w'.setCell ⟨g, 4, none⟩ v') g ib v v' := by
  have h1 := h.keep hk
  have lt1 := h1.foot_lt
  have gg : ∀ k, v'.ownBlock = some k → k ≠ g ∧ k ≠ ib := by
    intro k hk'
    rcases hat with e | e
    · exact h.vne k (e ▸ hk')
    · rw [e] at hk'
      injection hk' with hk'
      have a1 := lt1 g (by simp [foot])
      have a2 := lt1 ib (by simp [foot])
      exact ⟨by omega, by omega⟩
  have ng : some g ≠ v.ownBlock := fun e => (h.vne g e.symm).1 rfl
  have ni : some ib ≠ v.ownBlock := fun e => (h.vne ib e.symm).2 rfl
  have hb' : Bk w' g 58 [.int .i64 p, .int .i64 s, .int .i64 r, .slice (some ⟨ib, 0, none⟩) d.img.length ic, v, .bool d.set, .int .i64 d.left, .bool d.down] := (hg.block g h1.box.lt ng).trans h1.box
  have hi' : By w' ib (ints d.img) := h1.img.same (hg.block ib h1.img.lt ni)
  refine ⟨fun i => hb'.free i, hb'.cell 4, ⟨hb'.put 4 v', hi'.far (p := ⟨g, 4, none⟩) (Ne.symm h.ne) _, ?_, h.ne, h.capok, gg⟩, ?_, ?_⟩
  · have := own_set hown (p := ⟨g, 4, none⟩) (fun k hk' => (gg k hk').1) v'
    show World.ownsRow _ 0 _ 2 v' (d.row ++ [x]).length (rcells (d.row ++ [x]))
    rw [List.length_append, rcells_app]
    exact this
  · refine Mv.set (Mv.grown (Mv.of hk) hg (fun k hk' => by simp [foot, hk'])) (by simp [foot]) _
  · intro k hk'
    rcases hat with e | e
    · exact Or.inl (e ▸ hk')
    · rw [e] at hk'
      injection hk' with hk'
      have := hk.size
      exact Or.inr (by omega)
theorem ximg_conv {c : Nat} (h : RfX W g ib ic p s r d v) (ok : DevOk p s r d) (page : Int) (h0 : 0 ≤ page) (h1 : page < s * r) :
    (convert 55 9 (.slice (some ⟨ib, (page * p).toNat, none⟩) (((page + 1) * p).toNat - (page * p).toNat) c)).run Tryz.prog W = .ok (.string (strN (pgN d.img p.toNat page.toNat))) W := by
  obtain ⟨b1, b2, b3, b4, b5⟩ := page_bd ok.right h0 h1
  have hlen := ok.len
  have hp := ok.right.1
  have e1 : (page * p).toNat = page.toNat * p.toNat := by rw [Int.toNat_mul h0 (by omega)]
  have e2 : ((page + 1) * p).toNat - (page * p).toNat = p.toNat := by omega
  have := h.img.convAt (o := (page * p).toNat) (n := p.toNat) (c := c) (by rw [List.length_map]; omega)
  rw [e2, this]
  congr 2
  unfold strN
  congr 1
  have := pgN_ints d.img p.toNat page.toNat
  rw [← e1] at this
  exact this
end
end Go.Proofs.YtnhogmheedeeiaaGreat
/- The contracts of the reference's device: what reads, blows, Fuse. -/
namespace Go.Proofs.YtnhogmheedeeiaaGreat
open Go.RowKit
set_option linter.unusedVariables false
set_option maxRecDepth 20000

def rcountD (d : Dev) : Dev × Bool :=
  if d.set = false then (d, false) else if d.left = 0 then ({ d with down := true }, true) else ({ d with left := d.left - 1 }, false)
theorem rcountD_same (d : Dev) : (rcountD d).1.img = d.img ∧ (rcountD d).1.row = d.row := by
  unfold rcountD
  split
  · exact ⟨rfl, rfl⟩
  · split <;> exact ⟨rfl, rfl⟩
section
variable {W : World} {g ib ic : Nat} {p s r : Int} {d : Dev} {v : Value}
set_option maxHeartbeats 400000 in
theorem rimage (h : RfX W g ib ic p s r d v) : Calls Tryz.prog 19 #[.pointer (some ⟨g, 0, none⟩)] W fun e w' => e = .returned (.string (strN d.img)) ∧ Kp W w' := by
  obtain ⟨c0, c1, c2, c3, c4, c5, c6, c7⟩ := h.c8
  have hcv := h.img.conv (n := d.img.length) (c := ic) (by simp)
  go_enter Tryz.func19, Tryz.ntmps19
  go_wp2_with fail
  go_ret
  exact ⟨rfl, Kp.refl _⟩
set_option maxHeartbeats 800000 in
theorem rpages (h : RfX W g ib ic p s r d v) (hR : RightG p s r) : Calls Tryz.prog 80 #[.pointer (some ⟨g, 0, none⟩)] W fun e w' => e = .returned (.int .i64 (s * r)) ∧ Kp W w' := by
  have HC := Lib.hid (fun W' (k : Kp W W') => (h.keep k).c8)
  have hm := mul_sr hR
  have hw : IntKind.i64.wrap (s * r) = s * r := IntWalk.i64_in _ (by omega)
  clear hm
  go_enter Tryz.func80, Tryz.ntmps80
  go_wp2_with fail
  have hInh := fun (x v : Value) => (⟨fun h => h _ ((Kp.refl W).drew), fun h _ _ => h⟩ : (∀ Wz9, (fun W' => Kp W W') Wz9 → x = v) ↔ x = v)
  dsimp only at hInh
  refine wp_region_quietC (C := fun W' => Kp W W') (by kernel_rfl) (by kernel_rfl) ((Kp.refl W).drew) ?_
  repeat (first | go_big_quiet_step ((intro hW; first | fail | (with_reducible rfl) | (obtain ⟨c0, c1, c2, c3, c4, c5, c6, c7⟩ := HC.out _ hW; (try go_simp); first | done | with_reducible rfl | exact ⟨rfl, rfl⟩))) | quiet_step ((intro hW; first | fail | (with_reducible rfl) | (obtain ⟨c0, c1, c2, c3, c4, c5, c6, c7⟩ := HC.out _ hW; (try go_simp); first | done | with_reducible rfl | exact ⟨rfl, rfl⟩))))
  refine wpQuiet_nil ?_
  intro wq hwq
  clear hInh
  go_wp2_with fail
  go_ret
  exact ⟨rfl, hwq⟩
def rfuseD (d : Dev) (n : Int) : Dev := { d with set := decide (0 ≤ n), left := max n 0 }
set_option maxHeartbeats 400000 in
theorem rfuse (h : RfX W g ib ic p s r d v) (n : Int) :
    Calls Tryz.prog 15 #[.pointer (some ⟨g, 0, none⟩), .int .i64 n] W fun e w' => e = .returned (.tuple #[]) ∧ RfX w' g ib ic p s r (rfuseD d n) v ∧ FlMv W w' g ib v v := by
  obtain ⟨c0, c1, c2, c3, c4, c5, c6, c7⟩ := h.c8
  have f5 := h.fr 5
  have f6 := h.fr 6
  go_enter Tryz.func15, Tryz.ntmps15
  go_wp2_with fail
  exact bodyPost_end (v := .tuple #[]) (by simp [results, Tryz.results15]) rfl ⟨rfl, h.setFuse _ _, ⟨((Mv.refl W).set (by simp [foot]) _).set (by simp [foot]) _, fun k hk => Or.inl hk⟩⟩
def RCountPost (W : World) (g ib ic : Nat) (p s r : Int) (d : Dev) (v : Value) (e : Ending) (w' : World) : Prop :=
  e = .returned (.bool (rcountD d).2) ∧ RfX w' g ib ic p s r (rcountD d).1 v ∧ FlMv W w' g ib v v
set_option maxHeartbeats 800000 in
theorem rcount (h : RfX W g ib ic p s r d v) (hl : d.set = true → 0 ≤ d.left ∧ d.left ≤ 9223372036854775807) :
    Calls Tryz.prog 35 #[.pointer (some ⟨g, 0, none⟩)] W (RCountPost W g ib ic p s r d v) := by
  obtain ⟨c0, c1, c2, c3, c4, c5, c6, c7⟩ := h.c8
  have f5 := h.fr 5
  have f6 := h.fr 6
  have f7 := h.fr 7
  rcases hs : d.set with _ | _
  · rw [hs] at c5
    have e1 : rcountD d = (d, false) := by unfold rcountD; rw [if_pos hs]
    have HE := Lib.hid e1
    clear e1 hs hl
    go_enter Tryz.func35, Tryz.ntmps35
    go_wp2_with fail
    go_ret
    exact ⟨by rw [HE.out]; rfl, by rw [HE.out]; exact h, FlMv.refl _ _ _ _⟩
  · rw [hs] at c5
    obtain ⟨l0, l1⟩ := hl hs
    by_cases hz : d.left = 0
    · have e1 : rcountD d = ({ d with down := true }, true) := by unfold rcountD; rw [if_neg (by rw [hs]; simp), if_pos hz]
      have HE := Lib.hid e1
      rw [hz] at c6
      clear e1 hs hl hz
      go_enter Tryz.func35, Tryz.ntmps35
      go_wp2_with fail
      go_ret
      exact ⟨by rw [HE.out]; rfl, by rw [HE.out]; exact h.setDown, ⟨(Mv.refl W).set (by simp [foot]) _, fun k hk => Or.inl hk⟩⟩
    · have e1 : rcountD d = ({ d with left := d.left - 1 }, false) := by unfold rcountD; rw [if_neg (by rw [hs]; simp), if_neg hz]
      have HE := Lib.hid e1
      have hb : (d.left == 0) = false := by simp [hz]
      have hw : IntKind.i64.wrap (d.left - 1) = d.left - 1 := IntWalk.i64_in _ (by omega)
      clear e1 hs hl hz
      go_enter Tryz.func35, Tryz.ntmps35
      go_wp2_with fail
      go_ret
      exact ⟨by rw [HE.out]; rfl, by rw [HE.out]; exact h.setLeft _, ⟨(Mv.refl W).set (by simp [foot]) _, fun k hk => Or.inl hk⟩⟩
set_option maxHeartbeats 1600000 in
theorem rwaits (h : RfX W g ib ic p s r d v) (hl : d.row.length ≤ 1000000) (page : Int) : Calls Tryz.prog 81 #[.pointer (some ⟨g, 0, none⟩), .int .i64 page] W fun e w' => e = .returned (.bool (pendV d.row page).2) ∧ Kp W w' := by
  obtain ⟨c0, c1, c2, c3, c4, c5, c6, c7⟩ := h.c8
  obtain ⟨A, cc, rfl, hrow⟩ := h.rows
  have HR := Lib.hid hrow
  clear hrow
  go_enter Tryz.func81, Tryz.ntmps81
  go_wp2_with fail
  go_loop [5] (fun i => ∃ k : Nat, k ≤ d.row.length ∧ i = .int .i64 k ∧ pend (d.row.take k) page = none) (fun i => d.row.length - (intOf i).toNat)
  case atStart => exact ⟨0, Nat.zero_le _, rfl, by rw [List.take_zero]; rfl⟩
  case round =>
    obtain ⟨k, hk, rfl, hpd⟩ := hrel
    by_cases hkl : k < d.row.length
    · have hkl2 : (k : Int) < (d.row.length : Int) := by omega
      obtain ⟨q, rfl, e1, e2⟩ := HR.out k hkl
      by_cases hpg : d.row[k].1 = page
      · have hpv : (pendV d.row page).2 = true := by
          have hs : ∀ (a : ByteArray) (l : Rw), ∃ b, l.foldl (fun acc x => if x.1 = page then some x.2 else acc) (some a) = some b := by
            intro a l
            induction l generalizing a with
            | nil => exact ⟨a, rfl⟩
            | cons x l ih => rw [List.foldl_cons]; split <;> exact ih _
          have hsp : pend d.row page = (d.row.drop (k + 1)).foldl (fun acc x => if x.1 = page then some x.2 else acc) (pend (d.row.take (k + 1)) page) := by
            unfold pend
            rw [← List.foldl_append, List.take_append_drop]
          rw [pend_take _ _ _ hkl, if_pos hpg] at hsp
          obtain ⟨b, hb⟩ := hs d.row[k].2 (d.row.drop (k + 1))
          unfold pendV
          rw [hsp, hb]
        have HP := Lib.hid hpv
        have hb : (d.row[k].1 == page) = true := by simp [hpg]
        clear hpd hpv hpg
        go_wp2_with fail
        go_ret
        exact ⟨by rw [HP.out]; rfl, Kp.refl _⟩
      · have hpd2 : pend (d.row.take (k + 1)) page = none := by rw [pend_take _ _ _ hkl, if_neg hpg]; exact hpd
        have HP := Lib.hid hpd2
        have hb : (d.row[k].1 == page) = false := by simp [hpg]
        clear hpd hpg hpd2
        go_wp2_with fail
        go_round
        case rel => exact ⟨k + 1, by omega, by go_num, HP.out⟩
        case measure => simp [intOf]; omega
    · obtain rfl : k = d.row.length := by omega
      rw [List.take_length] at hpd
      have hpv : (pendV d.row page).2 = false := by unfold pendV; rw [hpd]
      have HP := Lib.hid hpv
      clear hpd hpv
      go_wp2_with fail
      go_ret
      exact ⟨by rw [HP.out]; rfl, Kp.refl _⟩
set_option maxRecDepth 20000 in
set_option maxHeartbeats 1600000 in
theorem rheld (h : RfX W g ib ic p s r d v) (ok : DevOk p s r d) (page : Int) (h0 : 0 ≤ page) (h1 : page < s * r) :
    Calls Tryz.prog 83 #[.pointer (some ⟨g, 0, none⟩), .int .i64 page] W fun e w' => e = .returned (.string (heldD d p page)) ∧ Kp W w' := by
  have hrl := ok.rl
  have hlen := ok.len
  obtain ⟨b1, b2, b3, b4, b5⟩ := page_bd ok.right h0 h1
  obtain ⟨r1, r2, r3, r4, r5, r6⟩ := id ok.right
  have hcap := h.capok
  have HC := Lib.hid (fun W' (k : Kp W W') => (h.keep k).c8)
  have q1 : IntKind.i64.wrap (page * p) = page * p := IntWalk.i64_in _ (by omega)
  have q2 : IntKind.i64.wrap (page + 1) = page + 1 := IntWalk.i64_in _ (by omega)
  have q3 : IntKind.i64.wrap ((page + 1) * p) = (page + 1) * p := IntWalk.i64_in _ (by omega)
  have z1 : page * p ≤ (page + 1) * p := by omega
  have z2 : 0 ≤ (page + 1) * p := by omega
  have z3 : (page + 1) * p ≤ (d.img.length : Int) := by omega
  have z4 : (page + 1) * p ≤ (ic : Int) := by omega
  have z5 : page * p ≤ (ic : Int) := by omega
  have z6 : max ((page + 1) * p) 0 = (page + 1) * p := by omega
  have z7 : ¬ (ic = (page * p).toNat) := by omega
  have HI := Lib.hid (fun W' (k : Kp W W') => ximg_conv (c := ic - (page * p).toNat) (h.keep k) ok page h0 h1)
  have HRO := Lib.hid (fun W' (k : Kp W W') => (h.keep k).rows)
  clear b3
  go_enter Tryz.func83, Tryz.ntmps83
  go_wp2_with fail
  refine wp_region_rel (R := Kp) (C := fun W' => Kp W W') (by kernel_rfl) (by kernel_rfl) (Kp.refl W).drew (fun _ _ h k => h.trans k) Kp.refl (fun _ _ _ h k => h.trans k) ?_
  repeat (refine wpRel_step (fun K hK => ?_); apply rel_eq; (case ob => (intro f W hW hd; (obtain ⟨c0, c1, c2, c3, c4, c5, c6, c7⟩ := HC.out _ hW); (try simp [deps, factOf, Region.binds] at hd); unfold relOp; go_simp; (first | exact ⟨Kp.refl _, rfl⟩ | exact Kp.refl _ | (refine ⟨Kp.refl _, ?_⟩; fail)))); go_simp; refine hK _ _ ?_; clear hK K)
  refine wpRel_step (fun K hK => ?_)
  apply rel_fact (fun v _ => v = .string (strN (pgN d.img p.toNat page.toNat))) (fun _ _ _ _ h => h)
  case ob =>
    intro f W hW hd
    have hcv := HI.out _ hW
    (try simp [deps, factOf, Region.binds] at hd)
    unfold relOp
    go_simp
    first | exact ⟨Kp.refl _, rfl⟩ | exact Kp.refl _
  go_simp
  refine hK _ _ ?_
  clear hK K
  repeat (refine wpRel_step (fun K hK => ?_); apply rel_eq; (case ob => (intro f W hW hd; (obtain ⟨c0, c1, c2, c3, c4, c5, c6, c7⟩ := HC.out _ hW); (try simp [deps, factOf, Region.binds] at hd); unfold relOp; go_simp; (first | exact ⟨Kp.refl _, rfl⟩ | exact Kp.refl _ | (refine ⟨Kp.refl _, ?_⟩; fail)))); go_simp; refine hK _ _ ?_; clear hK K)
  refine wpRel_nil ?_
  intro f W' hW hall
  have h21 : f 21 = .string (strN (pgN d.img p.toNat page.toNat)) := allF_get hall 21 _ rfl
  clear hall
  dsimp only
  rw [h21]
  obtain ⟨c0, c1, c2, c3, c4, c5, c6, c7⟩ := HC.out _ hW
  obtain ⟨A, cc, hv, hrow⟩ := HRO.out _ hW
  rw [hv] at c4
  have HR := Lib.hid hrow
  have HHD : Hid (heldD d p page = (pend d.row page).getD (strN (pgN d.img p.toNat page.toNat))) := Lib.hid rfl
  generalize strN (pgN d.img p.toNat page.toNat) = base at *
  clear hrow hv HI HC HRO h21
  go_wp2_with fail
  go_loop [5, 6] (fun b i => ∃ k : Nat, k ≤ d.row.length ∧ i = .int .i64 k ∧ b = .string ((pend (d.row.take k) page).getD base)) (fun _ i => d.row.length - (intOf i).toNat)
  case atStart => exact ⟨0, Nat.zero_le _, rfl, by rw [List.take_zero]; rfl⟩
  case round =>
    obtain ⟨k, hk, rfl, rfl⟩ := hrel
    by_cases hkl : k < d.row.length
    · have hkl2 : (k : Int) < (d.row.length : Int) := by omega
      obtain ⟨q, rfl, e1, e2⟩ := HR.out k hkl
      have hps := pend_take d.row page k hkl
      by_cases hpg : d.row[k].1 = page
      · rw [if_pos hpg] at hps
        have HP := Lib.hid hps
        have hb : (d.row[k].1 == page) = true := by simp [hpg]
        clear hps hpg
        generalize hx : d.row[k].2 = x at *
        go_wp2_with fail
        go_round
        case rel => exact ⟨k + 1, by omega, by go_num, by rw [HP.out]; rfl⟩
        case measure => simp [intOf]; omega
      · rw [if_neg hpg] at hps
        have HP := Lib.hid hps
        have hb : (d.row[k].1 == page) = false := by simp [hpg]
        clear hps hpg
        go_wp2_with fail
        go_round
        case rel => exact ⟨k + 1, by omega, by go_num, by rw [HP.out]⟩
        case measure => simp [intOf]; omega
    · obtain rfl : k = d.row.length := by omega
      rw [List.take_length, ← HHD.out]
      go_wp2_with fail
      go_ret
      exact ⟨rfl, hW⟩
end
end Go.Proofs.YtnhogmheedeeiaaGreat
/- The contracts of the reference's device: done, Flush. -/
namespace Go.Proofs.YtnhogmheedeeiaaGreat
open Go.RowKit
set_option linter.unusedVariables false
set_option maxRecDepth 20000

theorem splice_snoc (img : List Nat) (o : Nat) (bs : List Nat) (x : Nat) (h : o + bs.length < img.length) : spliceN img o (bs ++ [x]) = (spliceN img o bs).set (o + bs.length) x := by
  unfold spliceN
  rw [List.set_append_right _ _ (by simp only [List.length_append, List.length_take]; omega)]
  have e1 : o + bs.length - (img.take o ++ bs).length = 0 := by simp only [List.length_append, List.length_take]; omega
  rw [e1, List.drop_eq_getElem_cons h]
  simp [List.append_assoc, Nat.add_assoc]
theorem doD_step (p : Int) (img : List Nat) (page : Int) (b : ByteArray) (k : Nat) (hk : k < b.size) (h : (page * p).toNat + k < img.length) :
    doD p img page (b.extract 0 (k + 1)) = (doD p img page (b.extract 0 k)).set ((page * p).toNat + k) b[k].toNat := by
  unfold doD
  rw [nb_ext0, nb_ext0, nb_take b k hk]
  have hl : ((nb b).take k).length = k := by rw [List.length_take, nb_len]; omega
  have := splice_snoc img (page * p).toNat ((nb b).take k) b[k].toNat (by rw [hl]; exact h)
  rw [hl] at this
  exact this
theorem doD_zero (p : Int) (img : List Nat) (page : Int) (b : ByteArray) : doD p img page (b.extract 0 0) = img := by
  unfold doD
  rw [nb_ext0, List.take_zero]
  simp [spliceN]
theorem doD_ext_len {p s r : Int} {img : List Nat} {page : Int} {b : ByteArray} (hR : RightG p s r) (hl : (img.length : Int) = p * s * r) (h0 : 0 ≤ page) (h1 : page < s * r) (k : Nat) (hk : (k : Int) ≤ p) : (doD p img page (b.extract 0 k)).length = img.length := by
  obtain ⟨b1, b2, b3, b4, b5⟩ := page_bd hR h0 h1
  refine spliceN_len _ _ _ ?_
  rw [nb_ext0, List.length_take]
  omega
section
variable {W : World} {g ib ic : Nat} {p s r : Int} {d : Dev} {v : Value}
set_option maxRecDepth 20000 in
set_option maxHeartbeats 1600000 in
theorem rdone (h : RfX W g ib ic p s r d v) (hR : RightG p s r) (hlen : (d.img.length : Int) = p * s * r) (page : Int) (h0 : 0 ≤ page) (h1 : page < s * r) (b : ByteArray) (n : Nat) (hn : n ≤ b.size) (hp : (n : Int) ≤ p) (hbs : b.size ≤ 9223372036854775807) :
    Calls Tryz.prog 36 #[.pointer (some ⟨g, 0, none⟩), .agg #[.int .i64 page, .string b], .int .i64 (n : Int)] W fun e w' => e = .returned (.tuple #[]) ∧ RfX w' g ib ic p s r { d with img := doD p d.img page (b.extract 0 n) } v ∧ FlMv W w' g ib v v := by
  obtain ⟨b1, b2, b3, b4, b5⟩ := page_bd hR h0 h1
  obtain ⟨r1, r2, r3, r4, r5, r6⟩ := id hR
  have hB := Bk.new W 74 [.int .i64 page, .string b]
  have h9 := h.keep (Kp.one W (.cells [.int .i64 page, .string b].toArray 74))
  have hM9 := FlMv.of (v := v) (g := g) (ib := ib) (Kp.one W (.cells [.int .i64 page, .string b].toArray 74))
  have hfl := h.foot_lt
  have hqi : W.heap.size ≠ ib := by have := hfl ib (by simp [foot]); omega
  have q1 : IntKind.i64.wrap (page * p) = page * p := IntWalk.i64_in _ (by omega)
  clear b3
  go_enter Tryz.func36, Tryz.ntmps36
  go_wp2_with fail
  go_loopw [6] (fun i wr => ∃ k : Nat, k ≤ n ∧ i = .int .i64 k ∧ RfX wr g ib ic p s r { d with img := doD p d.img page (b.extract 0 k) } v ∧ FlMv W wr g ib v v ∧ Bk wr W.heap.size 74 [.int .i64 page, .string b]) (fun i _ => n - (intOf i).toNat)
  case atStart => exact ⟨0, by omega, rfl, by rw [doD_zero]; exact h9, hM9, hB⟩
  case round =>
    obtain ⟨k, hk, rfl, hfr, hMr, hBr⟩ := hrel
    clear h9 hM9 hB h
    by_cases hlt : k < n
    · have hkb : k < b.size := by omega
      have hkb2 : (k : Int) < (b.size : Int) := by omega
      have hlt2 : (k : Int) < (n : Int) := by omega
      have hst := doD_step p d.img page b k hkb (by omega)
      have HST := Lib.hid hst
      have hll := doD_ext_len (b := b) hR hlen h0 h1 k (by omega)
      have hcap := hfr.capok
      dsimp only at hcap
      have HC := Lib.hid (fun W' (k' : Kp wr W') => (hfr.keep k').c8)
      have HB := Lib.hid (fun W' (k' : Kp wr W') => And.intro ((hBr.keep k').cell 0) ((hBr.keep k').cell 1))
      have HBY := Lib.hid (fun W' (k' : Kp wr W') => (hfr.keep k').byte ((page * p).toNat + k) (by dsimp only; omega))
      have HSET := Lib.hid (fun W' (k' : Kp wr W') => (hfr.keep k').setImg1 ((page * p).toNat + k) b[k].toNat (by dsimp only; omega))
      have HBK := Lib.hid (fun W' (k' : Kp wr W') => (hBr.keep k').far (p := ⟨ib, (page * p).toNat + k, none⟩) hqi (.int .u8 (b[k].toNat : Nat)))
      have q2 : IntKind.i64.wrap (page * p + (k : Int)) = page * p + (k : Int) := IntWalk.i64_in _ (by omega)
      have z1 : 0 ≤ page * p + (k : Int) := by omega
      have z2 : page * p + (k : Int) < p * s * r := by omega
      have z3 : (page * p + (k : Int)).toNat = (page * p).toNat + k := by omega
      clear hst hcap
      go_wp2_with fail
      refine wp_region_relH (R := Kp) (C := fun W' => Kp wr W') 19 (by kernel_rfl) (by kernel_rfl) (Kp.refl wr).drew (fun _ _ h k => h.trans k) Kp.refl (fun _ _ _ h k => h.trans k) ?_
      simp only [List.take_succ_cons, List.take_zero, List.drop_succ_cons, List.drop_zero]
      repeat (refine wpRel_step (fun K hK => ?_); apply rel_eq; (case ob => (intro f W hW hd; (obtain ⟨c0, c1, c2, c3, c4, c5, c6, c7⟩ := HC.out _ hW; obtain ⟨y1, y2⟩ := HB.out _ hW); (try simp [deps, factOf, Region.binds] at hd); unfold relOp; go_simp; (first | exact ⟨Kp.refl _, rfl⟩ | exact Kp.refl _ | (refine ⟨Kp.refl _, ?_⟩; fail)))); go_simp; refine hK _ _ ?_; clear hK K)
      refine wpRel_nil ?_
      intro f W' hW hall
      have h17 : f 17 = .int .u8 (b[k].toNat : Nat) := allF_get hall 17 _ rfl
      have h18 : f 18 = .pointer (some ⟨ib, (page * p).toNat + k, none⟩) := allF_get hall 18 _ rfl
      clear hall HC HB
      dsimp only
      rw [h17, h18]
      obtain ⟨y1, y2⟩ := HBY.out _ hW
      have hres := HSET.out _ hW
      have hbk := HBK.out _ hW
      rw [← HST.out] at hres
      have hM5 : FlMv W (W'.setCell ⟨ib, (page * p).toNat + k, none⟩ (.int .u8 (b[k].toNat : Nat))) g ib v v := ⟨(hMr.1.trans (Mv.of hW)).set (by simp [foot]) _, fun x hx => Or.inl hx⟩
      have HR5 := Lib.hid hres
      have HB5 := Lib.hid hbk
      have HM5 := Lib.hid hM5
      clear hres hbk hM5 HSET HBK HBY HST h17 h18
      go_wp2_with fail
      go_roundw
      case rel => exact ⟨k + 1, by omega, by go_num, HR5.out, HM5.out, HB5.out⟩
      case measure => simp [intOf]; omega
    · obtain rfl : k = n := by omega
      go_wp2_with fail
      exact bodyPost_end (v := .tuple #[]) (by simp [results, Tryz.results36]) rfl ⟨rfl, hfr, hMr⟩
/-- All of a page. -/
theorem rdoneA (h : RfX W g ib ic p s r d v) (hR : RightG p s r) (hlen : (d.img.length : Int) = p * s * r) (page : Int) (h0 : 0 ≤ page) (h1 : page < s * r) (b : ByteArray) (hb : (b.size : Int) = p) :
    Calls Tryz.prog 36 #[.pointer (some ⟨g, 0, none⟩), .agg #[.int .i64 page, .string b], .int .i64 p] W fun e w' => e = .returned (.tuple #[]) ∧ RfX w' g ib ic p s r { d with img := doD p d.img page b } v ∧ FlMv W w' g ib v v := by
  have := rdone h hR hlen page h0 h1 b b.size (Nat.le_refl _) (by omega) (by obtain ⟨r1, r2, r3, r4, r5, r6⟩ := id hR; omega)
  rw [hb, extract_all] at this
  exact this
def rflushD (p : Int) (d : Dev) : Dev × Int :=
  if d.down = true then (d, 6) else if (rcountD d).2 = true then ((rcountD d).1, 6) else ({ (rcountD d).1 with img := doAll p (rcountD d).1.img (rcountD d).1.row, row := [] }, 0)
def RfPost (W : World) (g ib ic : Nat) (p s r : Int) (v : Value) (dc : Dev × Int) (e : Ending) (w' : World) : Prop := e = .returned (.int .i64 dc.2) ∧ ∃ v', RfX w' g ib ic p s r dc.1 v' ∧ FlMv W w' g ib v v'
set_option maxRecDepth 20000 in
set_option maxHeartbeats 1600000 in
theorem rflush (h : RfX W g ib ic p s r d v) (ok : DevOk p s r d) :
    Calls Tryz.prog 11 #[.pointer (some ⟨g, 0, none⟩)] W (RfPost W g ib ic p s r v (rflushD p d)) := by
  have HCN := Lib.hid (rcount h ok.left)
  have hrl := ok.rl
  obtain ⟨si, sr⟩ := rcountD_same d
  obtain ⟨c0, c1, c2, c3, c4, c5, c6, c7⟩ := h.c8
  rcases hdn : d.down with _ | _
  · rw [hdn] at c7
    have e1 : rflushD p d = if (rcountD d).2 = true then ((rcountD d).1, 6) else ({ (rcountD d).1 with img := doAll p (rcountD d).1.img (rcountD d).1.row, row := [] }, 0) := by unfold rflushD; rw [if_neg (by rw [hdn]; simp)]
    rw [e1]
    clear e1 hdn
    unfold RCountPost at HCN
    generalize rcountD d = cd at *
    obtain ⟨c, cb⟩ := cd
    have hrows := ok.rows
    have hlen := ok.len
    dsimp only at si sr HCN ⊢
    rw [← sr] at hrows hrl
    rw [← si] at hlen
    have hR := ok.right
    clear si sr ok
    rcases cb with _ | _
    · rw [if_neg (by simp)]
      have HLN := Lib.hid hlen
      have HRS := Lib.hid hrows
      clear hlen hrows
      go_enter Tryz.func11, Tryz.ntmps11
      go_wp2_with fail
      refine (HCN.out).mono ?_
      rintro e w2 ⟨rfl, hf2, hm2⟩
      clear c0 c1 c2 c3 c4 c5 c6 c7
      obtain ⟨c0, c1, c2, c3, c4, c5, c6, c7⟩ := hf2.c8
      obtain ⟨A, cc, hv, -⟩ := hf2.rows
      have HV := Lib.hid hv
      rw [hv] at c4
      clear hv
      clear HCN h
      go_wp2_with fail
      go_loopw [3] (fun i wr => ∃ k : Nat, k ≤ c.row.length ∧ i = .int .i64 k ∧ RfX wr g ib ic p s r { c with img := doAll p c.img (c.row.take k) } v ∧ FlMv W wr g ib v v) (fun i _ => c.row.length - (intOf i).toNat)
      case atStart => exact ⟨0, by omega, rfl, by rw [List.take_zero]; exact hf2, hm2⟩
      case round =>
        obtain ⟨k, hk, rfl, hfr, hMr⟩ := hrel
        clear hf2 hm2 c0 c1 c2 c3 c4 c5 c6 c7
        obtain ⟨c0, c1, c2, c3, c4, c5, c6, c7⟩ := hfr.c8
        rw [HV.out] at c4
        by_cases hlt : k < c.row.length
        · obtain ⟨A', cc', hv', hrw⟩ := hfr.rows
          have hAA : A' = A := by rw [HV.out] at hv'; injection hv' with e1; exact e1.symm
          subst hAA
          obtain ⟨q, hq, e1, e2⟩ := hrw k hlt
          have hmem := HRS.out c.row[k] (List.getElem_mem hlt)
          have hl2 : ((doAll p c.img (c.row.take k)).length : Int) = p * s * r := by
            rw [doAll_len hR _ _ HLN.out (fun x hx => HRS.out x (List.mem_of_mem_take hx))]
            exact HLN.out
          subst hq
          clear hv' hrw
          have HE := Lib.hid (fun W' (kk : Kp wr W') => (And.intro (kk.cell e1) (kk.cell e2)))
          have HCR := Lib.hid (fun W' (kk : Kp wr W') => (hfr.keep kk).c8)
          have HDO := Lib.hid (fun W' (kk : Kp wr W') => rdoneA (hfr.keep kk) hR hl2 c.row[k].1 hmem.1 hmem.2.1 c.row[k].2 hmem.2.2)
          have HMQ := Lib.hid (fun W' (kk : Kp wr W') => hMr.trans (FlMv.of (v := v) (g := g) (ib := ib) kk))
          have HST := Lib.hid (doAll_take p c.img c.row k hlt)
          clear hl2
          have hkl : (k : Int) < (c.row.length : Int) := by omega
          clear hmem
          generalize hx1 : c.row[k].1 = pg at *
          generalize hx2 : c.row[k].2 = bb at *
          clear c0 c1 c2 c3 c5 c6 c7 e1 e2
          go_wp2_with fail
          refine wp_region_relH (R := Kp) (C := fun W' => Kp wr W') 13 (by kernel_rfl) (by kernel_rfl) (Kp.refl wr).drew (fun _ _ h k => h.trans k) Kp.refl (fun _ _ _ h k => h.trans k) ?_
          simp only [List.take_succ_cons, List.take_zero, List.drop_succ_cons, List.drop_zero]
          repeat (refine wpRel_step (fun K hK => ?_); apply rel_eq; (case ob => (intro f W hW hd; (obtain ⟨c0, c1, c2, c3, c4, c5, c6, c7⟩ := HCR.out _ hW; rw [HV.out] at c4; obtain ⟨e1, e2⟩ := HE.out _ hW); (try simp [deps, factOf, Region.binds] at hd); unfold relOp; go_simp; (first | exact ⟨Kp.refl _, rfl⟩ | exact Kp.refl _ | (refine ⟨Kp.refl _, ?_⟩; fail)))); go_simp; refine hK _ _ ?_; clear hK K)
          refine wpRel_nil ?_
          intro f W' hW hall
          have h0 : f 0 = .pointer (some ⟨g, 0, none⟩) := allF_get hall 0 _ rfl
          have h7 : f 7 = .agg #[.int .i64 pg, .string bb] := allF_get hall 7 _ rfl
          have h12 : f 12 = .int .i64 p := allF_get hall 12 _ rfl
          clear hall HCR HE
          dsimp only
          rw [h0, h7, h12]
          have HD5 := Lib.hid (HDO.out _ hW)
          have HM5 := Lib.hid (HMQ.out _ hW)
          clear HDO HMQ h0 h7 h12
          go_wp2_with fail
          refine (HD5.out).mono ?_
          rintro e w5 ⟨rfl, hf5, hm5⟩
          have hM6 := HM5.out.trans hm5
          go_wp2_with fail
          go_roundw
          case rel => exact ⟨k + 1, by omega, by go_num, by rw [HST.out]; exact hf5, hM6⟩
          case measure => simp [intOf]; omega
        · have hke : k = c.row.length := by omega
          subst hke
          rw [List.take_length] at hfr
          have f4 := hfr.fr 4
          have HF := Lib.hid hfr.setNil
          go_wp2_with fail
          go_ret
          exact ⟨rfl, _, HF.out, hMr.setNil⟩
    · rw [if_pos rfl]
      clear hlen hrows
      go_enter Tryz.func11, Tryz.ntmps11
      go_wp2_with fail
      refine (HCN.out).mono ?_
      rintro e w2 ⟨rfl, hf2, hm2⟩
      go_wp2_with fail
      go_ret
      exact ⟨rfl, v, hf2, hm2⟩
  · rw [hdn] at c7
    have e1 : rflushD p d = (d, 6) := by unfold rflushD; rw [if_pos hdn]
    rw [e1]
    clear e1 hdn HCN
    go_enter Tryz.func11, Tryz.ntmps11
    go_wp2_with fail
    go_ret
    exact ⟨rfl, v, h, FlMv.refl _ _ _ _⟩
end
end Go.Proofs.YtnhogmheedeeiaaGreat
/- The contracts of the reference's device: Crash, Rot. -/
namespace Go.Proofs.YtnhogmheedeeiaaGreat
open Go.RowKit
set_option linter.unusedVariables false
set_option maxRecDepth 20000

theorem crK_stay (p : Int) (img : List Nat) (row : Rw) (mask : List Int) (k : Nat) (h : mask.length ≤ k) : ∀ j, crK p img row mask (k + j) = crK p img row mask k
  | 0 => rfl
  | j + 1 => by
    rw [← Nat.add_assoc, crK]
    have e : mask.getD (k + j) 0 = 0 := by rw [List.getD_eq_getElem?_getD, List.getElem?_eq_none (by omega)]; rfl
    rw [e]
    split
    · rw [crOne, if_pos (by omega)]
      exact crK_stay p img row mask k h j
    · exact crK_stay p img row mask k h j
theorem tornK_nat {p m : Int} (hp : 32 ≤ p) (hm : 2 ≤ m) : ((tornK p m).toNat : Int) = 1 + (m - 2).tmod (p - 1) := by
  obtain ⟨t1, t2, t3⟩ := tornK_bd (p := p) (m := m) hp hm
  omega
section
variable {W : World} {g ib ic : Nat} {p s r : Int} {d : Dev} {v : Value}
def RRotPost (W : World) (g ib ic : Nat) (p s r : Int) (v : Value) (dc : Dev × Int) (e : Ending) (w' : World) : Prop := e = .returned (.int .i64 dc.2) ∧ RfX w' g ib ic p s r dc.1 v ∧ FlMv W w' g ib v v
end
end Go.Proofs.YtnhogmheedeeiaaGreat
/- The contract of the reference's NewFlash. -/
namespace Go.Proofs.YtnhogmheedeeiaaGreat
open Go.RowKit
set_option linter.unusedVariables false
set_option maxRecDepth 20000

theorem rsizeK (p s r : Int) (h : RightG p s r) (w : World) : Calls Tryz.prog 62 #[geo p s r] w fun e w' => e = .returned (.int .i64 (p * s * r)) ∧ Kp w w' :=
  (rsize_any p s r h w).mono fun _ _ ⟨he, hw⟩ => ⟨he, hw ▸ Kp.one _ _⟩
def RNewPost (w : World) (p s r : Int) (image : ByteArray) (e : Ending) (w' : World) : Prop :=
  ∃ g ib ic, e = .returned (.pointer (some ⟨g, 0, none⟩)) ∧ w.heap.size ≤ g ∧ w.heap.size ≤ ib ∧ RfX w' g ib ic p s r (newD p s r image) (.slice none 0 0) ∧ Kp w w'
set_option maxRecDepth 20000 in
set_option maxHeartbeats 1600000 in
theorem rnewf (p s r : Int) (h : RightG p s r) (image : ByteArray) (hl : (image.size : Int) ≤ p * s * r) (w : World) :
    Calls Tryz.prog 29 #[geo p s r, .string image] w (RNewPost w p s r image) := by
  obtain ⟨m1, m2, m3, m4⟩ := mul3 h
  have HG := Lib.hid (fun (W : World) (k : Kp (w.alloc (gob p s r)) W) => (Gat.new w p s r).keep k)
  have q1 : IntKind.i64.wrap (p * s * r - (image.size : Int)) = p * s * r - (image.size : Int) := IntWalk.i64_in _ (by omega)
  have hN0 : 0 ≤ p * s * r - (image.size : Int) := by omega
  have hN1 : p * s * r - (image.size : Int) ≤ 140737488351232 := by omega
  have HIM := Lib.hid (newD_img p s r image)
  have hlen2 : (image ++ fillS 255 (p * s * r - image.size).toNat).size = (newD p s r image).img.length := by
    rw [ByteArray.size_append, fillS_size]
    unfold newD
    simp only [List.length_append, List.length_replicate, nb_len]
  have HL2 := Lib.hid hlen2
  clear hlen2
  have HSZ := Lib.hid (fun W => rsizeK p s r h W)
  have HFI := Lib.hid (fun W => fill_any 255 (p * s * r - (image.size : Int)) (by omega) hN1 W)
  have hsum : image.size + (fillS 255 (p * s * r - (image.size : Int)).toNat).size ≤ 9223372036854775807 := by rw [fillS_size]; omega
  generalize (fillS 255 (p * s * r - (image.size : Int)).toNat) = fl at *
  have HLF : Hid (image.size + fl.size = (newD p s r image).img.length) := Lib.hid (by rw [← HL2.out, ByteArray.size_append])
  clear q1 hN0 hN1
  have HIS : Hid ((image ++ fl).size = image.size + fl.size) := Lib.hid ByteArray.size_append
  have hsum2 : ¬ (9223372036854775807 < image.size + fl.size) := by omega
  go_enter Tryz.func29, Tryz.ntmps29
  go_wp2_with fail
  have q1 : IntKind.i64.wrap (p * s * r - (image.size : Int)) = p * s * r - (image.size : Int) := IntWalk.i64_in _ (by omega)
  refine wp_region_rel (R := Kp) (C := fun W' => Kp (w.alloc (gob p s r)) W') (by kernel_rfl) (by kernel_rfl) (Kp.refl _).drew (fun _ _ h k => h.trans k) Kp.refl (fun _ _ _ h k => h.trans k) ?_
  repeat (refine wpRel_step (fun K hK => ?_); apply rel_eq; (case ob => (intro f W hW hd; (obtain ⟨g0, g1, g2⟩ := HG.out _ hW); (try simp [deps, factOf, Region.binds] at hd); unfold relOp; go_simp; (first | exact ⟨Kp.refl _, rfl⟩ | exact Kp.refl _ | (refine ⟨Kp.refl _, ?_⟩; (first | (go_at_call 62; refine (HSZ.out _).mono ?_; rintro e w' ⟨rfl, hk9⟩; exact ⟨rfl, hk9⟩) | (go_at_call 61; refine (HFI.out _).mono ?_; rintro e w' ⟨rfl, hk9⟩; exact ⟨rfl, hk9⟩)))))); go_simp; refine hK _ _ ?_; clear hK K)
  refine wpRel_step (fun K hK => ?_)
  apply rel_fact (fun v W => ∃ q c, v = .slice (some ⟨q, 0, none⟩) (image ++ fl).size c ∧ By W q (sb (image ++ fl)) ∧ w.heap.size < q ∧ (image ++ fl).size ≤ c) (fun v W W' hr ⟨q, c, h1, h2, h3⟩ => ⟨q, c, h1, h2.keep hr, h3⟩)
  case ob =>
    intro f W hW hd
    (obtain ⟨W1, c, hcv, hby, hkb, hsz, hcap⟩ := bytes_of2 W (image ++ fl) 9 Tryz.underlying9)
    (try simp [deps, factOf, Region.binds] at hd)
    unfold relOp
    go_simp
    (have hz9 := hW.size; simp at hz9; rw [ByteArray.size_append] at hcap; exact ⟨W.heap.size, c, ⟨rfl, rfl⟩, hby, by omega, hcap⟩)
  go_simp
  refine hK _ _ ?_
  clear hK K
  refine wpRel_step (fun K hK => ?_)
  apply rel_fact (fun v W => ∃ q c, v = .agg #[.int .i64 p, .int .i64 s, .int .i64 r, .slice (some ⟨q, 0, none⟩) (image ++ fl).size c, .slice none 0 0, .bool false, .int .i64 0, .bool false] ∧ By W q (sb (image ++ fl)) ∧ w.heap.size < q ∧ (image ++ fl).size ≤ c) (fun v W W' hr ⟨q, c, h1, h2, h3⟩ => ⟨q, c, h1, h2.keep hr, h3⟩)
  case ob =>
    intro f W hW hd
    (simp [deps, factOf, Region.binds] at hd; obtain ⟨e0, q, c, e9, hby, hq1, hq2⟩ := hd)
    (try simp [deps, factOf, Region.binds] at hd)
    unfold relOp
    go_simp
    exact ⟨Kp.refl _, q, c, ⟨rfl, rfl⟩, hby, hq1, hq2⟩
  go_simp
  refine hK _ _ ?_
  clear hK K
  refine wpRel_step (fun K hK => ?_)
  apply rel_fact (fun v W => ∃ g q c, v = .pointer (some ⟨g, 0, none⟩) ∧ Bk W g 58 [.int .i64 p, .int .i64 s, .int .i64 r, .slice (some ⟨q, 0, none⟩) (image.size + fl.size) c, .slice none 0 0, .bool false, .int .i64 0, .bool false] ∧ By W q (sb (image ++ fl)) ∧ w.heap.size < q ∧ q < g ∧ image.size + fl.size ≤ c) (fun v W W' hr ⟨g, q, c, h1, h2, h3, h4⟩ => ⟨g, q, c, h1, h2.keep hr, h3.keep hr, h4⟩)
  case ob =>
    intro f W hW hd
    (simp [deps, factOf, Region.binds] at hd; obtain ⟨q, c, e10, hby, hq1, hq2⟩ := hd; have hlt := hby.lt)
    (try simp [deps, factOf, Region.binds] at hd)
    unfold relOp
    go_simp
    exact ⟨Kp.one _ _, q, c, Bk.new _ _ _, hby.alloc _, hq1, hlt, hq2⟩
  go_simp
  refine hK _ _ ?_
  clear hK K
  refine wpRel_step (fun K hK => ?_)
  apply rel_fact (fun v W => ∃ g q c, v = .pointer (some ⟨g, 0, none⟩) ∧ Bk W g 58 [.int .i64 p, .int .i64 s, .int .i64 r, .slice (some ⟨q, 0, none⟩) (image.size + fl.size) c, .slice none 0 0, .bool false, .int .i64 0, .bool false] ∧ By W q (sb (image ++ fl)) ∧ w.heap.size < q ∧ q < g ∧ image.size + fl.size ≤ c) (fun v W W' hr ⟨g, q, c, h1, h2, h3, h4⟩ => ⟨g, q, c, h1, h2.keep hr, h3.keep hr, h4⟩)
  case ob =>
    intro f W hW hd
    (simp [deps, factOf, Region.binds] at hd; obtain ⟨g, q, c, e11, hbk, hby, hq1, hq2⟩ := hd)
    (try simp [deps, factOf, Region.binds] at hd)
    unfold relOp
    go_simp
    first | exact Kp.refl _ | exact ⟨Kp.refl _, q, c, hbk, hby, hq1, hq2⟩
  go_simp
  refine hK _ _ ?_
  clear hK K
  refine wpRel_nil ?_
  intro f W' hW hall
  obtain ⟨g, h12, q, c, hbk, hby, hq1, hq2, hq3⟩ := allF_get hall 12 _ rfl
  rw [Nat.zero_add] at h12
  clear hall
  dsimp only
  rw [h12]
  go_wp2_with fail
  refine bodyPost_ret (v := .pointer (some ⟨g, 0, none⟩)) (by simp [results, Tryz.results29, go_sem]) rfl ?_
  rw [HLF.out] at hbk hq3
  refine ⟨g, q, c, rfl, by omega, by omega, ⟨hbk, ?_, World.ownsRow_nil _ _ _ _, by omega, hq3, ?_⟩, (Kp.one w (gob p s r)).trans hW⟩
  · rw [HIM.out]
    exact hby
  · intro k hk
    simp [Value.ownBlock] at hk
end Go.Proofs.YtnhogmheedeeiaaGreat
/- The contracts of the reference's device: Program, Erase. -/
namespace Go.Proofs.YtnhogmheedeeiaaGreat
open Go.RowKit
set_option linter.unusedVariables false
set_option maxRecDepth 20000

theorem pend_mem (page : Int) (b : ByteArray) : ∀ (row : Rw), pend row page = some b → ∃ x ∈ row, x.2 = b := by
  intro row
  have key : ∀ (l : Rw) (acc : Option ByteArray), l.foldl (fun acc x => if x.1 = page then some x.2 else acc) acc = some b → acc = some b ∨ ∃ x ∈ l, x.2 = b := by
    intro l
    induction l with
    | nil => intro acc h; exact Or.inl h
    | cons x l ih =>
      intro acc h
      rw [List.foldl_cons] at h
      rcases ih _ h with h1 | ⟨y, hy, e⟩
      · split at h1
        · injection h1 with h1
          exact Or.inr ⟨x, List.mem_cons_self .., h1⟩
        · exact Or.inl h1
      · exact Or.inr ⟨y, List.mem_cons_of_mem _ hy, e⟩
  intro h
  rcases key row none h with h1 | h1
  · cases h1
  · exact h1
theorem heldD_size {p s r : Int} {d : Dev} (ok : DevOk p s r d) (page : Int) (h0 : 0 ≤ page) (h1 : page < s * r) : ((heldD d p page).size : Int) = p := by
  unfold heldD
  cases hp : pend d.row page with
  | some b =>
    obtain ⟨x, hx, e⟩ := pend_mem page b d.row hp
    have := (ok.rows x hx).2.2
    rw [e] at this
    exact this
  | none =>
    obtain ⟨b1, b2, b3, b4, b5⟩ := page_bd ok.right h0 h1
    have hlen := ok.len
    have hp := ok.right.1
    have e1 : (page * p).toNat = page.toNat * p.toNat := by rw [Int.toNat_mul h0 (by omega)]
    show ((strN (pgN d.img p.toNat page.toNat)).size : Int) = p
    rw [strN_size, pgN_len _ _ _ (by omega)]
    omega
def rprogramD (p s r : Int) (d : Dev) (page : Int) (b : ByteArray) : Dev × Int :=
  if d.down = true then (d, 6)
  else if page < 0 ∨ s * r ≤ page ∨ (b.size : Int) ≠ p then (d, 1)
  else if (pendV d.row page).2 = true ∨ blankB (heldD d p page) = false then (d, 7)
  else ({ (rcountD d).1 with row := (rcountD d).1.row ++ [(page, b)] }, if (rcountD d).2 = true then 6 else 0)
theorem info_wait : (Tryz.prog.info? 74).map (fun i => (i.zero, i.size, i.bytes)) = some (some (.agg #[.int .i64 0, .string ⟨#[]⟩]), 2, 24) := by kernel_rfl
section
variable {W : World} {g ib ic : Nat} {p s r : Int} {d : Dev} {v : Value}
set_option maxRecDepth 20000 in
set_option maxHeartbeats 3200000 in
theorem rprogram (h : RfX W g ib ic p s r d v) (ok : DevOk p s r d) (page : Int) (b : ByteArray) (hb : b.size ≤ 9223372036854775807) :
    Calls Tryz.prog 52 #[.pointer (some ⟨g, 0, none⟩), .int .i64 page, .string b] W (RfPost W g ib ic p s r v (rprogramD p s r d page b)) := by
  have HPP := Lib.hid (rpages h ok.right)
  have HC := Lib.hid (fun W' (k : Kp W W') => (h.keep k).c8)
  have HWT := Lib.hid (fun W' (k : Kp W W') => rwaits (h.keep k) (by have := ok.rl; omega) page)
  have HCT := Lib.hid (fun W' (k : Kp W W') => rcount (h.keep k) ok.left)
  have hrl := ok.rl
  obtain ⟨c0, c1, c2, c3, c4, c5, c6, c7⟩ := h.c8
  rcases hdn : d.down with _ | _
  · rw [hdn] at c7
    have hcases : page < 0 ∨ (0 ≤ page ∧ s * r ≤ page) ∨ (0 ≤ page ∧ page < s * r ∧ (b.size : Int) ≠ p) ∨ (0 ≤ page ∧ page < s * r ∧ (b.size : Int) = p) := by omega
    rcases hcases with hc | ⟨hc1, hc⟩ | ⟨hc1, hc2, hc⟩ | ⟨hc1, hc2, hc⟩
    · have e1 : rprogramD p s r d page b = (d, 1) := by unfold rprogramD; rw [if_neg (by rw [hdn]; simp), if_pos (Or.inl hc)]
      rw [e1]
      clear e1 hdn
      go_enter Tryz.func52, Tryz.ntmps52
      go_wp2_with fail
      go_ret
      exact ⟨rfl, v, h, FlMv.refl _ _ _ _⟩
    · have e1 : rprogramD p s r d page b = (d, 1) := by unfold rprogramD; rw [if_neg (by rw [hdn]; simp), if_pos (Or.inr (Or.inl hc))]
      rw [e1]
      have hd : decide (s * r ≤ page) = true := by simpa using hc
      clear e1 hdn
      go_enter Tryz.func52, Tryz.ntmps52
      go_wp2_with fail
      refine (HPP.out).mono ?_
      rintro e w1 ⟨rfl, hk1⟩
      go_wp2_with fail
      go_ret
      exact ⟨rfl, v, h.keep hk1, FlMv.of hk1⟩
    · have e1 : rprogramD p s r d page b = (d, 1) := by unfold rprogramD; rw [if_neg (by rw [hdn]; simp), if_pos (Or.inr (Or.inr hc))]
      rw [e1]
      have hd : decide (s * r ≤ page) = false := by simp; omega
      have hd2 : ((b.size : Int) != p) = true := by simp [hc]
      clear e1 hdn hc
      go_enter Tryz.func52, Tryz.ntmps52
      go_wp2_with fail
      refine (HPP.out).mono ?_
      rintro e w1 ⟨rfl, hk1⟩
      clear c0 c1 c2 c3 c4 c5 c6 c7
      obtain ⟨c0, c1, c2, c3, c4, c5, c6, c7⟩ := HC.out _ hk1
      go_wp2_with fail
      go_ret
      exact ⟨rfl, v, h.keep hk1, FlMv.of hk1⟩
    · have e1 : rprogramD p s r d page b = if (pendV d.row page).2 = true ∨ blankB (heldD d p page) = false then (d, 7) else ({ (rcountD d).1 with row := (rcountD d).1.row ++ [(page, b)] }, if (rcountD d).2 = true then 6 else 0) := by
        unfold rprogramD; rw [if_neg (by rw [hdn]; simp), if_neg (by omega)]
      rw [e1]
      have HHE := Lib.hid (fun W' (k : Kp W W') => rheld (h.keep k) ok page hc1 hc2)
      have hhs := heldD_size ok page hc1 hc2
      have hp9 := ok.right
      unfold RightG at hp9
      have HBL := Lib.hid (fun W => rblank_any (heldD d p page) (by omega) W)
      have hd : decide (s * r ≤ page) = false := by simp; omega
      have hd2 : ((b.size : Int) != p) = false := by simp [hc]
      obtain ⟨si, sr⟩ := rcountD_same d
      unfold RCountPost at HCT
      generalize rcountD d = cd at *
      obtain ⟨cd, cb⟩ := cd
      dsimp only at si sr HCT ⊢
      generalize heldD d p page = old at *
      generalize (pendV d.row page).2 = pf at *
      have hcr : cd.row.length ≤ 100000 := by rw [sr]; exact hrl
      clear e1 hdn hc hhs hp9 si sr
      rcases pf with _ | _
      · generalize hbb : blankB old = bb at *
        have HBB := Lib.hid hbb
        clear hbb
        rcases bb with _ | _
        · rw [if_pos (Or.inr rfl)]
          go_enter Tryz.func52, Tryz.ntmps52
          go_wp2_with fail
          refine (HPP.out).mono ?_
          rintro e w1 ⟨rfl, hk1⟩
          clear c0 c1 c2 c3 c4 c5 c6 c7
          obtain ⟨c0, c1, c2, c3, c4, c5, c6, c7⟩ := HC.out _ hk1
          go_wp2_with fail
          refine (HWT.out _ hk1).mono ?_
          rintro e w2 ⟨rfl, hk2⟩
          go_wp2_with fail
          refine (HHE.out _ (hk1.trans hk2)).mono ?_
          rintro e w3 ⟨rfl, hk3⟩
          go_wp2_with fail
          refine (HBL.out _).mono ?_
          rintro e w4 ⟨rfl, rfl⟩
          have hK := (hk1.trans hk2).trans hk3
          go_wp2_with fail
          go_ret
          exact ⟨rfl, v, h.keep hK, FlMv.of hK⟩
        · rw [if_neg (by simp)]
          generalize hcode : (if cb = true then (6 : Int) else 0) = code
          have HCO := Lib.hid hcode
          clear hcode
          go_enter Tryz.func52, Tryz.ntmps52
          go_wp2_with fail
          refine (HPP.out).mono ?_
          rintro e w1 ⟨rfl, hk1⟩
          clear c0 c1 c2 c3 c4 c5 c6 c7
          obtain ⟨c0, c1, c2, c3, c4, c5, c6, c7⟩ := HC.out _ hk1
          go_wp2_with fail
          refine (HWT.out _ hk1).mono ?_
          rintro e w2 ⟨rfl, hk2⟩
          go_wp2_with fail
          refine (HHE.out _ (hk1.trans hk2)).mono ?_
          rintro e w3 ⟨rfl, hk3⟩
          go_wp2_with fail
          refine (HBL.out _).mono ?_
          rintro e w4 ⟨rfl, rfl⟩
          have hK := (hk1.trans hk2).trans hk3
          go_wp2_with fail
          refine (HCT.out _ hK).mono ?_
          rintro e w5 ⟨rfl, hf5, hm5⟩
          have hM5 := (FlMv.of (v := v) (g := g) (ib := ib) hK).trans hm5
          clear c0 c1 c2 c3 c4 c5 c6 c7
          have c4 := hf5.c8.2.2.2.2.1
          have hown5 := own_keep hf5.own (Kp.one w5 (.cells #[.int .i64 page, .string b] 74))
          have HPU := Lib.hid (fun w' v' a1 a2 a3 => hf5.push (Kp.one w5 (.cells #[.int .i64 page, .string b] 74)) (x := (page, b)) (w' := w') (v' := v') a1 a2 a3)
          have hco := HCO.out
          rcases cb with _ | _
          · have : code = 0 := by rw [← hco]; rfl
            subst this
            clear hco
            go_wp2_with (at_builtin; refine wpList_app0 rfl _ _ _ rfl (.agg #[.int .i64 0, .string ⟨#[]⟩]) 24 Tryz.underlying56 info_wait rfl (by decide) (by decide) rfl hown5 (some ⟨w5.heap.size, 0, none⟩) 1 1 [.int .i64 page, .string b] rfl rfl (src_two _ _ _ _ _ rfl) (by simp [Value.oneCell']) (by omega) ?_; intro v1 w6 hown1 hg1 hat1; obtain ⟨A1, c1, rfl⟩ := own_slice hown1; obtain ⟨z1, z2, z3, z4⟩ := HPU.out w6 _ hown1 hg1 hat1; have f4 := z1 4; have HZ3 := Lib.hid z3; have HZ4 := Lib.hid z4; clear z1 z3 z4 hg1 hat1 hown1 HPU HC)
            go_ret
            exact ⟨rfl, _, HZ3.out, hM5.trans HZ4.out⟩
          · have : code = 6 := by rw [← hco]; rfl
            subst this
            clear hco
            go_wp2_with (at_builtin; refine wpList_app0 rfl _ _ _ rfl (.agg #[.int .i64 0, .string ⟨#[]⟩]) 24 Tryz.underlying56 info_wait rfl (by decide) (by decide) rfl hown5 (some ⟨w5.heap.size, 0, none⟩) 1 1 [.int .i64 page, .string b] rfl rfl (src_two _ _ _ _ _ rfl) (by simp [Value.oneCell']) (by omega) ?_; intro v1 w6 hown1 hg1 hat1; obtain ⟨A1, c1, rfl⟩ := own_slice hown1; obtain ⟨z1, z2, z3, z4⟩ := HPU.out w6 _ hown1 hg1 hat1; have f4 := z1 4; have HZ3 := Lib.hid z3; have HZ4 := Lib.hid z4; clear z1 z3 z4 hg1 hat1 hown1 HPU HC)
            go_ret
            exact ⟨rfl, _, HZ3.out, hM5.trans HZ4.out⟩
      · rw [if_pos (Or.inl rfl)]
        go_enter Tryz.func52, Tryz.ntmps52
        go_wp2_with fail
        refine (HPP.out).mono ?_
        rintro e w1 ⟨rfl, hk1⟩
        clear c0 c1 c2 c3 c4 c5 c6 c7
        obtain ⟨c0, c1, c2, c3, c4, c5, c6, c7⟩ := HC.out _ hk1
        go_wp2_with fail
        refine (HWT.out _ hk1).mono ?_
        rintro e w2 ⟨rfl, hk2⟩
        go_wp2_with fail
        go_ret
        exact ⟨rfl, v, h.keep (hk1.trans hk2), FlMv.of (hk1.trans hk2)⟩
  · rw [hdn] at c7
    have e1 : rprogramD p s r d page b = (d, 6) := by unfold rprogramD; rw [if_pos hdn]
    rw [e1]
    clear e1 hdn
    go_enter Tryz.func52, Tryz.ntmps52
    go_wp2_with fail
    go_ret
    exact ⟨rfl, v, h, FlMv.refl _ _ _ _⟩
end
end Go.Proofs.YtnhogmheedeeiaaGreat
/- The contracts of the reference's device: Erase. -/
namespace Go.Proofs.YtnhogmheedeeiaaGreat
open Go.RowKit
set_option linter.unusedVariables false
set_option maxRecDepth 20000

def reraseD (p s r : Int) (d : Dev) (region : Int) : Dev × Int :=
  if d.down = true then (d, 6) else if region < 0 ∨ r ≤ region then (d, 1)
  else if ∃ x ∈ d.row, inReg s region x then (d, 7)
  else if (rcountD d).2 = true then ({ (rcountD d).1 with row := (rcountD d).1.row ++ newRows p (region * s) s.toNat }, 6)
  else ({ (rcountD d).1 with img := doAll p (rcountD d).1.img (newRows p (region * s) s.toNat) }, 0)
section
variable {W : World} {g ib ic : Nat} {p s r : Int} {d : Dev} {v : Value}
theorem blankS_fill (p : Int) : fillS 255 p.toNat = blankS p := rfl
set_option maxRecDepth 20000 in
set_option maxHeartbeats 6400000 in
theorem rerase (h : RfX W g ib ic p s r d v) (ok : DevOk p s r d) (region : Int) :
    Calls Tryz.prog 43 #[.pointer (some ⟨g, 0, none⟩), .int .i64 region] W (RfPost W g ib ic p s r v (reraseD p s r d region)) := by
  have HCN := Lib.hid (fun W' (k : Kp W W') => rcount (h.keep k) ok.left)
  have HC := Lib.hid (fun W' (k : Kp W W') => (h.keep k).c8)
  have hrl := ok.rl
  obtain ⟨c0, c1, c2, c3, c4, c5, c6, c7⟩ := h.c8
  rcases hdn : d.down with _ | _
  · rw [hdn] at c7
    have hR := ok.right
    have hcases : region < 0 ∨ (0 ≤ region ∧ r ≤ region) ∨ (0 ≤ region ∧ region < r) := by omega
    rcases hcases with hc | ⟨hc1, hc⟩ | ⟨hc1, hc⟩
    · have e1 : reraseD p s r d region = (d, 1) := by unfold reraseD; rw [if_neg (by rw [hdn]; simp), if_pos (Or.inl hc)]
      rw [e1]
      clear e1 hdn HCN
      go_enter Tryz.func43, Tryz.ntmps43
      go_wp2_with fail
      go_ret
      exact ⟨rfl, v, h, FlMv.refl _ _ _ _⟩
    · have e1 : reraseD p s r d region = (d, 1) := by unfold reraseD; rw [if_neg (by rw [hdn]; simp), if_pos (Or.inr hc)]
      rw [e1]
      clear e1 hdn HCN
      go_enter Tryz.func43, Tryz.ntmps43
      go_wp2_with fail
      go_ret
      exact ⟨rfl, v, h, FlMv.refl _ _ _ _⟩
    · obtain ⟨b1, b2, b3, b4, b5⟩ := reg_bd hR hc1 hc
      have E7 : (∃ x ∈ d.row, inReg s region x) → reraseD p s r d region = (d, 7) := by
        intro hx
        unfold reraseD
        rw [if_neg (by rw [hdn]; simp), if_neg (by omega), if_pos hx]
      have E0 : (¬ ∃ x ∈ d.row, inReg s region x) → reraseD p s r d region = if (rcountD d).2 = true then ({ (rcountD d).1 with row := (rcountD d).1.row ++ newRows p (region * s) s.toNat }, 6)
          else ({ (rcountD d).1 with img := doAll p (rcountD d).1.img (newRows p (region * s) s.toNat) }, 0) := by
        intro hx
        unfold reraseD
        rw [if_neg (by rw [hdn]; simp), if_neg (by omega), if_neg hx]
      obtain ⟨si, sr⟩ := rcountD_same d
      have hlen := ok.len
      unfold RCountPost at HCN
      generalize rcountD d = cd at *
      obtain ⟨c, cb⟩ := cd
      generalize reraseD p s r d region = er at *
      have H7 := Lib.hid E7
      have H0 := Lib.hid E0
      have HSI := Lib.hid si
      have HSR := Lib.hid sr
      have HLN := Lib.hid hlen
      have HRW := Lib.hid h.rows
      clear E7 E0 hdn si sr hlen ok
      have q1 : IntKind.i64.wrap (region * s) = region * s := IntWalk.i64_in _ (by omega)
      have q2 : IntKind.i64.wrap (region * s + s) = region * s + s := IntWalk.i64_in _ (by omega)
      have hINR : ∀ x : Int × ByteArray, inReg s region x ↔ region * s ≤ x.1 ∧ x.1 < region * s + s := fun x => Iff.rfl
      have HIN := Lib.hid hINR
      clear hINR
      generalize hfr : region * s = fr at *
      have q3 : IntKind.i64.wrap (region * s) = fr := by rw [hfr]; exact q1
      have HFR := Lib.hid hfr
      clear hfr
      obtain ⟨A, cc, hv, -⟩ := HRW.out
      have HV := Lib.hid hv
      go_enter Tryz.func43, Tryz.ntmps43
      go_wp2_with fail
      have HRO := Lib.hid (fun W' (k : Kp W W') => (h.keep k).rows)
      rw [hv] at c4
      clear hv HRW
      go_wp2_with fail
      go_loopw [6] (fun i wr => ∃ k : Nat, k ≤ d.row.length ∧ i = .int .i64 k ∧ Kp W wr ∧ ∀ j (hj : j < d.row.length), j < k → ¬ inReg s region d.row[j]) (fun i _ => d.row.length - (intOf i).toNat)
      case atStart => exact ⟨0, by omega, rfl, Kp.refl _, fun j hj h0 => absurd h0 (by omega)⟩
      case round =>
        obtain ⟨k, hk, rfl, hkr, hno⟩ := hrel
        have HNO := Lib.hid hno
        clear hno c0 c1 c2 c3 c4 c5 c6 c7
        have HC1 := Lib.hid (fun W' (k : Kp wr W') => HC.out _ (hkr.trans k))
        obtain ⟨c0, c1, c2, c3, c4, c5, c6, c7⟩ := HC.out _ hkr
        rw [HV.out] at c4
        by_cases hlt : k < d.row.length
        · obtain ⟨A', cc', hv', hrw⟩ := HRO.out _ hkr
          have hAA : A' = A := by rw [HV.out] at hv'; injection hv' with e1; exact e1.symm
          subst hAA
          obtain ⟨q, hq, e1, e2⟩ := hrw k hlt
          subst hq
          clear hv' hrw
          have hin := HIN.out d.row[k]
          have hmem := List.getElem_mem hlt
          have HME := Lib.hid hmem
          clear hmem
          generalize hx : d.row[k] = x at *
          obtain ⟨pg, bb⟩ := x
          have HX := Lib.hid hx
          clear hx
          dsimp only at e1 e2 hin
          have HNB := Lib.hid (fun W' (kk : Kp wr W') => And.intro (kk.cell e1) (HC1.out _ kk))
          have dl : (k : Int) < (d.row.length : Int) := by omega
          clear e2
          have hcs : (pg < fr) ∨ (fr ≤ pg ∧ fr + s ≤ pg) ∨ (fr ≤ pg ∧ pg < fr + s) := by omega
          rcases hcs with hq1 | ⟨hq1, hq2⟩ | ⟨hq1, hq2⟩
          · have d1 : decide (fr ≤ pg) = false := by simp; omega
            have HNI : Hid (¬ inReg s region (pg, bb)) := Lib.hid (fun hh => by have := hin.1 hh; omega)
            clear hin
            go_wp2_with fail
            clear e1 c0 c1 c2 c3 c4 c5 c6 c7
            have hInh := fun (x v : Value) => (⟨fun h => h _ ((Kp.refl _).drew), fun h _ _ => h⟩ : (∀ Wz9, (fun W' => Kp wr W') Wz9 → x = v) ↔ x = v)
            dsimp only at hInh
            refine wp_region_quietC (C := fun W' => Kp wr W') (by kernel_rfl) (by kernel_rfl) ((Kp.refl _).drew) ?_
            repeat (first | go_big_quiet_step ((intro hW; first | fail | (with_reducible rfl) | (obtain ⟨n0, c0, c1, c2, c3, c4, c5, c6, c7⟩ := HNB.out _ hW; rw [HV.out] at c4; (try go_simp); first | done | with_reducible rfl | exact ⟨rfl, rfl⟩))) | quiet_step ((intro hW; first | fail | (with_reducible rfl) | (obtain ⟨n0, c0, c1, c2, c3, c4, c5, c6, c7⟩ := HNB.out _ hW; rw [HV.out] at c4; (try go_simp); first | done | with_reducible rfl | exact ⟨rfl, rfl⟩))))
            refine wpQuiet_nil ?_
            intro wq hwq
            clear hInh
            go_wp2_with fail
            go_roundw
            case rel => exact ⟨k + 1, by omega, by go_num, hkr.trans hwq, fun j hj hjk => by
              rcases Nat.lt_or_ge j k with h9 | h9
              · exact HNO.out j hj h9
              · have : j = k := by omega
                subst this
                rw [HX.out]
                exact HNI.out⟩
            case measure => simp [intOf]; omega
          · have d1 : decide (fr ≤ pg) = true := by simpa using hq1
            have d2 : decide (pg < fr + s) = false := by simp; omega
            have HNI : Hid (¬ inReg s region (pg, bb)) := Lib.hid (fun hh => by have := hin.1 hh; omega)
            clear hin
            go_wp2_with fail
            clear e1 c0 c1 c2 c3 c4 c5 c6 c7
            have hInh := fun (x v : Value) => (⟨fun h => h _ ((Kp.refl _).drew), fun h _ _ => h⟩ : (∀ Wz9, (fun W' => Kp wr W') Wz9 → x = v) ↔ x = v)
            dsimp only at hInh
            refine wp_region_quietC (C := fun W' => Kp wr W') (by kernel_rfl) (by kernel_rfl) ((Kp.refl _).drew) ?_
            repeat (first | go_big_quiet_step ((intro hW; first | fail | (with_reducible rfl) | (obtain ⟨n0, c0, c1, c2, c3, c4, c5, c6, c7⟩ := HNB.out _ hW; rw [HV.out] at c4; (try go_simp); first | done | with_reducible rfl | exact ⟨rfl, rfl⟩))) | quiet_step ((intro hW; first | fail | (with_reducible rfl) | (obtain ⟨n0, c0, c1, c2, c3, c4, c5, c6, c7⟩ := HNB.out _ hW; rw [HV.out] at c4; (try go_simp); first | done | with_reducible rfl | exact ⟨rfl, rfl⟩))))
            refine wpQuiet_nil ?_
            intro wq hwq
            clear hInh
            go_wp2_with fail
            go_roundw
            case rel => exact ⟨k + 1, by omega, by go_num, hkr.trans hwq, fun j hj hjk => by
              rcases Nat.lt_or_ge j k with h9 | h9
              · exact HNO.out j hj h9
              · have : j = k := by omega
                subst this
                rw [HX.out]
                exact HNI.out⟩
            case measure => simp [intOf]; omega
          · have d1 : decide (fr ≤ pg) = true := by simpa using hq1
            have d2 : decide (pg < fr + s) = true := by simpa using hq2
            have HYI : Hid (inReg s region (pg, bb)) := Lib.hid (hin.2 ⟨hq1, hq2⟩)
            clear hin
            go_wp2_with fail
            clear e1 c0 c1 c2 c3 c4 c5 c6 c7
            have hInh := fun (x v : Value) => (⟨fun h => h _ ((Kp.refl _).drew), fun h _ _ => h⟩ : (∀ Wz9, (fun W' => Kp wr W') Wz9 → x = v) ↔ x = v)
            dsimp only at hInh
            refine wp_region_quietC (C := fun W' => Kp wr W') (by kernel_rfl) (by kernel_rfl) ((Kp.refl _).drew) ?_
            repeat (first | go_big_quiet_step ((intro hW; first | fail | (with_reducible rfl) | (obtain ⟨n0, c0, c1, c2, c3, c4, c5, c6, c7⟩ := HNB.out _ hW; rw [HV.out] at c4; (try go_simp); first | done | with_reducible rfl | exact ⟨rfl, rfl⟩))) | quiet_step ((intro hW; first | fail | (with_reducible rfl) | (obtain ⟨n0, c0, c1, c2, c3, c4, c5, c6, c7⟩ := HNB.out _ hW; rw [HV.out] at c4; (try go_simp); first | done | with_reducible rfl | exact ⟨rfl, rfl⟩))))
            refine wpQuiet_nil ?_
            intro wq hwq
            clear hInh
            go_wp2_with fail
            go_ret
            have hkf := hkr.trans hwq
            rw [H7.out ⟨_, HME.out, HYI.out⟩]
            exact ⟨rfl, v, h.keep hkf, by first | exact FlMv.of hkf | (rw [HV.out]; exact FlMv.of hkf)⟩
        · have hno : ¬ ∃ x ∈ d.row, inReg s region x := by
            rintro ⟨x, hx, hin⟩
            obtain ⟨j, hj, rfl⟩ := List.mem_iff_getElem.1 hx
            exact HNO.out j hj (by omega) hin
          have HE := Lib.hid (H0.out hno)
          clear hno H0 H7 HNO HIN
          have hp0 : 0 ≤ p := by have := hR; unfold RightG at this; omega
          go_wp2_with fail
          refine (HCN.out _ hkr).mono ?_
          rintro e w2 ⟨rfl, hf2, hm2⟩
          have hM2 := (FlMv.of (v := v) (g := g) (ib := ib) hkr).trans hm2
          clear c0 c1 c2 c3 c4 c5 c6 c7
          obtain ⟨c0, c1, c2, c3, c4, c5, c6, c7⟩ := hf2.c8
          clear hm2 HCN HC HC1 HRO hkr
          have hzf : ∀ k : Nat, (k : Int) ≤ s → IntKind.i64.wrap (fr + (k : Int)) = fr + (k : Int) := fun k hk => IntWalk.i64_in _ (by omega)
          have HZF := Lib.hid hzf
          clear hzf
          rcases cb with _ | _
          · rw [if_neg (by simp)] at HE
            go_wp2_with fail
            go_loopw [8] (fun i wr => ∃ k : Nat, (k : Int) ≤ s ∧ i = .int .i64 (fr + (k : Int)) ∧ RfX wr g ib ic p s r { c with img := doAll p c.img (newRows p fr k) } v ∧ FlMv W wr g ib v v) (fun i _ => (fr + s - intOf i).toNat)
            case atStart => exact ⟨0, by omega, by simp, hf2, hM2⟩
            case round =>
              obtain ⟨k, hk, rfl, hfr, hMr⟩ := hrel
              clear hf2 hM2 c0 c1 c2 c3 c4 c5 c6 c7 hlt
              obtain ⟨c0, c1, c2, c3, c4, c5, c6, c7⟩ := hfr.c8
              by_cases hlt : (k : Int) < s
              · have HBL := Lib.hid (fun W => fill_any 255 p (by omega) (by unfold RightG at hR; omega) W)
                rw [blankS_fill] at HBL
                have hl2 : ((doAll p c.img (newRows p fr k)).length : Int) = p * s * r := by
                  rw [doAll_len hR _ _ (by rw [HSI.out]; exact HLN.out) (newRows_mem hp0 (by omega) (by omega)), HSI.out]
                  exact HLN.out
                have hbsz : ((blankS p).size : Int) = p := by rw [blankS_size]; omega
                have HCR := Lib.hid (fun W' (kk : Kp wr W') => (hfr.keep kk).c8)
                have HDO := Lib.hid (fun W' (kk : Kp wr W') => rdoneA (hfr.keep kk) hR hl2 (fr + (k : Int)) (by omega) (by omega) (blankS p) hbsz)
                have HMQ := Lib.hid (fun W' (kk : Kp wr W') => hMr.trans (FlMv.of (v := v) (g := g) (ib := ib) kk))
                have HST : Hid (doAll p c.img (newRows p fr (k + 1)) = doD p (doAll p c.img (newRows p fr k)) (fr + (k : Int)) (blankS p)) := Lib.hid (by rw [newRows_succ, doAll_app])
                have q9 : IntKind.i64.wrap (fr + (k : Int) + 1) = fr + (k : Int) + 1 := IntWalk.i64_in _ (by omega)
                have d9 : decide (fr + (k : Int) < fr + s) = true := by simp; omega
                clear hl2 hbsz
                generalize blankS p = bl at *
                go_wp2_with fail
                refine wp_region_relH (R := Kp) (C := fun W' => Kp wr W') 14 (by kernel_rfl) (by kernel_rfl) (Kp.refl wr).drew (fun _ _ h k => h.trans k) Kp.refl (fun _ _ _ h k => h.trans k) ?_
                simp only [List.take_succ_cons, List.take_zero, List.drop_succ_cons, List.drop_zero]
                clear c0 c1 c2 c3 c4 c5 c6 c7
                repeat (refine wpRel_step (fun K hK => ?_); apply rel_eq; (case ob => (intro f W hW hd; (obtain ⟨c0, c1, c2, c3, c4, c5, c6, c7⟩ := HCR.out _ hW); (try simp [deps, factOf, Region.binds] at hd); unfold relOp; go_simp; (first | exact ⟨Kp.refl _, rfl⟩ | exact Kp.refl _ | (refine ⟨Kp.refl _, ?_⟩; (go_at_call 61; refine (HBL.out _).mono ?_; rintro e w' ⟨rfl, hk9⟩; exact ⟨rfl, hk9⟩))))); go_simp; refine hK _ _ ?_; clear hK K)
                refine wpRel_nil ?_
                intro f W' hW hall
                have h0 : f 0 = .pointer (some ⟨g, 0, none⟩) := allF_get hall 0 _ rfl
                have h8 : f 8 = .agg #[.int .i64 (fr + (k : Int)), .string bl] := allF_get hall 8 _ rfl
                have h13 : f 13 = .int .i64 p := allF_get hall 13 _ rfl
                clear hall HCR
                dsimp only
                rw [h0, h8, h13]
                have HD5 := Lib.hid (HDO.out _ hW)
                have HM5 := Lib.hid (HMQ.out _ hW)
                clear h0 h8 h13 HDO HMQ
                go_wp2_with fail
                refine (HD5.out).mono ?_
                rintro e w5 ⟨rfl, hf5, hm5⟩
                have hM6 := HM5.out.trans hm5
                go_wp2_with fail
                go_roundw
                case rel => exact ⟨k + 1, by omega, by go_num, by rw [HST.out]; exact hf5, hM6⟩
                case measure => simp [intOf]; omega
              · have hke : k = s.toNat := by omega
                subst hke
                have d9 : decide (fr + ((s.toNat : Nat) : Int) < fr + s) = false := by simp; omega
                go_wp2_with fail
                go_ret
                rw [HE.out]
                exact ⟨rfl, _, hfr, hMr⟩
          · rw [if_pos rfl] at HE
            go_wp2_with fail
            go_loopw [8] (fun i wr => ∃ (k : Nat) (v' : Value), (k : Int) ≤ s ∧ i = .int .i64 (fr + (k : Int)) ∧ RfX wr g ib ic p s r { c with row := c.row ++ newRows p fr k } v' ∧ FlMv W wr g ib v v') (fun i _ => (fr + s - intOf i).toNat)
            case atStart => exact ⟨0, v, by omega, by simp, by rw [show newRows p fr 0 = [] from rfl, List.append_nil]; exact hf2, hM2⟩
            case round =>
              obtain ⟨k, v', hk, rfl, hfr, hMr⟩ := hrel
              clear hf2 hM2 c0 c1 c2 c3 c4 c5 c6 c7 hlt
              obtain ⟨c0, c1, c2, c3, c4, c5, c6, c7⟩ := hfr.c8
              by_cases hlt : (k : Int) < s
              · have HBL := Lib.hid (fun W => fill_any 255 p (by omega) (by unfold RightG at hR; omega) W)
                rw [blankS_fill] at HBL
                have HCR := Lib.hid (fun W' (kk : Kp wr W') => (hfr.keep kk).c8)
                have HOW := Lib.hid (fun W' (kk : Kp wr W') => (hfr.keep kk).own)
                have hnl : (c.row ++ newRows p fr k).length ≤ 100010 := by rw [List.length_append, newRows_len, HSR.out]; omega
                have HNL := Lib.hid hnl
                have HPU := Lib.hid (fun W' (kk : Kp wr W') w' v9 a1 a2 a3 => hfr.push kk (x := (fr + (k : Int), blankS p)) (w' := w') (v' := v9) a1 a2 a3)
                have HST : Hid ((c.row ++ newRows p fr k) ++ [(fr + (k : Int), blankS p)] = c.row ++ newRows p fr (k + 1)) := Lib.hid (by rw [newRows_succ, List.append_assoc])
                have q9 : IntKind.i64.wrap (fr + (k : Int) + 1) = fr + (k : Int) + 1 := IntWalk.i64_in _ (by omega)
                have d9 : decide (fr + (k : Int) < fr + s) = true := by simp; omega
                clear hnl
                generalize blankS p = bl at *
                go_wp2_with fail
                refine wp_region_relF (R := Kp) (C := fun W' => Kp wr W') 14 rfl rfl rfl (by kernel_rfl) (by kernel_rfl) (fun _ _ _ h => h) (Kp.refl wr).drew (fun _ _ h k => h.trans k) Kp.refl (fun _ _ _ h k => h.trans k) ?_
                simp only [List.take_succ_cons, List.take_zero, List.drop_succ_cons, List.drop_zero]
                clear c0 c1 c2 c3 c4 c5 c6 c7
                repeat (refine wpRel_step (fun K hK => ?_); apply rel_eq; (case ob => (intro f W hW hd; (obtain ⟨c0, c1, c2, c3, c4, c5, c6, c7⟩ := HCR.out _ hW); (try simp [deps, factOf, Region.binds] at hd); unfold relOp; go_simp; (first | exact ⟨Kp.refl _, rfl⟩ | exact Kp.refl _ | (refine ⟨Kp.refl _, ?_⟩; (go_at_call 61; refine (HBL.out _).mono ?_; rintro e w' ⟨rfl, hk9⟩; exact ⟨rfl, hk9⟩))))); go_simp; refine hK _ _ ?_; clear hK K)
                refine wpRel_step (fun K hK => ?_)
                apply rel_fact (fun v W => ∃ q, v = .slice (some ⟨q, 0, none⟩) 1 1 ∧ Bk W q 74 [.int .i64 (fr + (k : Int)), .string bl]) (fun v W W' hr ⟨q, h1, h2⟩ => ⟨q, h1, h2.keep hr⟩)
                case ob =>
                  intro f W hW hd
                  skip
                  (try simp [deps, factOf, Region.binds] at hd)
                  unfold relOp
                  go_simp
                  exact ⟨Kp.one _ _, Bk.new _ _ _⟩
                go_simp
                refine hK _ _ ?_
                clear hK K
                refine wpRel_nil ?_
                intro f W' hW hall
                have h0 : f 0 = .pointer (some ⟨g, 0, none⟩) := allF_get hall 0 _ rfl
                have h4 : f 4 = v' := allF_get hall 4 _ rfl
                obtain ⟨q, h13, hq⟩ := allF_get hall 13 _ rfl
                clear hall
                dsimp only
                rw [h0, h4, h13]
                have hown3 := HOW.out _ hW
                have hnl := HNL.out
                refine wpList_app0 rfl _ _ _ rfl (.agg #[.int .i64 0, .string ⟨#[]⟩]) 24 Tryz.underlying56 info_wait rfl (by decide) (by decide) rfl hown3 (some ⟨q, 0, none⟩) 1 1 [.int .i64 (fr + (k : Int)), .string bl] rfl rfl (src_bk hq) (by simp [Value.oneCell']) (by omega) ?_
                intro v1 w4 hown1 hg1 hat1
                obtain ⟨A1, c1, rfl⟩ := own_slice hown1
                obtain ⟨z1, z2, z3, z4⟩ := HPU.out _ hW w4 _ hown1 hg1 hat1
                have f4 := z1 4
                rw [HST.out] at z3
                have hll : (c.row ++ newRows p fr k).length = c.row.length + (newRows p fr k).length := List.length_append
                rw [hll] at z3 z4
                have hM9 := Lib.hid (hMr.trans z4)
                have HZ3 := Lib.hid z3
                clear hll z1 z3 z4 hg1 hat1 hown1 hown3 hnl HPU HST HNL HOW HCR HBL
                go_wp2_with fail
                go_roundw
                case rel => exact ⟨k + 1, _, by omega, by go_num, HZ3.out, hM9.out⟩
                case measure => simp [intOf]; omega
              · have hke : k = s.toNat := by omega
                subst hke
                have d9 : decide (fr + ((s.toNat : Nat) : Int) < fr + s) = false := by simp; omega
                go_wp2_with fail
                go_ret
                rw [HE.out]
                exact ⟨rfl, _, hfr, hMr⟩
  · rw [hdn] at c7
    have e1 : reraseD p s r d region = (d, 6) := by unfold reraseD; rw [if_pos hdn]
    rw [e1]
    clear e1 hdn HCN
    go_enter Tryz.func43, Tryz.ntmps43
    go_wp2_with fail
    go_ret
    exact ⟨rfl, v, h, FlMv.refl _ _ _ _⟩
end
end Go.Proofs.YtnhogmheedeeiaaGreat
/- The reference's device answers as the program's does. -/
namespace Go.Proofs.YtnhogmheedeeiaaGreat
open Go.RowKit
set_option linter.unusedVariables false
set_option maxRecDepth 20000

/-- The reference's device d' stands for the program's d. -/
structure DRel (d d' : Dev) : Prop where
  img : d'.img = d.img
  row : d'.row = d.row
  down : d'.down = d.down
  fuse : d.down = false → d'.set = d.set ∧ (d.set = true → d'.left = d.left)
  lft : d'.set = true → 0 ≤ d'.left ∧ d'.left ≤ 9223372036854775807
section
variable {p s r : Int} {d d' : Dev}
theorem DRel.ok (h : DRel d d') (ok : DevOk p s r d) : DevOk p s r d' :=
  ⟨ok.right, by rw [h.img]; exact ok.len, by rw [h.img]; exact ok.byt, by rw [h.row]; exact ok.rows, h.lft, by rw [h.row]; exact ok.rl⟩
theorem rel_count (h : DRel d d') (hd : d.down = false) : (rcountD d').2 = (countD d).2 ∧ DRel (countD d).1 (rcountD d').1 := by
  obtain ⟨f1, f2⟩ := h.fuse hd
  obtain ⟨hi, hr, hn, -, hl⟩ := h
  rcases hs : d.set with _ | _
  · rw [hs] at f1
    have e1 : countD d = (d, false) := by unfold countD; rw [if_pos hs]
    have e2 : rcountD d' = (d', false) := by unfold rcountD; rw [if_pos f1]
    rw [e1, e2]
    exact ⟨rfl, ⟨hi, hr, hn, fun _ => ⟨f1.trans hs.symm, f2⟩, hl⟩⟩
  · rw [hs] at f1
    have f3 := f2 hs
    by_cases hz : d.left = 0
    · have e1 : countD d = ({ d with down := true, set := false }, true) := by unfold countD; rw [if_neg (by rw [hs]; simp), if_pos hz]
      have e2 : rcountD d' = ({ d' with down := true }, true) := by unfold rcountD; rw [if_neg (by rw [f1]; simp), if_pos (f3.trans hz)]
      rw [e1, e2]
      exact ⟨rfl, ⟨hi, hr, rfl, fun hx => (by simp at hx), hl⟩⟩
    · have e1 : countD d = ({ d with left := d.left - 1 }, false) := by unfold countD; rw [if_neg (by rw [hs]; simp), if_neg hz]
      have e2 : rcountD d' = ({ d' with left := d'.left - 1 }, false) := by unfold rcountD; rw [if_neg (by rw [f1]; simp), if_neg (by rw [f3]; exact hz)]
      rw [e1, e2]
      refine ⟨rfl, ⟨hi, hr, hn, fun _ => ⟨f1.trans hs.symm, fun _ => ?_⟩, fun hx => ?_⟩⟩
      · show d'.left - 1 = d.left - 1
        rw [f3]
      · have := hl f1
        rw [f3] at this
        show 0 ≤ d'.left - 1 ∧ d'.left - 1 ≤ _
        rw [f3]
        omega
theorem countD_row (d : Dev) (R : Rw) : countD { d with row := R } = ({ (countD d).1 with row := R }, (countD d).2) := by
  unfold countD
  dsimp only
  split
  · rfl
  · split <;> rfl
theorem rel_read (h : DRel d d') (page : Int) : readD p s r d' page = readD p s r d page := by
  have hh : heldD d' p page = heldD d p page := by unfold heldD; rw [h.row, h.img]
  unfold readD
  rw [h.down, hh]
theorem rel_row {c c' : Dev} (h : DRel c c') (x : Rw) : DRel { c with row := c.row ++ x } { c' with row := c'.row ++ x } :=
  ⟨h.img, by show c'.row ++ x = c.row ++ x; rw [h.row], h.down, h.fuse, h.lft⟩
theorem rel_program (h : DRel d d') (ok : DevOk p s r d) (page : Int) (b : ByteArray) : (rprogramD p s r d' page b).2 = (programD p s r d page b).2 ∧ DRel (programD p s r d page b).1 (rprogramD p s r d' page b).1 := by
  rcases hd : d.down with _ | _
  · have hd' : d'.down = false := h.down.trans hd
    by_cases hp : page < 0 ∨ s * r ≤ page
    · have e1 : programD p s r d page b = (d, 1) := by
        have : readD p s r d page = (⟨#[]⟩, 1) := by unfold readD; rw [if_neg (by rw [hd]; simp), if_pos hp]
        unfold programD; rw [this]; rw [if_pos (by simp)]
      have e2 : rprogramD p s r d' page b = (d', 1) := by unfold rprogramD; rw [if_neg (by rw [hd']; simp), if_pos (by omega)]
      rw [e1, e2]
      exact ⟨rfl, h⟩
    · have hr : readD p s r d page = (heldD d p page, 0) := by unfold readD; rw [if_neg (by rw [hd]; simp), if_neg hp]
      have hsz := heldD_size ok page (by omega) (by omega)
      have hh : heldD d' p page = heldD d p page := by unfold heldD; rw [h.row, h.img]
      by_cases hb : (b.size : Int) = p
      · have hbl := blankB_fill (heldD d p page) p.toNat (by omega)
        have hiff : (blankB (heldD d p page) = false) ↔ heldD d p page ≠ blankS p := by
          constructor
          · exact hbl.2
          · intro hne
            rcases hx : blankB (heldD d p page) with _ | _
            · rfl
            · exact absurd (hbl.1 hx) hne
        have e1 : programD p s r d page b = if (pendV d.row page).2 = true ∨ heldD d p page ≠ blankS p then (d, 7) else ((countD { d with row := d.row ++ [(page, b)] }).1, if (countD { d with row := d.row ++ [(page, b)] }).2 = true then 6 else 0) := by
          unfold programD; rw [hr, if_neg (by simp), if_neg (by simpa using hb)]
        have e2 : rprogramD p s r d' page b = if (pendV d.row page).2 = true ∨ heldD d p page ≠ blankS p then (d', 7) else ({ (rcountD d').1 with row := (rcountD d').1.row ++ [(page, b)] }, if (rcountD d').2 = true then 6 else 0) := by
          unfold rprogramD
          rw [if_neg (by rw [hd']; simp), if_neg (by omega), hh, h.row]
          by_cases hc : (pendV d.row page).2 = true ∨ blankB (heldD d p page) = false
          · have hc2 : (pendV d.row page).2 = true ∨ heldD d p page ≠ blankS p := hc.elim Or.inl (fun hx => Or.inr (hiff.1 hx))
            rw [if_pos hc, if_pos hc2]
          · have hc2 : ¬ ((pendV d.row page).2 = true ∨ heldD d p page ≠ blankS p) := fun hx => hc (hx.elim Or.inl (fun hy => Or.inr (hiff.2 hy)))
            rw [if_neg hc, if_neg hc2]
        rw [e1, e2]
        by_cases hc : (pendV d.row page).2 = true ∨ heldD d p page ≠ blankS p
        · rw [if_pos hc, if_pos hc]
          exact ⟨rfl, h⟩
        · rw [if_neg hc, if_neg hc, countD_row]
          obtain ⟨k1, k2⟩ := rel_count h hd
          have hrow : (countD d).1.row = d.row := (countD_same d).2
          dsimp only
          rw [k1]
          refine ⟨rfl, ?_⟩
          have := rel_row k2 [(page, b)]
          rw [hrow] at this
          exact this
      · have e1 : programD p s r d page b = (d, 1) := by unfold programD; rw [hr, if_neg (by simp), if_pos hb]
        have e2 : rprogramD p s r d' page b = (d', 1) := by unfold rprogramD; rw [if_neg (by rw [hd']; simp), if_pos (Or.inr (Or.inr hb))]
        rw [e1, e2]
        exact ⟨rfl, h⟩
  · have hd' : d'.down = true := h.down.trans hd
    have e1 : programD p s r d page b = (d, 6) := by
      have : readD p s r d page = (⟨#[]⟩, 6) := by unfold readD; rw [if_pos hd]
      unfold programD; rw [this]; rw [if_pos (by simp)]
    have e2 : rprogramD p s r d' page b = (d', 6) := by unfold rprogramD; rw [if_pos hd']
    rw [e1, e2]
    exact ⟨rfl, h⟩
theorem rel_img {c c' : Dev} (h : DRel c c') (f : List Nat → List Nat) : DRel { c with img := f c.img } { c' with img := f c'.img } :=
  ⟨by show f c'.img = f c.img; rw [h.img], h.row, h.down, h.fuse, h.lft⟩
theorem rel_erase (h : DRel d d') (region : Int) : (reraseD p s r d' region).2 = (eraseD p s r d region).2 ∧ DRel (eraseD p s r d region).1 (reraseD p s r d' region).1 := by
  rcases hd : d.down with _ | _
  · have hd' : d'.down = false := h.down.trans hd
    obtain ⟨k1, k2⟩ := rel_count h hd
    have e1 : eraseD p s r d region = if region < 0 ∨ r ≤ region then (d, 1) else if ∃ x ∈ d.row, inReg s region x then (d, 7)
        else if (countD d).2 = true then ({ (countD d).1 with row := (countD d).1.row ++ newRows p (region * s) s.toNat }, 6)
        else ({ (countD d).1 with img := doAll p (countD d).1.img (newRows p (region * s) s.toNat) }, 0) := if_neg (by rw [hd]; simp)
    have e2 : reraseD p s r d' region = if region < 0 ∨ r ≤ region then (d', 1) else if ∃ x ∈ d'.row, inReg s region x then (d', 7)
        else if (rcountD d').2 = true then ({ (rcountD d').1 with row := (rcountD d').1.row ++ newRows p (region * s) s.toNat }, 6)
        else ({ (rcountD d').1 with img := doAll p (rcountD d').1.img (newRows p (region * s) s.toNat) }, 0) := if_neg (by rw [hd']; simp)
    rw [e1, e2, h.row, k1]
    split
    · exact ⟨rfl, h⟩
    · split
      · exact ⟨rfl, h⟩
      · split
        · exact ⟨rfl, rel_row k2 _⟩
        · exact ⟨rfl, rel_img k2 (fun im => doAll p im (newRows p (region * s) s.toNat))⟩
  · have hd' : d'.down = true := h.down.trans hd
    rw [show eraseD p s r d region = (d, 6) from if_pos hd, show reraseD p s r d' region = (d', 6) from if_pos hd']
    exact ⟨rfl, h⟩
theorem rel_flush (h : DRel d d') : (rflushD p d').2 = (flushD p d).2 ∧ DRel (flushD p d).1 (rflushD p d').1 := by
  rcases hd : d.down with _ | _
  · have hd' : d'.down = false := h.down.trans hd
    obtain ⟨k1, k2⟩ := rel_count h hd
    have e1 : flushD p d = if (countD d).2 = true then ((countD d).1, 6) else ({ (countD d).1 with img := doAll p (countD d).1.img (countD d).1.row, row := [] }, 0) := if_neg (by rw [hd]; simp)
    have e2 : rflushD p d' = if (rcountD d').2 = true then ((rcountD d').1, 6) else ({ (rcountD d').1 with img := doAll p (rcountD d').1.img (rcountD d').1.row, row := [] }, 0) := if_neg (by rw [hd']; simp)
    rw [e1, e2, k1]
    split
    · exact ⟨rfl, k2⟩
    · refine ⟨rfl, ?_⟩
      refine ⟨?_, rfl, k2.down, k2.fuse, k2.lft⟩
      show doAll p _ _ = doAll p _ _
      rw [k2.img, k2.row]
  · have hd' : d'.down = true := h.down.trans hd
    rw [show flushD p d = (d, 6) from if_pos hd, show rflushD p d' = (d', 6) from if_pos hd']
    exact ⟨rfl, h⟩
theorem rel_fuse (h : DRel d d') (n : Int) (hn : n ≤ 9223372036854775807) : DRel (fuseD d n) (rfuseD d' n) := by
  refine ⟨h.img, h.row, h.down, fun _ => ⟨rfl, fun hx => ?_⟩, fun hx => ?_⟩
  · have : 0 ≤ n := by simpa [fuseD] using hx
    show max n 0 = n
    omega
  · show 0 ≤ max n 0 ∧ max n 0 ≤ _
    omega
theorem rel_crash (h : DRel d d') (mask : List Int) : DRel (crashD p d mask) (crashD p d' mask) := by
  refine ⟨?_, rfl, rfl, fun _ => ⟨rfl, fun hx => by simp [crashD] at hx⟩, fun hx => by simp [crashD] at hx⟩
  show crK p d'.img d'.row mask d'.row.length = crK p d.img d.row mask d.row.length
  rw [h.img, h.row]
theorem rel_rot (h : DRel d d') (page a x : Int) : (rotD p s r d' page a x).2 = (rotD p s r d page a x).2 ∧ DRel (rotD p s r d page a x).1 (rotD p s r d' page a x).1 := by
  unfold rotD
  split
  · exact ⟨rfl, h⟩
  · refine ⟨rfl, ?_, h.row, h.down, h.fuse, h.lft⟩
    show d'.img.set _ _ = d.img.set _ _
    rw [h.img]
end
/-- A reference's device that a law has made, standing for d. -/
structure RfS (w0 W : World) (g ib ic : Nat) (p s r : Int) (d : Dev) (v : Value) : Prop where
  at_ : ∃ d', RfX W g ib ic p s r d' v ∧ DRel d d'
  ok : DevOk p s r d
  kp : Kp w0 W
  new : ∀ b ∈ foot g ib v, w0.heap.size ≤ b
section
variable {w0 W W' : World} {g ib ic : Nat} {p s r : Int} {d d2 : Dev} {v v' : Value}
theorem RfS.keep (h : RfS w0 W g ib ic p s r d v) (k : Kp W W') : RfS w0 W' g ib ic p s r d v := by
  obtain ⟨d', h1, h2⟩ := h.at_
  exact ⟨⟨d', h1.keep k, h2⟩, h.ok, h.kp.trans k, h.new⟩
theorem RfS.step (h : RfS w0 W g ib ic p s r d v) {d2' : Dev} (h' : RfX W' g ib ic p s r d2' v') (m : FlMv W W' g ib v v') (hr : DRel d2 d2') (ok : DevOk p s r d2) : RfS w0 W' g ib ic p s r d2 v' := by
  obtain ⟨a, b⟩ := FlMv.kp h.kp h.new m
  exact ⟨⟨d2', h', hr⟩, ok, a, b⟩
theorem RfS.foot_lt (h : RfS w0 W g ib ic p s r d v) : ∀ x ∈ foot g ib v, x < W.heap.size := by
  obtain ⟨d', h1, h2⟩ := h.at_
  exact h1.foot_lt
theorem rnew_S (h : RightG p s r) (image : ByteArray) (hl : (image.size : Int) ≤ p * s * r) (w : World) :
    Calls Tryz.prog 29 #[geo p s r, .string image] w fun e w' => ∃ g ib ic v, e = .returned (.pointer (some ⟨g, 0, none⟩)) ∧ RfS w w' g ib ic p s r (newD p s r image) v := by
  refine (rnewf p s r h image hl w).mono ?_
  rintro e w' ⟨g, ib, ic, h1, h2, h3, h4, h5⟩
  refine ⟨g, ib, ic, _, h1, ⟨_, h4, ⟨rfl, rfl, rfl, fun _ => ⟨rfl, fun _ => rfl⟩, fun hx => by simp [newD] at hx⟩⟩, newD_ok h image hl, h5, ?_⟩
  intro b hb
  simp [foot, Value.ownBlock] at hb
  omega
/-- What a call leaves: its answer, its own blocks moved alone. -/
def RfP (W : World) (g ib ic : Nat) (p s r : Int) (v : Value) (dc : Dev × Int) (e : Ending) (w' : World) : Prop :=
  e = .returned (.int .i64 dc.2) ∧ ∃ v' d', RfX w' g ib ic p s r d' v' ∧ DRel dc.1 d' ∧ FlMv W w' g ib v v'
theorem rprog_R {d' : Dev} (h : RfX W g ib ic p s r d' v) (hr : DRel d d') (ok : DevOk p s r d) (page : Int) (b : ByteArray) (hb : b.size ≤ 9223372036854775807) :
    Calls Tryz.prog 52 #[.pointer (some ⟨g, 0, none⟩), .int .i64 page, .string b] W (RfP W g ib ic p s r v (programD p s r d page b)) := by
  obtain ⟨k1, k2⟩ := rel_program hr ok page b
  refine (rprogram h (hr.ok ok) page b hb).mono ?_
  rintro e w' ⟨h1, v', h2, h3⟩
  exact ⟨by rw [h1, k1], v', _, h2, k2, h3⟩
theorem rerase_R {d' : Dev} (h : RfX W g ib ic p s r d' v) (hr : DRel d d') (ok : DevOk p s r d) (region : Int) :
    Calls Tryz.prog 43 #[.pointer (some ⟨g, 0, none⟩), .int .i64 region] W (RfP W g ib ic p s r v (eraseD p s r d region)) := by
  obtain ⟨k1, k2⟩ := rel_erase (p := p) (s := s) (r := r) hr region
  refine (rerase h (hr.ok ok) region).mono ?_
  rintro e w' ⟨h1, v', h2, h3⟩
  exact ⟨by rw [h1, k1], v', _, h2, k2, h3⟩
theorem rflush_R {d' : Dev} (h : RfX W g ib ic p s r d' v) (hr : DRel d d') (ok : DevOk p s r d) :
    Calls Tryz.prog 11 #[.pointer (some ⟨g, 0, none⟩)] W (RfP W g ib ic p s r v (flushD p d)) := by
  obtain ⟨k1, k2⟩ := rel_flush (p := p) hr
  refine (rflush h (hr.ok ok)).mono ?_
  rintro e w' ⟨h1, v', h2, h3⟩
  exact ⟨by rw [h1, k1], v', _, h2, k2, h3⟩
end
end Go.Proofs.YtnhogmheedeeiaaGreat
/- Two devices in memory, the program's and the reference's, and what their calls leave. -/
namespace Go.Proofs.YtnhogmheedeeiaaGreat
open Go.RowKit
set_option linter.unusedVariables false
set_option maxRecDepth 20000

/-! Each page is pending at most once. -/
def NdD (d : Dev) : Prop := (d.row.map (·.1)).Nodup
theorem nodup_len : ∀ (n : Nat) (l : List Int), l.Nodup → (∀ x ∈ l, 0 ≤ x ∧ x < n) → l.length ≤ n
  | 0, l, _, h => by
    rcases l with _ | ⟨x, l⟩
    · exact Nat.le_refl _
    · have := h x (List.mem_cons_self ..)
      omega
  | n + 1, l, hn, h => by
    have ih := nodup_len n (l.erase (n : Int)) (hn.erase _) (fun x hx => by
      rw [hn.mem_erase_iff] at hx
      have := h x hx.2
      have := hx.1
      omega)
    by_cases hm : (n : Int) ∈ l
    · rw [List.length_erase_of_mem hm] at ih
      omega
    · rw [List.erase_of_not_mem hm] at ih
      omega
theorem nd_len {p s r : Int} {d : Dev} (ok : DevOk p s r d) (nd : NdD d) : d.row.length ≤ 120 := by
  have h := nodup_len (s * r).toNat (d.row.map (fun x : Int × ByteArray => x.1)) nd (fun x hx => by
    obtain ⟨y, hy, rfl⟩ := List.mem_map.1 hx
    have := ok.rows y hy
    omega)
  rw [List.length_map] at h
  have := (mul_sr ok.right).2.1
  omega
theorem pend_none (page : Int) : ∀ (row : Rw), pend row page = none → ∀ x ∈ row, x.1 ≠ page := by
  have key : ∀ (l : Rw) (acc : Option ByteArray), l.foldl (fun acc x => if x.1 = page then some x.2 else acc) acc = none → acc = none ∧ ∀ x ∈ l, x.1 ≠ page := by
    intro l
    induction l with
    | nil => intro acc h; exact ⟨h, fun x hx => by cases hx⟩
    | cons x l ih =>
      intro acc h
      rw [List.foldl_cons] at h
      obtain ⟨h1, h2⟩ := ih _ h
      by_cases hx : x.1 = page
      · rw [if_pos hx] at h1; cases h1
      · rw [if_neg hx] at h1
        refine ⟨h1, fun y hy => ?_⟩
        rcases List.mem_cons.1 hy with rfl | hy
        · exact hx
        · exact h2 y hy
  exact fun row h => (key row none h).2
theorem nd_of_row {d d' : Dev} (h : d'.row = d.row) (nd : NdD d) : NdD d' := by unfold NdD; rw [h]; exact nd
theorem nd_nil {d : Dev} (h : d.row = []) : NdD d := by unfold NdD; rw [h]; exact List.nodup_nil
theorem nd_program {p s r : Int} {d : Dev} (nd : NdD d) (page : Int) (b : ByteArray) : NdD (programD p s r d page b).1 := by
  unfold programD
  split
  · exact nd
  · split
    · exact nd
    · split
      · exact nd
      · rename_i h3
        refine nd_of_row (d := { d with row := d.row ++ [(page, b)] }) (countD_same _).2 ?_
        have hp : pend d.row page = none := by
          rcases pend_or d.row page with ⟨h1, _⟩ | ⟨b', _, h2⟩
          · exact h1
          · rw [h2] at h3; exact absurd (Or.inl rfl) h3
        unfold NdD
        rw [List.map_append, List.nodup_append]
        refine ⟨nd, by simp, fun a ha c hc => ?_⟩
        obtain ⟨x, hx, rfl⟩ := List.mem_map.1 ha
        have hc : c = page := by simpa using hc
        rw [hc]
        exact pend_none page d.row hp x hx
theorem newRows_nd (p fr : Int) (k : Nat) : ((newRows p fr k).map (·.1)).Nodup := by
  induction k with
  | zero => exact List.nodup_nil
  | succ k ih =>
    rw [newRows_succ, List.map_append, List.nodup_append]
    refine ⟨ih, by simp, fun a ha c hc => ?_⟩
    have hc : c = fr + (k : Int) := by simpa using hc
    simp only [newRows, List.map_map, List.mem_map, List.mem_range] at ha
    obtain ⟨i, hi, rfl⟩ := ha
    rw [hc]
    simp only [Function.comp]
    omega
theorem nd_erase {p s r : Int} {d : Dev} (nd : NdD d) (region : Int) (hs : 0 ≤ s) : NdD (eraseD p s r d region).1 := by
  unfold eraseD
  split
  · exact nd
  · split
    · exact nd
    · split
      · exact nd
      · rename_i h3
        split
        · unfold NdD
          show (((countD d).1.row ++ newRows p (region * s) s.toNat).map (·.1)).Nodup
          rw [(countD_same d).2, List.map_append, List.nodup_append]
          refine ⟨nd, newRows_nd _ _ _, fun a ha c hc => ?_⟩
          obtain ⟨x, hx, rfl⟩ := List.mem_map.1 ha
          simp only [newRows, List.map_map, List.mem_map, List.mem_range] at hc
          obtain ⟨i, hi, rfl⟩ := hc
          intro he
          refine h3 ⟨x, hx, ?_⟩
          unfold inReg
          rw [he]
          simp only [Function.comp]
          omega
        · exact nd_of_row (countD_same d).2 nd
theorem nd_flush {p : Int} {d : Dev} (nd : NdD d) : NdD (flushD p d).1 := by
  unfold flushD
  split
  · exact nd
  · split
    · exact nd_of_row (countD_same d).2 nd
    · exact nd_nil rfl
theorem nd_rot {p s r : Int} {d : Dev} (nd : NdD d) (page a x : Int) : NdD (rotD p s r d page a x).1 := by
  unfold rotD
  split
  · exact nd
  · exact nd_of_row rfl nd

/-- Both devices: the program's at d1, the reference's standing for d2. -/
structure FPair (w0 W : World) (g ib ic h hb hc : Nat) (p s r : Int) (d1 d2 : Dev) (v v' : Value) : Prop where
  fl : FlS w0 W g ib ic p s r d1 v
  rf : RfS w0 W h hb hc p s r d2 v'
  dj : ∀ x ∈ foot g ib v, x ∉ foot h hb v'
theorem foot_new {W W' : World} {g ib : Nat} {v v1 : Value} (m : FlMv W W' g ib v v1) (x : Nat) (hx : x ∈ foot g ib v1) : x ∈ foot g ib v ∨ W.heap.size ≤ x := by
  simp only [foot, List.mem_cons, Option.mem_toList] at hx ⊢
  rcases hx with rfl | rfl | hx
  · exact Or.inl (Or.inl rfl)
  · exact Or.inl (Or.inr (Or.inl rfl))
  · rcases m.2 x (by simpa using hx) with h1 | h1
    · exact Or.inl (Or.inr (Or.inr (by simpa using h1)))
    · exact Or.inr h1
section
variable {w0 W W' : World} {g ib ic h hb hc : Nat} {p s r : Int} {d d1 d2 d3 : Dev} {v v' v1 : Value}
theorem FPair.keep (t : FPair w0 W g ib ic h hb hc p s r d1 d2 v v') (k : Kp W W') : FPair w0 W' g ib ic h hb hc p s r d1 d2 v v' := ⟨t.fl.keep k, t.rf.keep k, t.dj⟩
theorem FPair.stepF (t : FPair w0 W g ib ic h hb hc p s r d1 d2 v v') (h' : FlAt W' g ib ic p s r d3 v1) (m : FlMv W W' g ib v v1) (ok : DevOk p s r d3) : FPair w0 W' g ib ic h hb hc p s r d3 d2 v1 v' := by
  have hlt := t.rf.foot_lt
  have hdj : ∀ x ∈ foot h hb v', x ∉ foot g ib v := fun x hx hy => t.dj x hy hx
  obtain ⟨d', k1, k2⟩ := t.rf.at_
  refine ⟨t.fl.step h' m ok, ⟨⟨d', k1.mv m.1 hdj, k2⟩, t.rf.ok, (FlMv.kp t.fl.kp t.fl.new m).1, t.rf.new⟩, fun x hx hy => ?_⟩
  rcases foot_new m x hx with h1 | h1
  · exact t.dj x h1 hy
  · have := hlt x hy
    omega
theorem FPair.stepR (t : FPair w0 W g ib ic h hb hc p s r d1 d2 v v') {d' : Dev} (h' : RfX W' h hb hc p s r d' v1) (hr : DRel d3 d') (m : FlMv W W' h hb v' v1) (ok : DevOk p s r d3) : FPair w0 W' g ib ic h hb hc p s r d1 d3 v v1 := by
  have hlt := t.fl.at_.foot_lt
  refine ⟨⟨t.fl.at_.mv m.1 t.dj, t.fl.ok, (FlMv.kp t.rf.kp t.rf.new m).1, t.fl.new⟩, t.rf.step h' m hr ok, fun x hx hy => ?_⟩
  rcases foot_new m x hy with h1 | h1
  · exact t.dj x hx h1
  · have := hlt x hx
    omega
theorem prog_PF (t : FPair w0 W g ib ic h hb hc p s r d d2 v v') (hl : d.row.length < 100000) (page : Int) (b : ByteArray) (hbs : b.size ≤ 9223372036854775807) :
    Calls Tryz.prog 49 #[.pointer (some ⟨g, 0, none⟩), .int .i64 page, .string b] W fun e w' => e = .returned (.int .i64 (programD p s r d page b).2) ∧ ∃ v1, FPair w0 w' g ib ic h hb hc p s r (programD p s r d page b).1 d2 v1 v' ∧ FlMv W w' g ib v v1 := by
  refine (fprogram t.fl.at_ t.fl.ok page b hbs).mono ?_
  rintro e w' ⟨h1, v1, h2, h3⟩
  exact ⟨h1, v1, t.stepF h2 h3 (programD_ok t.fl.ok page b hl), h3⟩
theorem prog_PR (t : FPair w0 W g ib ic h hb hc p s r d1 d v v') (hl : d.row.length < 100000) (page : Int) (b : ByteArray) (hbs : b.size ≤ 9223372036854775807) :
    Calls Tryz.prog 52 #[.pointer (some ⟨h, 0, none⟩), .int .i64 page, .string b] W fun e w' => e = .returned (.int .i64 (programD p s r d page b).2) ∧ ∃ v1, FPair w0 w' g ib ic h hb hc p s r d1 (programD p s r d page b).1 v v1 := by
  obtain ⟨d', k1, k2⟩ := t.rf.at_
  refine (rprog_R k1 k2 t.rf.ok page b hbs).mono ?_
  rintro e w' ⟨h1, v1, d'', h2, h3, h4⟩
  exact ⟨h1, v1, t.stepR h2 h3 h4 (programD_ok t.rf.ok page b hl)⟩
theorem erase_PF (t : FPair w0 W g ib ic h hb hc p s r d d2 v v') (hl : d.row.length ≤ 99990) (region : Int) :
    Calls Tryz.prog 40 #[.pointer (some ⟨g, 0, none⟩), .int .i64 region] W fun e w' => e = .returned (.int .i64 (eraseD p s r d region).2) ∧ ∃ v1, FPair w0 w' g ib ic h hb hc p s r (eraseD p s r d region).1 d2 v1 v' ∧ FlMv W w' g ib v v1 := by
  refine (ferase t.fl.at_ t.fl.ok region).mono ?_
  rintro e w' ⟨h1, v1, h2, h3⟩
  exact ⟨h1, v1, t.stepF h2 h3 (eraseD_ok t.fl.ok region hl), h3⟩
theorem erase_PR (t : FPair w0 W g ib ic h hb hc p s r d1 d v v') (hl : d.row.length ≤ 99990) (region : Int) :
    Calls Tryz.prog 43 #[.pointer (some ⟨h, 0, none⟩), .int .i64 region] W fun e w' => e = .returned (.int .i64 (eraseD p s r d region).2) ∧ ∃ v1, FPair w0 w' g ib ic h hb hc p s r d1 (eraseD p s r d region).1 v v1 := by
  obtain ⟨d', k1, k2⟩ := t.rf.at_
  refine (rerase_R k1 k2 t.rf.ok region).mono ?_
  rintro e w' ⟨h1, v1, d'', h2, h3, h4⟩
  exact ⟨h1, v1, t.stepR h2 h3 h4 (eraseD_ok t.rf.ok region hl)⟩
theorem flush_PF (t : FPair w0 W g ib ic h hb hc p s r d d2 v v') :
    Calls Tryz.prog 34 #[.pointer (some ⟨g, 0, none⟩)] W fun e w' => e = .returned (.int .i64 (flushD p d).2) ∧ ∃ v1, FPair w0 w' g ib ic h hb hc p s r (flushD p d).1 d2 v1 v' ∧ FlMv W w' g ib v v1 := by
  refine (fflush t.fl.at_ t.fl.ok).mono ?_
  rintro e w' ⟨h1, v1, h2, h3⟩
  exact ⟨h1, v1, t.stepF h2 h3 (flushD_ok t.fl.ok), h3⟩
theorem flush_PR (t : FPair w0 W g ib ic h hb hc p s r d1 d v v') :
    Calls Tryz.prog 11 #[.pointer (some ⟨h, 0, none⟩)] W fun e w' => e = .returned (.int .i64 (flushD p d).2) ∧ ∃ v1, FPair w0 w' g ib ic h hb hc p s r d1 (flushD p d).1 v v1 := by
  obtain ⟨d', k1, k2⟩ := t.rf.at_
  refine (rflush_R k1 k2 t.rf.ok).mono ?_
  rintro e w' ⟨h1, v1, d'', h2, h3, h4⟩
  exact ⟨h1, v1, t.stepR h2 h3 h4 (flushD_ok t.rf.ok)⟩
theorem fuse_PF (t : FPair w0 W g ib ic h hb hc p s r d d2 v v') (n : Int) (hn : n ≤ 9223372036854775807) :
    Calls Tryz.prog 14 #[.pointer (some ⟨g, 0, none⟩), .int .i64 n] W fun e w' => e = .returned (.tuple #[]) ∧ FPair w0 w' g ib ic h hb hc p s r (fuseD d n) d2 v v' ∧ FlMv W w' g ib v v := by
  refine (ffuse t.fl.at_ n).mono ?_
  rintro e w' ⟨h1, h2, h3⟩
  exact ⟨h1, t.stepF h2 h3 (fuseD_ok t.fl.ok n hn), h3⟩
theorem fuse_PR (t : FPair w0 W g ib ic h hb hc p s r d1 d v v') (n : Int) (hn : n ≤ 9223372036854775807) :
    Calls Tryz.prog 15 #[.pointer (some ⟨h, 0, none⟩), .int .i64 n] W fun e w' => e = .returned (.tuple #[]) ∧ FPair w0 w' g ib ic h hb hc p s r d1 (fuseD d n) v v' := by
  obtain ⟨d', k1, k2⟩ := t.rf.at_
  refine (rfuse k1 n).mono ?_
  rintro e w' ⟨h1, h2, h3⟩
  exact ⟨h1, t.stepR h2 (rel_fuse k2 n hn) h3 (fuseD_ok t.rf.ok n hn)⟩
theorem read_PF (t : FPair w0 W g ib ic h hb hc p s r d d2 v v') (page : Int) :
    Calls Tryz.prog 31 #[.pointer (some ⟨g, 0, none⟩), .int .i64 page] W fun e w' => e = .returned (.tuple #[.string (readD p s r d page).1, .int .i64 (readD p s r d page).2]) ∧ Kp W w' :=
  fread_any t.fl.at_ t.fl.ok page
end
end Go.Proofs.YtnhogmheedeeiaaGreat
