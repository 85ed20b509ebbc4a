/- The reference's device in memory: what it is, how it is kept. -/
import Derived.Test.YtbclmnlggngepaaFlOk
namespace Go.Proofs.Ytbclmnlggngepaa
open Go.RowKit
set_option linter.unusedVariables false

/-- The reference's device: its struct is block g, its bytes are block ib. -/
structure RfX (W : World) (g ib ic : Nat) (p s r : Int) (d : Dev) (v : Value) : Prop where
  box : Bk W g 73 [.int .i64 p, .int .i64 s, .int .i64 r, .slice (some ⟨ib, 0, none⟩) d.img.length ic, v, .bool d.set, .int .i64 d.left, .bool d.down]
  img : By W ib (ints d.img)
  own : W.ownsRow 0 86 2 v d.row.length (rcells d.row)
  ne : g ≠ ib
  capok : d.img.length ≤ ic
  vne : ∀ k, v.ownBlock = some k → k ≠ g ∧ k ≠ ib
section
variable {W W' : World} {g ib ic : Nat} {p s r : Int} {d : Dev} {v : Value}
theorem RfX.keep (h : RfX W g ib ic p s r d v) (k : Kp W W') : RfX W' g ib ic p s r d v :=
  ⟨h.box.keep k, h.img.keep k, own_keep h.own k, h.ne, h.capok, h.vne⟩
theorem RfX.mv {S : List Nat} (h : RfX W g ib ic p s r d v) (k : Mv S W W') (hd : ∀ x ∈ foot g ib v, x ∉ S) : RfX W' g ib ic p s r d v := by
  have hb := h.box
  refine ⟨hb.mv k (hd g (by simp [foot])), h.img.mv k (hd ib (by simp [foot])), ?_, h.ne, h.capok, h.vne⟩
  rcases h.own with ⟨hl, ⟨e1, e2⟩ | ⟨q, cap, cur, e1, e2, e3, e4⟩⟩
  · exact ⟨hl, Or.inl ⟨e1, e2⟩⟩
  · refine ⟨hl, Or.inr ⟨q, cap, cur, e1, e2, ?_, e4⟩⟩
    have hq : q < W.heap.size := (Array.getElem?_eq_some_iff.1 e3).1
    rw [k.block q hq (hd q (by simp [foot, e1, Value.ownBlock]))]
    exact e3
theorem RfX.foot_lt (h : RfX W g ib ic p s r d v) : ∀ x ∈ foot g ib v, x < W.heap.size := by
  intro x hx
  have hb := h.box
  simp only [foot, List.mem_cons, Option.mem_toList] at hx
  rcases hx with rfl | rfl | hx
  · exact hb.lt
  · exact h.img.lt
  · rcases h.own with ⟨hl, ⟨e1, e2⟩ | ⟨q, cap, cur, e1, e2, e3, e4⟩⟩
    · rw [e1] at hx; simp [Value.ownBlock] at hx
    · rw [e1] at hx
      simp [Value.ownBlock] at hx
      subst hx
      exact (Array.getElem?_eq_some_iff.1 e3).1
theorem RfX.c8 (h : RfX W g ib ic p s r d v) : W.cell? ⟨g, 0, none⟩ = some (.int .i64 p) ∧ W.cell? ⟨g, 1, none⟩ = some (.int .i64 s) ∧ W.cell? ⟨g, 2, none⟩ = some (.int .i64 r) ∧ W.cell? ⟨g, 3, none⟩ = some (.slice (some ⟨ib, 0, none⟩) d.img.length ic) ∧ W.cell? ⟨g, 4, none⟩ = some v ∧ W.cell? ⟨g, 5, none⟩ = some (.bool d.set) ∧ W.cell? ⟨g, 6, none⟩ = some (.int .i64 d.left) ∧ W.cell? ⟨g, 7, none⟩ = some (.bool d.down) := by
  have hb := h.box
  exact ⟨hb.cell 0, hb.cell 1, hb.cell 2, hb.cell 3, hb.cell 4, hb.cell 5, hb.cell 6, hb.cell 7⟩
theorem RfX.fr (h : RfX W g ib ic p s r d v) (i : Nat) : W.frozen? ⟨g, i, none⟩ = false := by
  have hb := h.box
  exact hb.free i
/-- The row's cells. -/
theorem RfX.rows (h : RfX W g ib ic p s r d v) : ∃ A c, v = .slice A d.row.length c ∧ ∀ i (hi : i < d.row.length), ∃ q, A = some ⟨q, 0, none⟩ ∧ W.cell? ⟨q, i * 2, none⟩ = some (.int .i64 d.row[i].1) ∧ W.cell? ⟨q, i * 2 + 1, none⟩ = some (.string d.row[i].2) := by
  obtain ⟨A, c, e, hsrc⟩ := own_src h.own
  refine ⟨A, c, e, fun i hi => ?_⟩
  obtain ⟨q, c', e', _, _⟩ := own_at h.own (by omega)
  have hA : A = some ⟨q, 0, none⟩ := by rw [e] at e'; injection e'
  refine ⟨q, hA, ?_⟩
  have hl := rcells_len d.row
  obtain ⟨g1, g2⟩ := rcells_get d.row i hi
  have hown := h.own
  rw [e'] at hown
  have k1 := hown.cellAt (i * 2) (by omega)
  have k2 := hown.cellAt (i * 2 + 1) (by omega)
  rw [g1] at k1
  rw [g2] at k2
  exact ⟨k1, k2⟩
theorem RfX.setImg1 (h : RfX W g ib ic p s r d v) (o : Nat) (x : Nat) (ho : o < d.img.length) : RfX (W.setCell ⟨ib, o, none⟩ (.int .u8 (x : Int))) g ib ic p s r { d with img := d.img.set o x } v := by
  refine ⟨?_, ?_, own_set h.own (p := ⟨ib, o, none⟩) (fun k hk => (h.vne k hk).2) _, h.ne, by show (d.img.set o x).length ≤ ic; rw [List.length_set]; exact h.capok, h.vne⟩
  · show Bk _ _ _ [_, _, _, .slice (some ⟨ib, 0, none⟩) (d.img.set o x).length ic, _, _, _, _]
    rw [List.length_set]
    exact h.box.far (p := ⟨ib, o, none⟩) h.ne _
  · have := h.img.put o (by rw [List.length_map]; exact ho) (x : Int)
    have e1 : (ints d.img).set o (x : Int) = ints (d.img.set o x) := by simp [ints, List.map_set]
    rw [e1] at this
    exact this
theorem RfX.byte (h : RfX W g ib ic p s r d v) (o : Nat) (ho : o < d.img.length) : W.cell? ⟨ib, o, none⟩ = some (.int .u8 (d.img.getD o 0 : Nat)) ∧ W.frozen? ⟨ib, o, none⟩ = false := by
  refine ⟨?_, h.img.free o (by rw [List.length_map]; exact ho)⟩
  rw [h.img.cell o (by rw [List.length_map]; exact ho), List.getElem_map, List.getD_eq_getElem?_getD, List.getElem?_eq_getElem ho]
  rfl
theorem RfX.setDown (h : RfX W g ib ic p s r d v) : RfX (W.setCell ⟨g, 7, none⟩ (.bool true)) g ib ic p s r { d with down := true } v :=
  ⟨h.box.put 7 (.bool true), h.img.far (p := ⟨g, 7, none⟩) (Ne.symm h.ne) _, own_set h.own (p := ⟨g, 7, none⟩) (fun k hk => (h.vne k hk).1) (.bool true), h.ne, h.capok, h.vne⟩
theorem RfX.setLeft (h : RfX W g ib ic p s r d v) (n : Int) : RfX (W.setCell ⟨g, 6, none⟩ (.int .i64 n)) g ib ic p s r { d with left := n } v :=
  ⟨h.box.put 6 (.int .i64 n), h.img.far (p := ⟨g, 6, none⟩) (Ne.symm h.ne) _, own_set h.own (p := ⟨g, 6, none⟩) (fun k hk => (h.vne k hk).1) _, h.ne, h.capok, h.vne⟩
theorem RfX.setFuse (h : RfX W g ib ic p s r d v) (B : Bool) (n : Int) : RfX ((W.setCell ⟨g, 5, none⟩ (.bool B)).setCell ⟨g, 6, none⟩ (.int .i64 n)) g ib ic p s r { d with set := B, left := n } v :=
  ⟨(h.box.put 5 (.bool B)).put 6 (.int .i64 n), (h.img.far (p := ⟨g, 5, none⟩) (Ne.symm h.ne) _).far (p := ⟨g, 6, none⟩) (Ne.symm h.ne) _, own_set (own_set h.own (p := ⟨g, 5, none⟩) (fun k hk => (h.vne k hk).1) _) (p := ⟨g, 6, none⟩) (fun k hk => (h.vne k hk).1) _, h.ne, h.capok, h.vne⟩
/-- Nothing is pending any more. -/
theorem RfX.setNil (h : RfX W g ib ic p s r d v) : RfX (W.setCell ⟨g, 4, none⟩ (.slice none 0 0)) g ib ic p s r { d with row := [] } (.slice none 0 0) := by
  refine ⟨h.box.put 4 _, h.img.far (p := ⟨g, 4, none⟩) (Ne.symm h.ne) _, World.ownsRow_nil _ _ _ _, h.ne, h.capok, ?_⟩
  intro k hk
  simp [Value.ownBlock] at hk
theorem RfX.setUp (h : RfX W g ib ic p s r d v) : RfX (((W.setCell ⟨g, 4, none⟩ (.slice none 0 0)).setCell ⟨g, 7, none⟩ (.bool false)).setCell ⟨g, 5, none⟩ (.bool false)) g ib ic p s r { d with row := [], down := false, set := false } (.slice none 0 0) := by
  have h1 := h.setNil
  refine ⟨(h1.box.put 7 (.bool false)).put 5 (.bool false), (h1.img.far (p := ⟨g, 7, none⟩) (Ne.symm h.ne) _).far (p := ⟨g, 5, none⟩) (Ne.symm h.ne) _, World.ownsRow_nil _ _ _ _, h.ne, h.capok, ?_⟩
  intro k hk
  simp [Value.ownBlock] at hk
theorem FlMv.setUp2 {W' : World} (k : FlMv W W' g ib v v) : FlMv W (((W'.setCell ⟨g, 4, none⟩ (.slice none 0 0)).setCell ⟨g, 7, none⟩ (.bool false)).setCell ⟨g, 5, none⟩ (.bool false)) g ib v (.slice none 0 0) := by
  refine ⟨((k.1.set (by simp [foot]) _).set (by simp [foot]) _).set (by simp [foot]) _, ?_⟩
  intro x hx
  simp [Value.ownBlock] at hx
/-- One more is pending. -/
theorem RfX.push {w1 w' : World} {v' : Value} (h : RfX W g ib ic p s r d v) (hk : Kp W w1) (x : Int × ByteArray) (hown : w'.ownsRow 0 86 2 v' (d.row.length + 1) (rcells d.row ++ [.int .i64 x.1, .string x.2])) (hg : w1.grownBy w' v.ownBlock) (hat : v'.ownBlock = v.ownBlock ∨ v'.ownBlock = some w1.heap.size) :
    (∀ i, w'.frozen? ⟨g, i, none⟩ = false) ∧ w'.cell? ⟨g, 4, none⟩ = some v ∧ RfX (w'.setCell ⟨g, 4, none⟩ v') g ib ic p s r { d with row := d.row ++ [x] } v' ∧ FlMv W (w'.setCell ⟨g, 4, none⟩ v') g ib v v' := by
  have h1 := h.keep hk
  have lt1 := h1.foot_lt
  have gg : ∀ k, v'.ownBlock = some k → k ≠ g ∧ k ≠ ib := by
    intro k hk'
    rcases hat with e | e
    · exact h.vne k (e ▸ hk')
    · rw [e] at hk'
      injection hk' with hk'
      have a1 := lt1 g (by simp [foot])
      have a2 := lt1 ib (by simp [foot])
      exact ⟨by omega, by omega⟩
  have ng : some g ≠ v.ownBlock := fun e => (h.vne g e.symm).1 rfl
  have ni : some ib ≠ v.ownBlock := fun e => (h.vne ib e.symm).2 rfl
  have hb' : Bk w' g 73 [.int .i64 p, .int .i64 s, .int .i64 r, .slice (some ⟨ib, 0, none⟩) d.img.length ic, v, .bool d.set, .int .i64 d.left, .bool d.down] := (hg.block g h1.box.lt ng).trans h1.box
  have hi' : By w' ib (ints d.img) := h1.img.same (hg.block ib h1.img.lt ni)
  refine ⟨fun i => hb'.free i, hb'.cell 4, ⟨hb'.put 4 v', hi'.far (p := ⟨g, 4, none⟩) (Ne.symm h.ne) _, ?_, h.ne, h.capok, gg⟩, ?_, ?_⟩
  · have := own_set hown (p := ⟨g, 4, none⟩) (fun k hk' => (gg k hk').1) v'
    show World.ownsRow _ 0 _ 2 v' (d.row ++ [x]).length (rcells (d.row ++ [x]))
    rw [List.length_append, rcells_app]
    exact this
  · refine Mv.set (Mv.grown (Mv.of hk) hg (fun k hk' => by simp [foot, hk'])) (by simp [foot]) _
  · intro k hk'
    rcases hat with e | e
    · exact Or.inl (e ▸ hk')
    · rw [e] at hk'
      injection hk' with hk'
      have := hk.size
      exact Or.inr (by omega)
theorem ximg_conv {c : Nat} (h : RfX W g ib ic p s r d v) (ok : DevOk p s r d) (page : Int) (h0 : 0 ≤ page) (h1 : page < s * r) :
    (convert 53 9 (.slice (some ⟨ib, (page * p).toNat, none⟩) (((page + 1) * p).toNat - (page * p).toNat) c)).run Try.prog W = .ok (.string (strN (pgN d.img p.toNat page.toNat))) W := by
  obtain ⟨b1, b2, b3, b4, b5⟩ := page_bd ok.right h0 h1
  have hlen := ok.len
  have hp := ok.right.1
  have e1 : (page * p).toNat = page.toNat * p.toNat := by rw [Int.toNat_mul h0 (by omega)]
  have e2 : ((page + 1) * p).toNat - (page * p).toNat = p.toNat := by omega
  have := h.img.convAt (o := (page * p).toNat) (n := p.toNat) (c := c) (by rw [List.length_map]; omega)
  rw [e2, this]
  congr 2
  unfold strN
  congr 1
  have := pgN_ints d.img p.toNat page.toNat
  rw [← e1] at this
  exact this
end
end Go.Proofs.Ytbclmnlggngepaa
