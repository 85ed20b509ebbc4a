/- Merged texts: Flash, Flash2, Flash3, Flash4, Flash5, Flash6, Flash7, Flash8, Flash9, FlOk, FlPlain. -/
import Derived.Test.YtnhogmheedeeiaaGreatGA
import Derived.Test.YtnhogmheedeeiaaGreatShelf
import Derived.Lib.LazyBuf
import Derived.Lib.SlBuf
set_option linter.unusedSimpArgs false
set_option linter.unusedVariables false
/- Devices in memory: what they are, how they are kept. -/
namespace Go.Proofs.YtnhogmheedeeiaaGreat
open Go.RowKit
set_option linter.unusedVariables false
set_option maxRecDepth 20000

/-- What is pending: pages, and their bytes. -/
abbrev Rw := List (Int × ByteArray)
def rcells (l : Rw) : List Value := l.flatMap fun x => [.int .i64 x.1, .string x.2]
theorem rcells_cons (x : Int × ByteArray) (l : Rw) : rcells (x :: l) = .int .i64 x.1 :: .string x.2 :: rcells l := rfl
theorem rcells_app (l m : Rw) : rcells (l ++ m) = rcells l ++ rcells m := by simp [rcells]
theorem rcells_len (l : Rw) : (rcells l).length = l.length * 2 := by
  induction l with
  | nil => rfl
  | cons x l ih => rw [rcells_cons]; simp [ih]; omega
theorem rcells_get (l : Rw) : ∀ i (h : i < l.length), (rcells l)[i * 2]? = some (.int .i64 l[i].1) ∧ (rcells l)[i * 2 + 1]? = some (.string l[i].2) := by
  induction l with
  | nil => intro i h; simp at h
  | cons x l ih =>
    intro i h
    rw [rcells_cons]
    cases i with
    | zero => exact ⟨rfl, rfl⟩
    | succ i =>
      have := ih i (by simpa using h)
      rw [show (i + 1) * 2 = (i * 2) + 1 + 1 by omega]
      simpa using this
theorem rcells_one (l : Rw) : ∀ u ∈ rcells l, u.oneCell' = true := by
  intro u hu
  simp only [rcells, List.mem_flatMap] at hu
  obtain ⟨x, _, hx⟩ := hu
  simp at hx
  rcases hx with rfl | rfl <;> rfl

/-- A device, as it is plainly. -/
structure Dev where
  img : List Nat
  row : Rw
  down : Bool
  set : Bool
  left : Int
abbrev ints (l : List Nat) : List Int := l.map fun (n : Nat) => (n : Int)
/-- A device in memory: its struct is block g, its bytes are block ib. -/
structure FlAt (W : World) (g ib ic : Nat) (p s r : Int) (d : Dev) (v : Value) : Prop where
  box : Bk W g 85 [.int .i64 p, .int .i64 s, .int .i64 r, .slice (some ⟨ib, 0, none⟩) d.img.length ic, v, .bool d.down, .bool d.set, .int .i64 d.left]
  img : By W ib (ints d.img)
  own : W.ownsRow 0 110 2 v d.row.length (rcells d.row)
  ne : g ≠ ib
  capok : d.img.length ≤ ic
  vne : ∀ k, v.ownBlock = some k → k ≠ g ∧ k ≠ ib
/-- The blocks that are the device's. -/
def foot (g ib : Nat) (v : Value) : List Nat := g :: ib :: v.ownBlock.toList
/-- What a call on a device does to memory: its own blocks alone; its row lies where it lay, or in new memory. -/
def FlMv (W W' : World) (g ib : Nat) (v v' : Value) : Prop := Mv (foot g ib v) W W' ∧ (∀ k, v'.ownBlock = some k → v.ownBlock = some k ∨ W.heap.size ≤ k)
section
variable {W W' : World} {g ib ic : Nat} {p s r : Int} {d : Dev} {v : Value}
theorem FlAt.keep (h : FlAt W g ib ic p s r d v) (k : Kp W W') : FlAt W' g ib ic p s r d v :=
  ⟨h.box.keep k, h.img.keep k, own_keep h.own k, h.ne, h.capok, h.vne⟩
theorem FlAt.mv {S : List Nat} (h : FlAt W g ib ic p s r d v) (k : Mv S W W') (hd : ∀ x ∈ foot g ib v, x ∉ S) : FlAt W' g ib ic p s r d v := by
  have hb := h.box
  refine ⟨hb.mv k (hd g (by simp [foot])), h.img.mv k (hd ib (by simp [foot])), ?_, h.ne, h.capok, h.vne⟩
  rcases h.own with ⟨hl, ⟨e1, e2⟩ | ⟨q, cap, cur, e1, e2, e3, e4⟩⟩
  · exact ⟨hl, Or.inl ⟨e1, e2⟩⟩
  · refine ⟨hl, Or.inr ⟨q, cap, cur, e1, e2, ?_, e4⟩⟩
    have hq : q < W.heap.size := (Array.getElem?_eq_some_iff.1 e3).1
    rw [k.block q hq (hd q (by simp [foot, e1, Value.ownBlock]))]
    exact e3
theorem FlAt.foot_lt (h : FlAt W g ib ic p s r d v) : ∀ x ∈ foot g ib v, x < W.heap.size := by
  intro x hx
  have hb := h.box
  simp only [foot, List.mem_cons, Option.mem_toList] at hx
  rcases hx with rfl | rfl | hx
  · exact hb.lt
  · exact h.img.lt
  · rcases h.own with ⟨hl, ⟨e1, e2⟩ | ⟨q, cap, cur, e1, e2, e3, e4⟩⟩
    · rw [e1] at hx; simp [Value.ownBlock] at hx
    · rw [e1] at hx
      simp [Value.ownBlock] at hx
      subst hx
      exact (Array.getElem?_eq_some_iff.1 e3).1
theorem FlMv.refl (W : World) (g ib : Nat) (v : Value) : FlMv W W g ib v v := ⟨Mv.refl W, fun k hk => Or.inl hk⟩
theorem FlMv.of (k : Kp W W') : FlMv W W' g ib v v := ⟨Mv.of k, fun k hk => Or.inl hk⟩
theorem FlMv.trans {W'' : World} {v' v'' : Value} (h : FlMv W W' g ib v v') (k : FlMv W' W'' g ib v' v'') : FlMv W W'' g ib v v'' := by
  refine ⟨?_, fun x hx => ?_⟩
  · refine ⟨k.1.os.trans h.1.os, k.1.tape.trans h.1.tape, k.1.output.trans h.1.output, Nat.le_trans h.1.size k.1.size, fun b hb hS => ?_⟩
    rw [← h.1.block b hb hS]
    refine k.1.block b (Nat.lt_of_lt_of_le hb h.1.size) ?_
    simp only [foot, List.mem_cons, Option.mem_toList, not_or] at hS ⊢
    refine ⟨hS.1, hS.2.1, fun hx => ?_⟩
    rcases h.2 b (by simpa using hx) with h1 | h1
    · exact hS.2.2 (by simpa using h1)
    · omega
  · rcases k.2 x hx with h1 | h1
    · exact h.2 x h1
    · exact Or.inr (Nat.le_trans h.1.size h1)
/-- Disjoint from old memory. -/
theorem FlMv.kp {w0 : World} {v' : Value} (h : Kp w0 W) (hS : ∀ b ∈ foot g ib v, w0.heap.size ≤ b) (k : FlMv W W' g ib v v') : Kp w0 W' ∧ ∀ b ∈ foot g ib v', w0.heap.size ≤ b := by
  refine ⟨Mv.kp h hS k.1, fun b hb => ?_⟩
  simp only [foot, List.mem_cons, Option.mem_toList] at hb
  rcases hb with rfl | rfl | hb
  · exact hS _ (by simp [foot])
  · exact hS _ (by simp [foot])
  · rcases k.2 b (by simpa using hb) with h1 | h1
    · exact hS _ (by simp [foot, h1])
    · exact Nat.le_trans h.size h1
theorem FlAt.c8 (h : FlAt W g ib ic p s r d v) : W.cell? ⟨g, 0, none⟩ = some (.int .i64 p) ∧ W.cell? ⟨g, 1, none⟩ = some (.int .i64 s) ∧ W.cell? ⟨g, 2, none⟩ = some (.int .i64 r) ∧ W.cell? ⟨g, 3, none⟩ = some (.slice (some ⟨ib, 0, none⟩) d.img.length ic) ∧ W.cell? ⟨g, 4, none⟩ = some v ∧ W.cell? ⟨g, 5, none⟩ = some (.bool d.down) ∧ W.cell? ⟨g, 6, none⟩ = some (.bool d.set) ∧ W.cell? ⟨g, 7, none⟩ = some (.int .i64 d.left) := by
  have hb := h.box
  exact ⟨hb.cell 0, hb.cell 1, hb.cell 2, hb.cell 3, hb.cell 4, hb.cell 5, hb.cell 6, hb.cell 7⟩
theorem FlAt.fr (h : FlAt W g ib ic p s r d v) (i : Nat) : W.frozen? ⟨g, i, none⟩ = false := by
  have hb := h.box
  exact hb.free i
/-- The row's cells. -/
theorem FlAt.rows (h : FlAt W g ib ic p s r d v) : ∃ A c, v = .slice A d.row.length c ∧ ∀ i (hi : i < d.row.length), ∃ q, A = some ⟨q, 0, none⟩ ∧ W.cell? ⟨q, i * 2, none⟩ = some (.int .i64 d.row[i].1) ∧ W.cell? ⟨q, i * 2 + 1, none⟩ = some (.string d.row[i].2) := by
  obtain ⟨A, c, e, hsrc⟩ := own_src h.own
  refine ⟨A, c, e, fun i hi => ?_⟩
  obtain ⟨q, c', e', _, _⟩ := own_at h.own (by omega)
  have hA : A = some ⟨q, 0, none⟩ := by rw [e] at e'; injection e'
  refine ⟨q, hA, ?_⟩
  have hl := rcells_len d.row
  obtain ⟨g1, g2⟩ := rcells_get d.row i hi
  have hown := h.own
  rw [e'] at hown
  have k1 := hown.cellAt (i * 2) (by omega)
  have k2 := hown.cellAt (i * 2 + 1) (by omega)
  rw [g1] at k1
  rw [g2] at k2
  exact ⟨k1, k2⟩
end
end Go.Proofs.YtnhogmheedeeiaaGreat
/- The contracts of package flash: what reads. -/
namespace Go.Proofs.YtnhogmheedeeiaaGreat
open Go.RowKit
set_option linter.unusedVariables false
set_option maxRecDepth 20000

/-- What holds of a device. -/
structure DevOk (p s r : Int) (d : Dev) : Prop where
  right : RightG p s r
  len : (d.img.length : Int) = p * s * r
  byt : ∀ n ∈ d.img, n < 256
  rows : ∀ x ∈ d.row, 0 ≤ x.1 ∧ x.1 < s * r ∧ (x.2.size : Int) = p
  left : d.set = true → 0 ≤ d.left ∧ d.left ≤ 9223372036854775807
  rl : d.row.length ≤ 100000
/-- What is pending of a page: of several the last. -/
def pend (row : Rw) (page : Int) : Option ByteArray := row.foldl (fun acc x => if x.1 = page then some x.2 else acc) none
theorem pend_nil (page : Int) : pend [] page = none := rfl
theorem pend_snoc (row : Rw) (x : Int × ByteArray) (page : Int) : pend (row ++ [x]) page = if x.1 = page then some x.2 else pend row page := by
  simp [pend, List.foldl_append]
/-- A page of an image. -/
def pgN (img : List Nat) (p page : Nat) : List Nat := (img.drop (page * p)).take p
def heldD (d : Dev) (p : Int) (page : Int) : ByteArray := (pend d.row page).getD (strN (pgN d.img p.toNat page.toNat))
def blankS (p : Int) : ByteArray := fillS 255 p.toNat
def readD (p s r : Int) (d : Dev) (page : Int) : ByteArray × Int :=
  if d.down = true then (⟨#[]⟩, 6) else if page < 0 ∨ s * r ≤ page then (⟨#[]⟩, 1) else (heldD d p page, 0)
def countD (d : Dev) : Dev × Bool :=
  if d.set = false then (d, false) else if d.left = 0 then ({ d with down := true, set := false }, true) else ({ d with left := d.left - 1 }, false)

section
variable {W : World} {g ib ic : Nat} {p s r : Int} {d : Dev} {v : Value}
set_option maxHeartbeats 400000 in
theorem fdown (h : FlAt W g ib ic p s r d v) : Calls Tryz.prog 21 #[.pointer (some ⟨g, 0, none⟩)] W fun e w' => e = .returned (.bool d.down) ∧ Kp W w' := by
  obtain ⟨c0, c1, c2, c3, c4, c5, c6, c7⟩ := h.c8
  go_enter Tryz.func21, Tryz.ntmps21
  go_wp2_with fail
  go_ret
  exact ⟨rfl, Kp.refl _⟩
set_option maxHeartbeats 400000 in
theorem fpending (h : FlAt W g ib ic p s r d v) : Calls Tryz.prog 20 #[.pointer (some ⟨g, 0, none⟩)] W fun e w' => e = .returned (.int .i64 d.row.length) ∧ Kp W w' := by
  obtain ⟨c0, c1, c2, c3, c4, c5, c6, c7⟩ := h.c8
  obtain ⟨A, cc, rfl, _⟩ := h.rows
  go_enter Tryz.func20, Tryz.ntmps20
  go_wp2_with fail
  go_ret
  exact ⟨rfl, Kp.refl _⟩
set_option maxHeartbeats 400000 in
theorem fimage (h : FlAt W g ib ic p s r d v) : Calls Tryz.prog 18 #[.pointer (some ⟨g, 0, none⟩)] W fun e w' => e = .returned (.string (strN d.img)) ∧ Kp W w' := by
  obtain ⟨c0, c1, c2, c3, c4, c5, c6, c7⟩ := h.c8
  have hcv := h.img.conv (n := d.img.length) (c := ic) (by simp)
  go_enter Tryz.func18, Tryz.ntmps18
  go_wp2_with fail
  go_ret
  exact ⟨rfl, Kp.refl _⟩
set_option maxHeartbeats 400000 in
theorem fgeom (h : FlAt W g ib ic p s r d v) : Calls Tryz.prog 60 #[.pointer (some ⟨g, 0, none⟩)] W fun e w' => e = .returned (geo p s r) ∧ Kp W w' := by
  have hb := h.box
  have c0 := fun O => (hb.keep (Kp.one W O)).cell 0
  have c1 := fun O => (hb.keep (Kp.one W O)).cell 1
  have c2 := fun O => (hb.keep (Kp.one W O)).cell 2
  go_enter Tryz.func60, Tryz.ntmps60
  go_wp2_with fail
  refine bodyPost_ret (v := geo p s r) (by simp [results, Tryz.results60, go_sem]) rfl ⟨rfl, ?_⟩
  (repeat (first | with_reducible exact Kp.refl _ | with_reducible assumption | with_reducible refine Kp.alloc ?_ _ | with_reducible refine Kp.drew ?_ | with_reducible refine Kp.drewN ?_ _ | exact Kp.refl _ | assumption | refine Kp.alloc ?_ _ | refine Kp.drew ?_ | refine Kp.drewN ?_ _ | refine Kp.trans ?_ (by assumption)))
set_option maxHeartbeats 800000 in
theorem fpages (h : FlAt W g ib ic p s r d v) (hR : RightG p s r) : Calls Tryz.prog 63 #[.pointer (some ⟨g, 0, none⟩)] W fun e w' => e = .returned (.int .i64 (s * r)) ∧ Kp W w' := by
  have HC := Lib.hid (fun W' (k : Kp W W') => (h.keep k).c8)
  have hm := mul_sr hR
  have hw : IntKind.i64.wrap (s * r) = s * r := IntWalk.i64_in _ (by omega)
  clear hm
  go_enter Tryz.func63, Tryz.ntmps63
  go_wp2_with fail
  have hInh := fun (x v : Value) => (⟨fun h => h _ ((Kp.refl W).drew), fun h _ _ => h⟩ : (∀ Wz9, (fun W' => Kp W W') Wz9 → x = v) ↔ x = v)
  dsimp only at hInh
  refine wp_region_quietC (C := fun W' => Kp W W') (by kernel_rfl) (by kernel_rfl) ((Kp.refl W).drew) ?_
  repeat (first | go_big_quiet_step ((intro hW; first | fail | (with_reducible rfl) | (obtain ⟨c0, c1, c2, c3, c4, c5, c6, c7⟩ := HC.out _ hW; (try go_simp); first | done | with_reducible rfl | exact ⟨rfl, rfl⟩))) | quiet_step ((intro hW; first | fail | (with_reducible rfl) | (obtain ⟨c0, c1, c2, c3, c4, c5, c6, c7⟩ := HC.out _ hW; (try go_simp); first | done | with_reducible rfl | exact ⟨rfl, rfl⟩))))
  refine wpQuiet_nil ?_
  intro wq hwq
  clear hInh
  go_wp2_with fail
  go_ret
  exact ⟨rfl, hwq⟩
theorem repF (c : Nat) : (⟨(Lib.repeatL [255] c).toArray⟩ : ByteArray) = fillS 255 c := by
  apply ByteArray.ext
  apply Array.toList_inj.1
  unfold fillS
  rw [strOfNums_data]
  simp
  induction c with
  | zero => rfl
  | succ c ih => rw [Lib.repeatL, ih]; rfl
theorem repK255 (N : Int) (h0 : 0 ≤ N) (h1 : N ≤ 140737488351232) (w : World) : Calls Tryz.prog 59 #[.string ⟨#[255]⟩, .int .i64 N] w fun e w' => e = .returned (.string (fillS 255 N.toNat)) ∧ Kp w w' := by
  have := Tryz.strings_Repeat ⟨#[255]⟩ N.toNat w (by omega) (by show 1 * _ ≤ _; omega)
  rw [Int.toNat_of_nonneg h0] at this
  exact this.mono fun e w' ⟨h1, h2⟩ => ⟨by rw [h1, ← repF], h2⟩
set_option maxHeartbeats 400000 in
theorem fblank (h : FlAt W g ib ic p s r d v) (hR : RightG p s r) : Calls Tryz.prog 73 #[.pointer (some ⟨g, 0, none⟩)] W fun e w' => e = .returned (.string (blankS p)) ∧ Kp W w' := by
  obtain ⟨c0, c1, c2, c3, c4, c5, c6, c7⟩ := h.c8
  obtain ⟨r1, r2, r3, r4, r5, r6⟩ := hR
  go_enter Tryz.func73, Tryz.ntmps73
  go_wp2_with fail
  refine (repK255 p (by omega) (by omega) _).mono ?_
  rintro e w' ⟨rfl, hk⟩
  go_wp2_with fail
  go_ret
  exact ⟨rfl, hk⟩
/-- A row's part, searched from its end. -/
theorem pend_take (row : Rw) (page : Int) (k : Nat) (h : k < row.length) : pend (row.take (k + 1)) page = if row[k].1 = page then some row[k].2 else pend (row.take k) page := by
  rw [List.take_succ_eq_append_getElem h, pend_snoc]
def pendV (row : Rw) (page : Int) : ByteArray × Bool := match pend row page with | some b => (b, true) | none => (⟨#[]⟩, false)
set_option maxHeartbeats 1600000 in
theorem fpend (h : FlAt W g ib ic p s r d v) (hl : d.row.length ≤ 1000000) (page : Int) : Calls Tryz.prog 64 #[.pointer (some ⟨g, 0, none⟩), .int .i64 page] W fun e w' => e = .returned (.tuple #[.string (pendV d.row page).1, .bool (pendV d.row page).2]) ∧ Kp W w' := by
  obtain ⟨c0, c1, c2, c3, c4, c5, c6, c7⟩ := h.c8
  obtain ⟨A, cc, rfl, hrow⟩ := h.rows
  have HR := Lib.hid hrow
  clear hrow
  go_enter Tryz.func64, Tryz.ntmps64
  go_wp2_with fail
  go_loop [6] (fun i => ∃ k : Nat, k ≤ d.row.length ∧ i = .int .i64 ((k : Int) - 1) ∧ pend d.row page = pend (d.row.take k) page) (fun i => ((intOf i) + 1).toNat)
  case atStart => exact ⟨d.row.length, Nat.le_refl _, rfl, by rw [List.take_length]⟩
  case round =>
    obtain ⟨k, hk, rfl, hpd⟩ := hrel
    rcases k with _ | k
    · rw [List.take_zero, pend_nil] at hpd
      have hpv : pendV d.row page = (⟨#[]⟩, false) := by unfold pendV; rw [hpd]
      have HP := Lib.hid hpv
      clear hpd hpv
      go_wp2_with fail
      go_ret2
      exact ⟨by rw [HP.out]; rfl, Kp.refl _⟩
    · have hkl : k < d.row.length := by omega
      have hkl2 : (k : Int) < (d.row.length : Int) := by omega
      obtain ⟨q, rfl, e1, e2⟩ := HR.out k hkl
      rw [pend_take _ _ _ hkl] at hpd
      have hcast : (((k + 1 : Nat) : Int) - 1) = (k : Int) := by omega
      rw [hcast]
      by_cases hpg : d.row[k].1 = page
      · rw [if_pos hpg] at hpd
        have hpv : pendV d.row page = (d.row[k].2, true) := by unfold pendV; rw [hpd]
        have HP := Lib.hid hpv
        have hb : (d.row[k].1 == page) = true := by simp [hpg]
        clear hpd hpv hcast hpg
        go_wp2_with fail
        go_ret2
        exact ⟨by rw [HP.out]; rfl, Kp.refl _⟩
      · rw [if_neg hpg] at hpd
        have HP := Lib.hid hpd
        have hb : (d.row[k].1 == page) = false := by simp [hpg]
        clear hpd hcast hpg
        go_wp2_with fail
        go_round
        case rel => exact ⟨k, by omega, rfl, HP.out⟩
        case measure => simp [intOf]
end
end Go.Proofs.YtnhogmheedeeiaaGreat
/- The contracts of package flash: Read, count, do. -/
namespace Go.Proofs.YtnhogmheedeeiaaGreat
open Go.RowKit
set_option linter.unusedVariables false
set_option maxRecDepth 20000

/-- Where a page lies. -/
theorem page_bd {p s r page : Int} (hR : RightG p s r) (h0 : 0 ≤ page) (h1 : page < s * r) : 0 ≤ page * p ∧ page * p + p ≤ p * s * r ∧ (page + 1) * p = page * p + p ∧ page ≤ 119 ∧ p * s * r ≤ 15360 := by
  obtain ⟨m1, m2, m3, m4⟩ := mul3 hR
  have h2 := (mul_sr hR).2.1
  obtain ⟨r1, r2, r3, r4, r5, r6⟩ := hR
  refine ⟨Int.mul_nonneg h0 (by omega), ?_, by rw [Int.add_mul, Int.one_mul], by omega, m4⟩
  have h3 : (page + 1) * p ≤ (s * r) * p := Int.mul_le_mul_of_nonneg_right (by omega) (by omega)
  rw [Int.add_mul, Int.one_mul] at h3
  rw [Int.mul_assoc, Int.mul_comm p (s * r)]
  exact h3
theorem pgN_len (img : List Nat) (p page : Nat) (h : page * p + p ≤ img.length) : (pgN img p page).length = p := by
  unfold pgN
  rw [List.length_take, List.length_drop]
  omega
theorem own_set {W : World} {e : TypeId} {size n : Nat} {v : Value} {xs : List Value} (h : W.ownsRow 0 e size v n xs) {p : Addr} (hp : ∀ k, v.ownBlock = some k → k ≠ p.block) (u : Value) : (W.setCell p u).ownsRow 0 e size v n xs := by
  rcases h with ⟨hl, ⟨e1, e2⟩ | ⟨q, cap, cur, e1, e2, e3, e4⟩⟩
  · exact ⟨hl, Or.inl ⟨e1, e2⟩⟩
  · refine ⟨hl, Or.inr ⟨q, cap, cur, e1, e2, ?_, e4⟩⟩
    rw [Below.heap_setCell W p u q (hp q (by rw [e1]; rfl))]
    exact e3
section
variable {W : World} {g ib ic : Nat} {p s r : Int} {d : Dev} {v : Value}
theorem pgN_ints (img : List Nat) (p page : Nat) : ((ints img).drop (page * p)).take p = ints (pgN img p page) := by
  unfold pgN ints
  rw [← List.map_drop, ← List.map_take]
theorem img_conv {c : Nat} (h : FlAt W g ib ic p s r d v) (ok : DevOk p s r d) (page : Int) (h0 : 0 ≤ page) (h1 : page < s * r) :
    (convert 55 9 (.slice (some ⟨ib, (page * p).toNat, none⟩) (((page + 1) * p).toNat - (page * p).toNat) c)).run Tryz.prog W = .ok (.string (strN (pgN d.img p.toNat page.toNat))) W := by
  obtain ⟨b1, b2, b3, b4, b5⟩ := page_bd ok.right h0 h1
  have hlen := ok.len
  have hp := ok.right.1
  have e1 : (page * p).toNat = page.toNat * p.toNat := by rw [Int.toNat_mul h0 (by omega)]
  have e2 : ((page + 1) * p).toNat - (page * p).toNat = p.toNat := by omega
  have := h.img.convAt (o := (page * p).toNat) (n := p.toNat) (c := c) (by rw [List.length_map]; omega)
  rw [e2, this]
  congr 2
  unfold strN
  congr 1
  have := pgN_ints d.img p.toNat page.toNat
  rw [← e1] at this
  exact this
set_option maxRecDepth 20000 in
set_option maxHeartbeats 1600000 in
theorem fread_img (h : FlAt W g ib ic p s r d v) (ok : DevOk p s r d) (page : Int) (h0 : 0 ≤ page) (h1 : page < s * r) (hd : d.down = false) (hp : pend d.row page = none) :
    Calls Tryz.prog 31 #[.pointer (some ⟨g, 0, none⟩), .int .i64 page] W fun e w' => e = .returned (.tuple #[.string (strN (pgN d.img p.toNat page.toNat)), .int .i64 0]) ∧ Kp W w' := by
  have hrl := ok.rl
  have hlen := ok.len
  obtain ⟨b1, b2, b3, b4, b5⟩ := page_bd ok.right h0 h1
  obtain ⟨r1, r2, r3, r4, r5, r6⟩ := id ok.right
  have HD := Lib.hid (fdown h)
  rw [hd] at HD
  have HPG := Lib.hid (fpages h ok.right)
  have HPE := Lib.hid (fun W' (k : Kp W W') => fpend (h.keep k) (by omega) page)
  have hpv : pendV d.row page = (⟨#[]⟩, false) := by unfold pendV; rw [hp]
  rw [hpv] at HPE
  have HPP := Lib.hid (fun W' (k : Kp W W') => fpages (h.keep k) ok.right)
  have hcap := h.capok
  have HC := Lib.hid (fun W' (k : Kp W W') => (h.keep k).c8)
  have q1 : IntKind.i64.wrap (page * p) = page * p := IntWalk.i64_in _ (by omega)
  have q2 : IntKind.i64.wrap (page + 1) = page + 1 := IntWalk.i64_in _ (by omega)
  have q3 : IntKind.i64.wrap ((page + 1) * p) = (page + 1) * p := IntWalk.i64_in _ (by omega)
  have z1 : page * p ≤ (page + 1) * p := by omega
  have z2 : 0 ≤ (page + 1) * p := by omega
  have z3 : (page + 1) * p ≤ (d.img.length : Int) := by omega
  have z4 : (page + 1) * p ≤ (ic : Int) := by omega
  have z5 : page * p ≤ (ic : Int) := by omega
  have z6 : max ((page + 1) * p) 0 = (page + 1) * p := by omega
  have z7 : ¬ (ic = (page * p).toNat) := by omega
  have HI := Lib.hid (fun W' (k : Kp W W') => img_conv (c := ic - (page * p).toNat) (h.keep k) ok page h0 h1)
  clear hp hpv hd b3
  go_enter Tryz.func31, Tryz.ntmps31
  go_wp2_with fail
  refine (HD.out).mono ?_
  rintro e w1 ⟨rfl, hk1⟩
  go_wp2_with fail
  refine (HPP.out _ hk1).mono ?_
  rintro e w2 ⟨rfl, hk2⟩
  go_wp2_with fail
  refine (HPE.out _ (hk1.trans hk2)).mono ?_
  rintro e w3 ⟨rfl, hk3⟩
  have hK3 := (hk1.trans hk2).trans hk3
  have HC3 := Lib.hid (fun W' (k : Kp w3 W') => HC.out _ (hK3.trans k))
  have HI3 := Lib.hid (fun W' (k : Kp w3 W') => HI.out _ (hK3.trans k))
  go_wp2_with fail
  refine wp_region_rel (R := Kp) (C := fun W' => Kp w3 W') (by kernel_rfl) (by kernel_rfl) (Kp.refl w3).drew (fun _ _ h k => h.trans k) Kp.refl (fun _ _ _ h k => h.trans k) ?_
  repeat (refine wpRel_step (fun K hK => ?_); apply rel_eq; (case ob => (intro f W hW hd; (obtain ⟨c0, c1, c2, c3, c4, c5, c6, c7⟩ := HC3.out _ hW); (try simp [deps, factOf, Region.binds] at hd); unfold relOp; go_simp; (first | exact ⟨Kp.refl _, rfl⟩ | exact Kp.refl _ | (refine ⟨Kp.refl _, ?_⟩; fail)))); go_simp; refine hK _ _ ?_; clear hK K)
  refine wpRel_step (fun K hK => ?_)
  apply rel_fact (fun v _ => v = .string (strN (pgN d.img p.toNat page.toNat))) (fun _ _ _ _ h => h)
  case ob =>
    intro f W hW hd
    have hcv := HI3.out _ hW
    (try simp [deps, factOf, Region.binds] at hd)
    unfold relOp
    go_simp
    first | exact ⟨Kp.refl _, rfl⟩ | exact Kp.refl _
  go_simp
  refine hK _ _ ?_
  clear hK K
  repeat (refine wpRel_step (fun K hK => ?_); apply rel_eq; (case ob => (intro f W hW hd; (obtain ⟨c0, c1, c2, c3, c4, c5, c6, c7⟩ := HC3.out _ hW); (try simp [deps, factOf, Region.binds] at hd); unfold relOp; go_simp; (first | exact ⟨Kp.refl _, rfl⟩ | exact Kp.refl _ | (refine ⟨Kp.refl _, ?_⟩; fail)))); go_simp; refine hK _ _ ?_; clear hK K)
  refine wpRel_nil ?_
  intro f W' hW hall
  have h21 : f 21 = .string (strN (pgN d.img p.toNat page.toNat)) := allF_get hall 21 _ rfl
  have h22 : f 22 = .int .i64 0 := allF_get hall 22 _ rfl
  clear hall
  dsimp only
  rw [h21, h22]
  go_wp2_with fail
  go_ret2
  exact ⟨rfl, hK3.trans hW⟩
theorem pend_or (row : Rw) (page : Int) : (pend row page = none ∧ pendV row page = (⟨#[]⟩, false)) ∨ ∃ b, pend row page = some b ∧ pendV row page = (b, true) := by
  unfold pendV
  cases pend row page with
  | none => exact Or.inl ⟨rfl, rfl⟩
  | some b => exact Or.inr ⟨b, rfl, rfl⟩
set_option maxHeartbeats 1600000 in
theorem fread_any (h : FlAt W g ib ic p s r d v) (ok : DevOk p s r d) (page : Int) :
    Calls Tryz.prog 31 #[.pointer (some ⟨g, 0, none⟩), .int .i64 page] W fun e w' => e = .returned (.tuple #[.string (readD p s r d page).1, .int .i64 (readD p s r d page).2]) ∧ Kp W w' := by
  have hrl := ok.rl
  have HD := Lib.hid (fdown h)
  have HPP := Lib.hid (fun W' (k : Kp W W') => fpages (h.keep k) ok.right)
  have HPE := Lib.hid (fun W' (k : Kp W W') => fpend (h.keep k) (by omega) page)
  rcases hd : d.down with _ | _
  · rw [hd] at HD
    have hcases : page < 0 ∨ (0 ≤ page ∧ s * r ≤ page) ∨ (0 ≤ page ∧ page < s * r) := by omega
    rcases hcases with hc | ⟨hc1, hc⟩ | ⟨hc1, hc⟩
    · have e1 : readD p s r d page = (⟨#[]⟩, 1) := by unfold readD; rw [if_neg (by rw [hd]; simp), if_pos (Or.inl hc)]
      rw [e1]
      clear e1 hd HPE
      go_enter Tryz.func31, Tryz.ntmps31
      go_wp2_with fail
      refine (HD.out).mono ?_
      rintro e w1 ⟨rfl, hk1⟩
      go_wp2_with fail
      go_ret2
      exact ⟨rfl, hk1⟩
    · have e1 : readD p s r d page = (⟨#[]⟩, 1) := by unfold readD; rw [if_neg (by rw [hd]; simp), if_pos (Or.inr hc)]
      rw [e1]
      clear e1 hd HPE
      have hdec : decide (s * r ≤ page) = true := by simpa using hc
      go_enter Tryz.func31, Tryz.ntmps31
      go_wp2_with fail
      refine (HD.out).mono ?_
      rintro e w1 ⟨rfl, hk1⟩
      go_wp2_with fail
      refine (HPP.out _ hk1).mono ?_
      rintro e w2 ⟨rfl, hk2⟩
      go_wp2_with fail
      go_ret2
      exact ⟨rfl, hk1.trans hk2⟩
    · have e1 : readD p s r d page = (heldD d p page, 0) := by unfold readD; rw [if_neg (by rw [hd]; simp), if_neg (by omega)]
      rcases pend_or d.row page with ⟨hp, hpv⟩ | ⟨b, hp, hpv⟩
      · have e2 : heldD d p page = strN (pgN d.img p.toNat page.toNat) := by unfold heldD; rw [hp]; rfl
        rw [e1, e2]
        exact fread_img h ok page hc1 hc hd hp
      · have e2 : heldD d p page = b := by unfold heldD; rw [hp]; rfl
        rw [e1, e2]
        rw [hpv] at HPE
        have hdec : decide (s * r ≤ page) = false := by simp; omega
        clear e1 e2 hp hpv hd
        go_enter Tryz.func31, Tryz.ntmps31
        go_wp2_with fail
        refine (HD.out).mono ?_
        rintro e w1 ⟨rfl, hk1⟩
        go_wp2_with fail
        refine (HPP.out _ hk1).mono ?_
        rintro e w2 ⟨rfl, hk2⟩
        go_wp2_with fail
        refine (HPE.out _ (hk1.trans hk2)).mono ?_
        rintro e w3 ⟨rfl, hk3⟩
        go_wp2_with fail
        go_ret2
        exact ⟨rfl, (hk1.trans hk2).trans hk3⟩
  · rw [hd] at HD
    have e1 : readD p s r d page = (⟨#[]⟩, 6) := by unfold readD; rw [if_pos hd]
    rw [e1]
    clear e1 hd HPE
    go_enter Tryz.func31, Tryz.ntmps31
    go_wp2_with fail
    refine (HD.out).mono ?_
    rintro e w1 ⟨rfl, hk1⟩
    go_wp2_with fail
    go_ret2
    exact ⟨rfl, hk1⟩

/-! count -/
theorem FlAt.setDown (h : FlAt W g ib ic p s r d v) : FlAt ((W.setCell ⟨g, 5, none⟩ (.bool true)).setCell ⟨g, 6, none⟩ (.bool false)) g ib ic p s r { d with down := true, set := false } v := by
  refine ⟨(h.box.put 5 (.bool true)).put 6 (.bool false), (h.img.far (p := ⟨g, 5, none⟩) (Ne.symm h.ne) _).far (p := ⟨g, 6, none⟩) (Ne.symm h.ne) _, ?_, h.ne, h.capok, h.vne⟩
  have := own_set (own_set h.own (p := ⟨g, 5, none⟩) (fun k hk => (h.vne k hk).1) (.bool true)) (p := ⟨g, 6, none⟩) (fun k hk => (h.vne k hk).1) (.bool false)
  exact this
theorem FlAt.setLeft (h : FlAt W g ib ic p s r d v) (n : Int) : FlAt (W.setCell ⟨g, 7, none⟩ (.int .i64 n)) g ib ic p s r { d with left := n } v :=
  ⟨h.box.put 7 (.int .i64 n), h.img.far (p := ⟨g, 7, none⟩) (Ne.symm h.ne) _, own_set h.own (p := ⟨g, 7, none⟩) (fun k hk => (h.vne k hk).1) _, h.ne, h.capok, h.vne⟩
/-- What 'count' leaves. -/
def CountPost (W : World) (g ib ic : Nat) (p s r : Int) (d : Dev) (v : Value) (e : Ending) (w' : World) : Prop :=
  e = .returned (.bool (countD d).2) ∧ FlAt w' g ib ic p s r (countD d).1 v ∧ FlMv W w' g ib v v
set_option maxHeartbeats 800000 in
theorem fcount (h : FlAt W g ib ic p s r d v) (hl : d.set = true → 0 ≤ d.left ∧ d.left ≤ 9223372036854775807) :
    Calls Tryz.prog 70 #[.pointer (some ⟨g, 0, none⟩)] W (CountPost W g ib ic p s r d v) := by
  obtain ⟨c0, c1, c2, c3, c4, c5, c6, c7⟩ := h.c8
  have f5 := h.fr 5
  have f6 := h.fr 6
  have f7 := h.fr 7
  rcases hs : d.set with _ | _
  · rw [hs] at c6
    have e1 : countD d = (d, false) := by unfold countD; rw [if_pos hs]
    have HE := Lib.hid e1
    clear e1 hs hl
    go_enter Tryz.func70, Tryz.ntmps70
    go_wp2_with fail
    go_ret
    exact ⟨by rw [HE.out]; rfl, by rw [HE.out]; exact h, FlMv.refl _ _ _ _⟩
  · rw [hs] at c6
    obtain ⟨l0, l1⟩ := hl hs
    by_cases hz : d.left = 0
    · have e1 : countD d = ({ d with down := true, set := false }, true) := by unfold countD; rw [if_neg (by rw [hs]; simp), if_pos hz]
      have HE := Lib.hid e1
      rw [hz] at c7
      clear e1 hs hl hz
      go_enter Tryz.func70, Tryz.ntmps70
      go_wp2_with fail
      go_ret
      exact ⟨by rw [HE.out]; rfl, by rw [HE.out]; exact h.setDown, ⟨((Mv.refl W).set (by simp [foot]) _).set (by simp [foot]) _, fun k hk => Or.inl hk⟩⟩
    · have e1 : countD d = ({ d with left := d.left - 1 }, false) := by unfold countD; rw [if_neg (by rw [hs]; simp), if_neg hz]
      have HE := Lib.hid e1
      have hb : (d.left == 0) = false := by simp [hz]
      have hw : IntKind.i64.wrap (d.left - 1) = d.left - 1 := IntWalk.i64_in _ (by omega)
      clear e1 hs hl hz
      go_enter Tryz.func70, Tryz.ntmps70
      go_wp2_with fail
      go_ret
      exact ⟨by rw [HE.out]; rfl, by rw [HE.out]; exact h.setLeft _, ⟨(Mv.refl W).set (by simp [foot]) _, fun k hk => Or.inl hk⟩⟩
end
end Go.Proofs.YtnhogmheedeeiaaGreat
/- The contracts of package flash: do, Fuse, Rot. -/
namespace Go.Proofs.YtnhogmheedeeiaaGreat
open Go.RowKit
set_option linter.unusedVariables false
set_option maxRecDepth 20000

/-- Bytes laid over others. -/
def spliceN (img : List Nat) (o : Nat) (bs : List Nat) : List Nat := img.take o ++ bs ++ img.drop (o + bs.length)
theorem spliceN_len (img : List Nat) (o : Nat) (bs : List Nat) (h : o + bs.length ≤ img.length) : (spliceN img o bs).length = img.length := by
  unfold spliceN
  simp only [List.length_append, List.length_take, List.length_drop]
  omega
theorem spliceN_mem (img : List Nat) (o : Nat) (bs : List Nat) (h1 : ∀ n ∈ img, n < 256) (h2 : ∀ n ∈ bs, n < 256) : ∀ n ∈ spliceN img o bs, n < 256 := by
  intro n hn
  unfold spliceN at hn
  simp only [List.mem_append] at hn
  rcases hn with (hn | hn) | hn
  · exact h1 n (List.mem_of_mem_take hn)
  · exact h2 n hn
  · exact h1 n (List.mem_of_mem_drop hn)
def doD (p : Int) (img : List Nat) (page : Int) (b : ByteArray) : List Nat := spliceN img (page * p).toNat (nb b)
theorem By.cells {W : World} {g : Nat} : ∀ (bs : List Nat) (xs : List Nat) (o : Nat), By W g (ints xs) → o + bs.length ≤ xs.length → By (W.setCells g o (vb (ints bs))) g (ints (spliceN xs o bs)) := by
  intro bs
  induction bs generalizing W with
  | nil =>
    intro xs o h hl
    have : spliceN xs o [] = xs := by simp [spliceN]
    rw [this]
    exact h
  | cons b bs ih =>
    intro xs o h hl
    simp only [List.length_cons] at hl
    have h1 := h.put o (by rw [List.length_map]; omega) (b : Int)
    have e1 : (ints xs).set o (b : Int) = ints (xs.set o b) := by simp [ints, List.map_set]
    rw [e1] at h1
    have h2 := ih (xs.set o b) (o + 1) h1 (by rw [List.length_set]; omega)
    have e2 : spliceN (xs.set o b) (o + 1) bs = spliceN xs o (b :: bs) := by
      unfold spliceN
      have t1 : (xs.set o b).take (o + 1) = xs.take o ++ [b] := by
        rw [List.take_succ_eq_append_getElem (by rw [List.length_set]; omega), List.take_set_of_le (Nat.le_refl o)]
        simp
      have t2 : (xs.set o b).drop (o + 1 + bs.length) = xs.drop (o + (b :: bs).length) := by
        rw [List.drop_set_of_lt (by omega)]
        congr 1
        simp only [List.length_cons]
        omega
      rw [t1, t2]
      simp
    rw [e2] at h2
    exact h2
theorem Mv.cells {S : List Nat} {w : World} (g : Nat) (hg : g ∈ S) : ∀ (vs : List Value) (o : Nat) (w' : World), Mv S w w' → Mv S w (w'.setCells g o vs)
  | [], _, _, h => h
  | v :: vs, o, w', h => Mv.cells g hg vs (o + 1) _ (h.set hg v)
theorem own_cells {e : TypeId} {size n : Nat} {v : Value} {xs : List Value} (g : Nat) (hp : ∀ k, v.ownBlock = some k → k ≠ g) : ∀ (vs : List Value) (o : Nat) (W : World), W.ownsRow 0 e size v n xs → (W.setCells g o vs).ownsRow 0 e size v n xs
  | [], _, _, h => h
  | u :: vs, o, W, h => own_cells g hp vs (o + 1) _ (own_set h (p := ⟨g, o, none⟩) hp u)
theorem Bk.cells {t : TypeId} {g' : Nat} {cs : List Value} (g : Nat) (hn : g' ≠ g) : ∀ (vs : List Value) (o : Nat) (W : World), Bk W g' t cs → Bk (W.setCells g o vs) g' t cs
  | [], _, _, h => h
  | u :: vs, o, W, h => Bk.cells g hn vs (o + 1) _ (h.far (p := ⟨g, o, none⟩) hn u)
section
variable {W : World} {g ib ic : Nat} {p s r : Int} {d : Dev} {v : Value}
theorem FlAt.setImg (h : FlAt W g ib ic p s r d v) (o : Nat) (bs : List Nat) (hl : o + bs.length ≤ d.img.length) :
    FlAt (W.setCells ib o (vb (ints bs))) g ib ic p s r { d with img := spliceN d.img o bs } v := by
  refine ⟨?_, By.cells bs d.img o h.img hl, own_cells ib (fun k hk => (h.vne k hk).2) _ _ _ h.own, h.ne, by show (spliceN d.img o bs).length ≤ ic; rw [spliceN_len _ _ _ hl]; exact h.capok, h.vne⟩
  show Bk _ _ _ [_, _, _, .slice (some ⟨ib, 0, none⟩) (spliceN d.img o bs).length ic, _, _, _, _]
  rw [spliceN_len _ _ _ hl]
  exact Bk.cells ib h.ne _ _ _ h.box
set_option maxRecDepth 20000 in
set_option maxHeartbeats 1600000 in
theorem fdo (h : FlAt W g ib ic p s r d v) (hR : RightG p s r) (hlen : (d.img.length : Int) = p * s * r) (page : Int) (h0 : 0 ≤ page) (h1 : page < s * r) (b : ByteArray) (hb : (b.size : Int) ≤ p) :
    Calls Tryz.prog 71 #[.pointer (some ⟨g, 0, none⟩), .int .i64 page, .string b] W fun e w' => e = .returned (.tuple #[]) ∧ FlAt w' g ib ic p s r { d with img := doD p d.img page b } v ∧ FlMv W w' g ib v v := by
  obtain ⟨b1, b2, b3, b4, b5⟩ := page_bd hR h0 h1
  obtain ⟨r1, r2, r3, r4, r5, r6⟩ := id hR
  have hcap := h.capok
  have HC := Lib.hid (fun W' (k : Kp W W') => (h.keep k).c8)
  have q1 : IntKind.i64.wrap (page * p) = page * p := IntWalk.i64_in _ (by omega)
  have q2 : IntKind.i64.wrap (page + 1) = page + 1 := IntWalk.i64_in _ (by omega)
  have q3 : IntKind.i64.wrap ((page + 1) * p) = (page + 1) * p := IntWalk.i64_in _ (by omega)
  have z1 : page * p ≤ (page + 1) * p := by omega
  have z2 : 0 ≤ (page + 1) * p := by omega
  have z4 : (page + 1) * p ≤ (ic : Int) := by omega
  have z5 : page * p ≤ (ic : Int) := by omega
  have z6 : max ((page + 1) * p) 0 = (page + 1) * p := by omega
  have z7 : ¬ (ic = (page * p).toNat) := by omega
  have hfit : (page * p).toNat + b.size ≤ d.img.length := by omega
  have hle : b.size ≤ ((page + 1) * p).toNat - (page * p).toNat := by omega
  clear b3
  go_enter Tryz.func71, Tryz.ntmps71
  go_wp2_with fail
  refine wp_region_relH (R := Kp) (C := fun W' => Kp W W') 21 (by kernel_rfl) (by kernel_rfl) (Kp.refl W).drew (fun _ _ h k => h.trans k) Kp.refl (fun _ _ _ h k => h.trans k) ?_
  simp only [List.take_succ_cons, List.take_zero, List.drop_succ_cons, List.drop_zero]
  repeat (refine wpRel_step (fun K hK => ?_); apply rel_eq; (case ob => (intro f W hW hd; (obtain ⟨c0, c1, c2, c3, c4, c5, c6, c7⟩ := HC.out _ hW); (try simp [deps, factOf, Region.binds] at hd); unfold relOp; go_simp; (first | exact ⟨Kp.refl _, rfl⟩ | exact Kp.refl _ | (refine ⟨Kp.refl _, ?_⟩; fail)))); go_simp; refine hK _ _ ?_; clear hK K)
  refine wpRel_nil ?_
  intro f W' hW hall
  have h19 : f 19 = .slice (some ⟨ib, (page * p).toNat, none⟩) (((page + 1) * p).toNat - (page * p).toNat) (ic - (page * p).toNat) := allF_get hall 19 _ rfl
  have h20 : f 20 = .string b := allF_get hall 20 _ rfl
  clear hall HC
  dsimp only
  rw [h19, h20]
  have hk := h.keep hW
  have hrun := run_copy_string (P := Tryz.prog) W' 55 9 3 5 ib (page * p).toNat (((page + 1) * p).toNat - (page * p).toNat) (ic - (page * p).toNat) b Tryz.underlying55 (fun w => by kernel_rfl) hle
    (fun j hj => by rw [hk.img.cell _ (by rw [List.length_map]; omega)]; rfl) (fun j hj => hk.img.free _ (by rw [List.length_map]; omega))
  have he : (b.data.toList.map fun x => Value.int .u8 (x.toNat : Int)) = vb (ints (nb b)) := by simp [vb, ints, nb]
  rw [he] at hrun
  have hres := hk.setImg (page * p).toNat (nb b) (by rw [nb_len]; exact hfit)
  have hmv : FlMv W (W'.setCells ib (page * p).toNat (vb (ints (nb b)))) g ib v v := ⟨Mv.cells ib (by simp [foot]) _ _ _ (Mv.of hW), fun k hk => Or.inl hk⟩
  refine Lib.wpList_copy_run _ rfl _ _ _ _ rfl _ _ rfl rfl hrun ?_
  generalize W'.setCells ib (page * p).toNat (vb (ints (nb b))) = w9 at *
  refine wpList_nil ?_
  go_wp2_with fail
  exact bodyPost_end (v := .tuple #[]) (by simp [results, Tryz.results71]) rfl ⟨rfl, hres, hmv⟩

/-! Fuse, Rot -/
def fuseD (d : Dev) (n : Int) : Dev := { d with set := decide (0 ≤ n), left := n }
theorem FlAt.setFuse (h : FlAt W g ib ic p s r d v) (B : Bool) (n : Int) : FlAt ((W.setCell ⟨g, 6, none⟩ (.bool B)).setCell ⟨g, 7, none⟩ (.int .i64 n)) g ib ic p s r { d with set := B, left := n } v :=
  ⟨(h.box.put 6 (.bool B)).put 7 (.int .i64 n), (h.img.far (p := ⟨g, 6, none⟩) (Ne.symm h.ne) _).far (p := ⟨g, 7, none⟩) (Ne.symm h.ne) _, own_set (own_set h.own (p := ⟨g, 6, none⟩) (fun k hk => (h.vne k hk).1) _) (p := ⟨g, 7, none⟩) (fun k hk => (h.vne k hk).1) _, h.ne, h.capok, h.vne⟩
set_option maxHeartbeats 400000 in
theorem ffuse (h : FlAt W g ib ic p s r d v) (n : Int) :
    Calls Tryz.prog 14 #[.pointer (some ⟨g, 0, none⟩), .int .i64 n] W fun e w' => e = .returned (.tuple #[]) ∧ FlAt w' g ib ic p s r (fuseD d n) v ∧ FlMv W w' g ib v v := by
  obtain ⟨c0, c1, c2, c3, c4, c5, c6, c7⟩ := h.c8
  have f6 := h.fr 6
  have f7 := h.fr 7
  go_enter Tryz.func14, Tryz.ntmps14
  go_wp2_with fail
  exact bodyPost_end (v := .tuple #[]) (by simp [results, Tryz.results14]) rfl ⟨rfl, h.setFuse _ n, ⟨((Mv.refl W).set (by simp [foot]) _).set (by simp [foot]) _, fun k hk => Or.inl hk⟩⟩
def rotD (p s r : Int) (d : Dev) (page a x : Int) : Dev × Int :=
  if page < 0 ∨ s * r ≤ page ∨ a < 0 ∨ p ≤ a then (d, 1) else ({ d with img := d.img.set (page * p + a).toNat (d.img.getD (page * p + a).toNat 0 ^^^ x.toNat) }, 0)
theorem FlAt.setByte (h : FlAt W g ib ic p s r d v) (o : Nat) (x : Nat) (ho : o < d.img.length) : FlAt (W.setCell ⟨ib, o, none⟩ (.int .u8 (x : Int))) g ib ic p s r { d with img := d.img.set o x } v := by
  refine ⟨?_, ?_, own_set h.own (p := ⟨ib, o, none⟩) (fun k hk => (h.vne k hk).2) _, h.ne, by show (d.img.set o x).length ≤ ic; rw [List.length_set]; exact h.capok, h.vne⟩
  · show Bk _ _ _ [_, _, _, .slice (some ⟨ib, 0, none⟩) (d.img.set o x).length ic, _, _, _, _]
    rw [List.length_set]
    exact h.box.far (p := ⟨ib, o, none⟩) h.ne _
  · have := h.img.put o (by rw [List.length_map]; exact ho) (x : Int)
    have e1 : (ints d.img).set o (x : Int) = ints (d.img.set o x) := by simp [ints, List.map_set]
    rw [e1] at this
    exact this
theorem FlAt.byte (h : FlAt W g ib ic p s r d v) (o : Nat) (ho : o < d.img.length) : W.cell? ⟨ib, o, none⟩ = some (.int .u8 (d.img.getD o 0 : Nat)) ∧ W.frozen? ⟨ib, o, none⟩ = false := by
  refine ⟨?_, h.img.free o (by rw [List.length_map]; exact ho)⟩
  rw [h.img.cell o (by rw [List.length_map]; exact ho), List.getElem_map, List.getD_eq_getElem?_getD, List.getElem?_eq_getElem ho]
  rfl
def RotPost (W : World) (g ib ic : Nat) (p s r : Int) (v : Value) (dc : Dev × Int) (e : Ending) (w' : World) : Prop := e = .returned (.int .i64 dc.2) ∧ FlAt w' g ib ic p s r dc.1 v ∧ FlMv W w' g ib v v
end
end Go.Proofs.YtnhogmheedeeiaaGreat
/- The contracts of package flash: Program. -/
namespace Go.Proofs.YtnhogmheedeeiaaGreat
open Go.RowKit
set_option linter.unusedVariables false
set_option maxRecDepth 20000

theorem info_write : (Tryz.prog.info? 110).map (fun i => (i.zero, i.size, i.bytes)) = some (some (.agg #[.int .i64 0, .string ⟨#[]⟩]), 2, 24) := by kernel_rfl
section
variable {P : Program} {w : World} {e : TypeId} {size n : Nat} {v : Value} {xs : List Value}
/-- append onto a row that lies wherever. -/
theorem wpList_app0 {ops : Array Oper} {rest : List Oper} {o : Oper} {a : Act} {Q : Exit → Act → World → Prop} (hgd : o.guard = none) (s x : Operand) (t : TypeId)
    (ho : o.op = .call { callee := .builtin .append, args := #[s, x], argTypes := #[t, t] }) (z : Value) (bytes : Nat)
    (ht : P.underlying t = some (.slice e)) (hinfo : (P.info? e).map (fun i => (i.zero, i.size, i.bytes)) = some (some z, size, bytes)) (hzs : z.cells.size = size) (hsz : 0 < size) (hb0 : 0 < bytes)
    (hs : a.eval s = v) (hown : w.ownsRow 0 e size v n xs) (A : Option Addr) (m c : Nat) (news : List Value) (hx : a.eval x = .slice A m c) (hl : news.length = m * size) (hsrc : Src w A news) (h1 : ∀ u ∈ news, u.oneCell' = true)
    (hbytes : (n + m) * bytes ≤ 140737488355328)
    (h : ∀ v' w', w'.ownsRow 0 e size v' (n + m) (xs ++ news) → w.grownBy w' v.ownBlock → (v'.ownBlock = v.ownBlock ∨ v'.ownBlock = some w.heap.size) → wpList P ops Q rest (a.put o.dst v') w') :
    wpList P ops Q (o :: rest) a w := by
  obtain ⟨v', w', hr, h2, h3, h5⟩ := run_app (P := P) (w := w) t o.type z bytes ht hinfo hzs hsz hb0 hown A m c news hl hsrc h1 hbytes (Nat.zero_le _)
  have H := h v' w' h2 h3 h5
  refine wpList_plain hgd fun K hK => ?_
  unfold Oper.wp execOp
  simp only [ho, resolve, invoke, builtin, Sem.run_bind, Sem.run_pure, Result.andThen_ok, List.map_toArray, List.map_cons, List.map_nil, hs, hx, hr]
  exact hK _ _ H
end
theorem src_two (W : World) (a b : Value) (t : TypeId) (n : Nat) (hn : W.heap.size = n) : Src (W.alloc (.cells #[a, b] t)) (some ⟨n, 0, none⟩) [a, b] := by
  subst hn
  intro _
  have hb := Bk.new W t [a, b]
  refine ⟨W.heap.size, 0, rfl, fun j hj => ?_⟩
  rw [Nat.zero_add, hb.cell j, List.getElem?_eq_getElem hj]
section
variable {W : World} {g ib ic : Nat} {p s r : Int} {d : Dev} {v : Value}
/-- One more is pending. -/
theorem FlAt.push {w1 w' : World} {v' : Value} (h : FlAt W g ib ic p s r d v) (hk : Kp W w1) (x : Int × ByteArray) (hown : w'.ownsRow 0 110 2 v' (d.row.length + 1) (rcells d.row ++ [.int .i64 x.1, .string x.2])) (hg : w1.grownBy w' v.ownBlock) (hat : v'.ownBlock = v.ownBlock ∨ v'.ownBlock = some w1.heap.size) :
    (∀ i, w'.frozen? ⟨g, i, none⟩ = false) ∧ w'.cell? ⟨g, 4, none⟩ = some v ∧ FlAt (w'.setCell ⟨g, 4, none⟩ v') g ib ic p s r { d with row := d.row ++ [x] } v' ∧ FlMv W (w'.setCell ⟨g, 4, none⟩ v') g ib v v' := by
  have h1 := h.keep hk
  have lt1 := h1.foot_lt
  have gg : ∀ k, v'.ownBlock = some k → k ≠ g ∧ k ≠ ib := by
    intro k hk'
    rcases hat with e | e
    · exact h.vne k (e ▸ hk')
    · rw [e] at hk'
      injection hk' with hk'
      have a1 := lt1 g (by simp [foot])
      have a2 := lt1 ib (by simp [foot])
      exact ⟨by omega, by omega⟩
  have ng : some g ≠ v.ownBlock := fun e => (h.vne g e.symm).1 rfl
  have ni : some ib ≠ v.ownBlock := fun e => (h.vne ib e.symm).2 rfl
  have hb' : Bk w' g 85 [.int .i64 p, .int .i64 s, .int .i64 r, .slice (some ⟨ib, 0, none⟩) d.img.length ic, v, .bool d.down, .bool d.set, .int .i64 d.left] := (hg.block g h1.box.lt ng).trans h1.box
  have hi' : By w' ib (ints d.img) := h1.img.same (hg.block ib h1.img.lt ni)
  refine ⟨fun i => hb'.free i, hb'.cell 4, ⟨hb'.put 4 v', hi'.far (p := ⟨g, 4, none⟩) (Ne.symm h.ne) _, ?_, h.ne, h.capok, gg⟩, ?_, ?_⟩
  · have := own_set hown (p := ⟨g, 4, none⟩) (fun k hk' => (gg k hk').1) v'
    show World.ownsRow _ 0 _ 2 v' (d.row ++ [x]).length (rcells (d.row ++ [x]))
    rw [List.length_append, rcells_app]
    exact this
  · refine Mv.set (Mv.grown (Mv.of hk) hg (fun k hk' => by simp [foot, hk'])) (by simp [foot]) _
  · intro k hk'
    rcases hat with e | e
    · exact Or.inl (e ▸ hk')
    · rw [e] at hk'
      injection hk' with hk'
      have := hk.size
      exact Or.inr (by omega)
def programD (p s r : Int) (d : Dev) (page : Int) (b : ByteArray) : Dev × Int :=
  if (readD p s r d page).2 ≠ 0 then (d, (readD p s r d page).2)
  else if (b.size : Int) ≠ p then (d, 1)
  else if (pendV d.row page).2 = true ∨ (readD p s r d page).1 ≠ blankS p then (d, 7)
  else ((countD { d with row := d.row ++ [(page, b)] }).1, if (countD { d with row := d.row ++ [(page, b)] }).2 = true then 6 else 0)
def FlPost (W : World) (g ib ic : Nat) (p s r : Int) (v : Value) (dc : Dev × Int) (e : Ending) (w' : World) : Prop := e = .returned (.int .i64 dc.2) ∧ ∃ v', FlAt w' g ib ic p s r dc.1 v' ∧ FlMv W w' g ib v v'
set_option maxRecDepth 20000 in
set_option maxHeartbeats 3200000 in
theorem fprogram (h : FlAt W g ib ic p s r d v) (ok : DevOk p s r d) (page : Int) (b : ByteArray) (hb : b.size ≤ 9223372036854775807) :
    Calls Tryz.prog 49 #[.pointer (some ⟨g, 0, none⟩), .int .i64 page, .string b] W (FlPost W g ib ic p s r v (programD p s r d page b)) := by
  have HRD := Lib.hid (fread_any h ok page)
  have HC := Lib.hid (fun W' (k : Kp W W') => (h.keep k).c8)
  have hrl := ok.rl
  by_cases he : (readD p s r d page).2 = 0
  · by_cases hsz : (b.size : Int) = p
    · have hpgs : 0 ≤ page ∧ page < s * r := by
        unfold readD at he
        by_cases hdn : d.down = true
        · rw [if_pos hdn] at he; simp at he
        · rw [if_neg hdn] at he
          by_cases hp2 : page < 0 ∨ s * r ≤ page
          · rw [if_pos hp2] at he; simp at he
          · omega
      have hd : ((b.size : Int) != p) = false := by simp [hsz]
      have HPE := Lib.hid (fun W' (k : Kp W W') => fpend (h.keep k) (by omega) page)
      have HBL := Lib.hid (fun W' (k : Kp W W') => fblank (h.keep k) ok.right)
      have HRW := Lib.hid (fun W' (k : Kp W W') => (h.keep k).own)
      have HPG : programD p s r d page b = if (pendV d.row page).2 = true ∨ (readD p s r d page).1 ≠ blankS p then (d, 7) else ((countD { d with row := d.row ++ [(page, b)] }).1, if (countD { d with row := d.row ++ [(page, b)] }).2 = true then 6 else 0) := by
        unfold programD
        rw [if_neg (by simpa using he), if_neg (by simpa using hsz)]
      rw [HPG]
      clear HPG
      rw [he] at HRD
      clear he
      generalize (readD p s r d page).1 = old at *
      have HCN := Lib.hid (fun W' v' (k : FlAt W' g ib ic p s r { d with row := d.row ++ [(page, b)] } v') => fcount k (by exact ok.left))
      generalize hcd : countD { d with row := d.row ++ [(page, b)] } = cd at *
      obtain ⟨cd, cb⟩ := cd
      generalize hpv : pendV d.row page = pv at *
      have HPV := Lib.hid hpv
      clear hpv
      obtain ⟨pb, pf⟩ := pv
      dsimp only at HPE ⊢
      rcases pf with _ | _
      · have HSZ := Lib.hid hsz
        by_cases hbl : old = blankS p
        · rw [if_neg (by simp [hbl])]
          have HCD := Lib.hid hcd
          clear hcd
          generalize hcode : (if cb = true then (6 : Int) else 0) = code
          have HCO := Lib.hid hcode
          clear hcode
          have hde : decide (old = blankS p) = true := by simp [hbl]
          have hbe : (old.toList == (blankS p).toList) = true := by rw [beq_bytes]; exact hde
          clear hsz
          have HOL := Lib.hid hbl
          clear hbl
          generalize blankS p = bl at *
          go_enter Tryz.func49, Tryz.ntmps49
          go_wp2_with fail
          refine (HRD.out).mono ?_
          rintro e w1 ⟨rfl, hk1⟩
          obtain ⟨c0, c1, c2, c3, c4, c5, c6, c7⟩ := HC.out _ hk1
          go_wp2_with fail
          refine (HPE.out _ hk1).mono ?_
          rintro e w2 ⟨rfl, hk2⟩
          go_wp2_with fail
          refine (HBL.out _ (hk1.trans hk2)).mono ?_
          rintro e w3 ⟨rfl, hk3⟩
          have hK3 := (hk1.trans hk2).trans hk3
          have HC3 := Lib.hid (fun O => HC.out _ (hK3.trans (Kp.one w3 O)))
          have HO3 := Lib.hid (fun O => HRW.out _ (hK3.trans (Kp.one w3 O)))
          clear c0 c1 c2 c3 c4 c5 c6 c7
          have c4 := (HC.out _ hK3).2.2.2.2.1
          have hown3 := own_keep (h.keep hK3).own (Kp.one w3 (.cells #[.int .i64 page, .string b] 110))
          have hk4 := hK3.trans (Kp.one w3 (.cells #[.int .i64 page, .string b] 110))
          have HPU := Lib.hid (fun w' v' a1 a2 a3 => h.push hk4 (x := (page, b)) (w' := w') (v' := v') a1 a2 a3)
          go_wp2_with (at_builtin; refine wpList_app0 rfl _ _ _ rfl (.agg #[.int .i64 0, .string ⟨#[]⟩]) 24 Tryz.underlying83 info_write rfl (by decide) (by decide) rfl hown3 (some ⟨w3.heap.size, 0, none⟩) 1 1 [.int .i64 page, .string b] rfl rfl (src_two _ _ _ _ _ rfl) (by simp [Value.oneCell']) (by omega) ?_; intro v1 w4 hown1 hg1 hat1; obtain ⟨A1, c1, rfl⟩ := own_slice hown1; obtain ⟨z1, z2, z3, z4⟩ := HPU.out w4 _ hown1 hg1 hat1; have f4 := z1 4; have HZ4 := Lib.hid z4; have HZ3 := Lib.hid z3; clear z1 z3 z4 hg1 hat1 hown1 HPU HC)
          refine (HCN.out _ _ HZ3.out).mono ?_
          rintro e w5 ⟨rfl, hf5, hm5⟩
          rw [HCD.out] at hf5
          rw [HCD.out]
          have hfin : FlPost W g ib ic p s r v (cd, code) (.returned (.int .i64 code)) w5 := ⟨rfl, _, hf5, HZ4.out.trans hm5⟩
          have HFIN := Lib.hid hfin
          clear hfin
          dsimp only
          have hco := HCO.out
          rcases cb with _ | _
          · have : code = 0 := by rw [← hco]; rfl
            subst this
            go_wp2_with fail
            go_ret
            exact HFIN.out
          · have : code = 6 := by rw [← hco]; rfl
            subst this
            go_wp2_with fail
            go_ret
            exact HFIN.out
        · rw [if_pos (Or.inr hbl)]
          have hde : decide (old = blankS p) = false := by simp [hbl]
          have hbe : (old.toList == (blankS p).toList) = false := by rw [beq_bytes]; exact hde
          clear hsz hbl
          generalize blankS p = bl at *
          go_enter Tryz.func49, Tryz.ntmps49
          go_wp2_with fail
          refine (HRD.out).mono ?_
          rintro e w1 ⟨rfl, hk1⟩
          obtain ⟨c0, c1, c2, c3, c4, c5, c6, c7⟩ := HC.out _ hk1
          go_wp2_with fail
          refine (HPE.out _ hk1).mono ?_
          rintro e w2 ⟨rfl, hk2⟩
          go_wp2_with fail
          refine (HBL.out _ (hk1.trans hk2)).mono ?_
          rintro e w3 ⟨rfl, hk3⟩
          have hK3 := (hk1.trans hk2).trans hk3
          go_wp2_with fail
          go_ret
          exact ⟨rfl, v, h.keep hK3, FlMv.of hK3⟩
      · rw [if_pos (Or.inl rfl)]
        clear hsz
        go_enter Tryz.func49, Tryz.ntmps49
        go_wp2_with fail
        refine (HRD.out).mono ?_
        rintro e w1 ⟨rfl, hk1⟩
        obtain ⟨c0, c1, c2, c3, c4, c5, c6, c7⟩ := HC.out _ hk1
        go_wp2_with fail
        refine (HPE.out _ hk1).mono ?_
        rintro e w2 ⟨rfl, hk2⟩
        go_wp2_with fail
        go_ret
        exact ⟨rfl, v, h.keep (hk1.trans hk2), FlMv.of (hk1.trans hk2)⟩
    · have e1 : programD p s r d page b = (d, 1) := by unfold programD; rw [if_neg (by simpa using he), if_pos hsz]
      rw [e1]
      rw [he] at HRD
      have hd : ((b.size : Int) != p) = true := by simp [hsz]
      generalize (readD p s r d page).1 = old at *
      clear e1 he hsz
      go_enter Tryz.func49, Tryz.ntmps49
      go_wp2_with fail
      refine (HRD.out).mono ?_
      rintro e w1 ⟨rfl, hk1⟩
      obtain ⟨c0, c1, c2, c3, c4, c5, c6, c7⟩ := HC.out _ hk1
      go_wp2_with fail
      go_ret
      exact ⟨rfl, v, h.keep hk1, FlMv.of hk1⟩
  · have e1 : programD p s r d page b = (d, (readD p s r d page).2) := by unfold programD; rw [if_pos he]
    rw [e1]
    have hd : ((readD p s r d page).2 != 0) = true := by simp [he]
    generalize (readD p s r d page).1 = old at *
    generalize (readD p s r d page).2 = c at *
    clear e1 he
    go_enter Tryz.func49, Tryz.ntmps49
    go_wp2_with fail
    refine (HRD.out).mono ?_
    rintro e w1 ⟨rfl, hk1⟩
    go_wp2_with fail
    go_ret
    exact ⟨rfl, v, h.keep hk1, FlMv.of hk1⟩
end
end Go.Proofs.YtnhogmheedeeiaaGreat
/- The contracts of package flash: Flush. -/
namespace Go.Proofs.YtnhogmheedeeiaaGreat
open Go.RowKit
set_option linter.unusedVariables false
set_option maxRecDepth 20000

def doAll (p : Int) (img : List Nat) (row : Rw) : List Nat := row.foldl (fun im x => doD p im x.1 x.2) img
theorem doD_len {p s r : Int} {img : List Nat} {page : Int} {b : ByteArray} (hR : RightG p s r) (hl : (img.length : Int) = p * s * r) (h0 : 0 ≤ page) (h1 : page < s * r) (hb : (b.size : Int) ≤ p) : (doD p img page b).length = img.length := by
  obtain ⟨b1, b2, b3, b4, b5⟩ := page_bd hR h0 h1
  exact spliceN_len _ _ _ (by rw [nb_len]; omega)
theorem doD_mem {p : Int} {img : List Nat} {page : Int} {b : ByteArray} (h : ∀ n ∈ img, n < 256) : ∀ n ∈ doD p img page b, n < 256 := spliceN_mem _ _ _ h (nb_lt b)
theorem doAll_take (p : Int) (img : List Nat) (row : Rw) (k : Nat) (h : k < row.length) : doAll p img (row.take (k + 1)) = doD p (doAll p img (row.take k)) row[k].1 row[k].2 := by
  unfold doAll
  rw [List.take_succ_eq_append_getElem h, List.foldl_append]
  rfl
theorem doAll_len {p s r : Int} (hR : RightG p s r) : ∀ (row : Rw) (img : List Nat), (img.length : Int) = p * s * r → (∀ x ∈ row, 0 ≤ x.1 ∧ x.1 < s * r ∧ (x.2.size : Int) = p) → (doAll p img row).length = img.length
  | [], _, _, _ => rfl
  | x :: row, img, hl, hr => by
    have h1 := hr x (List.mem_cons_self ..)
    have e := doD_len (page := x.1) (b := x.2) hR hl h1.1 h1.2.1 (by omega)
    show (doAll p (doD p img x.1 x.2) row).length = _
    rw [doAll_len hR row _ (by rw [e]; exact hl) (fun y hy => hr y (List.mem_cons_of_mem _ hy)), e]
theorem doAll_mem {p : Int} : ∀ (row : Rw) (img : List Nat), (∀ n ∈ img, n < 256) → ∀ n ∈ doAll p img row, n < 256
  | [], _, h => h
  | x :: row, img, h => doAll_mem row (doD p img x.1 x.2) (doD_mem h)
def flushD (p : Int) (d : Dev) : Dev × Int :=
  if d.down = true then (d, 6) else if (countD d).2 = true then ((countD d).1, 6) else ({ (countD d).1 with img := doAll p (countD d).1.img (countD d).1.row, row := [] }, 0)
theorem countD_same (d : Dev) : (countD d).1.img = d.img ∧ (countD d).1.row = d.row := by
  unfold countD
  split
  · exact ⟨rfl, rfl⟩
  · split <;> exact ⟨rfl, rfl⟩
section
variable {W : World} {g ib ic : Nat} {p s r : Int} {d : Dev} {v : Value}
/-- Nothing is pending any more. -/
theorem FlAt.setNil (h : FlAt W g ib ic p s r d v) : FlAt (W.setCell ⟨g, 4, none⟩ (.slice none 0 0)) g ib ic p s r { d with row := [] } (.slice none 0 0) := by
  refine ⟨h.box.put 4 _, h.img.far (p := ⟨g, 4, none⟩) (Ne.symm h.ne) _, World.ownsRow_nil _ _ _ _, h.ne, h.capok, ?_⟩
  intro k hk
  simp [Value.ownBlock] at hk
theorem FlMv.setNil {W' : World} (k : FlMv W W' g ib v v) : FlMv W (W'.setCell ⟨g, 4, none⟩ (.slice none 0 0)) g ib v (.slice none 0 0) := by
  refine ⟨k.1.set (by simp [foot]) _, ?_⟩
  intro x hx
  simp [Value.ownBlock] at hx
set_option maxRecDepth 20000 in
set_option maxHeartbeats 1600000 in
theorem fflush (h : FlAt W g ib ic p s r d v) (ok : DevOk p s r d) :
    Calls Tryz.prog 34 #[.pointer (some ⟨g, 0, none⟩)] W (FlPost W g ib ic p s r v (flushD p d)) := by
  have HD := Lib.hid (fdown h)
  have HCN := Lib.hid (fun W' (k : Kp W W') => fcount (h.keep k) ok.left)
  have hrl := ok.rl
  obtain ⟨si, sr⟩ := countD_same d
  rcases hdn : d.down with _ | _
  · rw [hdn] at HD
    have e1 : flushD p d = if (countD d).2 = true then ((countD d).1, 6) else ({ (countD d).1 with img := doAll p (countD d).1.img (countD d).1.row, row := [] }, 0) := by unfold flushD; rw [if_neg (by rw [hdn]; simp)]
    rw [e1]
    clear e1 hdn
    have hok := ok
    unfold CountPost at HCN
    generalize countD d = cd at *
    obtain ⟨c, cb⟩ := cd
    have hrows := ok.rows
    have hlen := ok.len
    dsimp only at si sr HCN ⊢
    rw [← sr] at hrows hrl
    rw [← si] at hlen
    have hR := ok.right
    clear si sr hok ok
    rcases cb with _ | _
    · rw [if_neg (by simp)]
      have HLN := Lib.hid hlen
      have HRS := Lib.hid hrows
      clear hlen hrows
      go_enter Tryz.func34, Tryz.ntmps34
      go_wp2_with fail
      refine (HD.out).mono ?_
      rintro e w1 ⟨rfl, hk1⟩
      go_wp2_with fail
      refine (HCN.out _ hk1).mono ?_
      rintro e w2 ⟨rfl, hf2, hm2⟩
      obtain ⟨c0, c1, c2, c3, c4, c5, c6, c7⟩ := hf2.c8
      obtain ⟨A, cc, hv, -⟩ := hf2.rows
      have hM2 := (FlMv.of (v := v) (g := g) (ib := ib) hk1).trans hm2
      have HV := Lib.hid hv
      rw [hv] at c4
      clear hv
      clear hm2 HCN HD h
      go_wp2_with fail
      go_loopw [16] (fun i wr => ∃ k : Nat, k ≤ c.row.length ∧ i = .int .i64 k ∧ FlAt wr g ib ic p s r { c with img := doAll p c.img (c.row.take k) } v ∧ FlMv W wr g ib v v) (fun i _ => c.row.length - (intOf i).toNat)
      case atStart => exact ⟨0, by omega, rfl, by rw [List.take_zero]; exact hf2, hM2⟩
      case round =>
        obtain ⟨k, hk, rfl, hfr, hMr⟩ := hrel
        clear hf2 hM2 hk1 c0 c1 c2 c3 c4 c5 c6 c7
        by_cases hlt : k < c.row.length
        · obtain ⟨A', cc', hv', hrw⟩ := hfr.rows
          have hAA : A' = A := by rw [HV.out] at hv'; injection hv' with e1; exact e1.symm
          subst hAA
          obtain ⟨q, hq, e1, e2⟩ := hrw k hlt
          have hmem := HRS.out c.row[k] (List.getElem_mem hlt)
          have hl2 : ((doAll p c.img (c.row.take k)).length : Int) = p * s * r := by
            rw [doAll_len hR _ _ HLN.out (fun x hx => HRS.out x (List.mem_of_mem_take hx))]
            exact HLN.out
          subst hq
          clear hv' hrw
          have HDO := Lib.hid (fun O => fdo (hfr.keep (Kp.one wr O)) hR hl2 c.row[k].1 hmem.1 hmem.2.1 c.row[k].2 (by have := hmem.2.2; omega))
          have HST := Lib.hid (doAll_take p c.img c.row k hlt)
          clear hl2
          have hMo := fun O => hMr.trans (FlMv.of (v := v) (g := g) (ib := ib) (Kp.one wr O))
          have HMO := Lib.hid hMo
          have dl : decide ((k : Int) < (c.row.length : Int)) = true := by simp; omega
          clear hMo hmem
          generalize hx1 : c.row[k].1 = pg at *
          generalize hx2 : c.row[k].2 = bb at *
          go_wp2_with fail
          refine (HDO.out _).mono ?_
          rintro e w5 ⟨rfl, hf5, hm5⟩
          go_wp2_with fail
          go_roundw
          case rel => exact ⟨k + 1, by omega, by go_num, by rw [HST.out]; exact hf5, (HMO.out _).trans hm5⟩
          case measure => simp [intOf]; omega
        · have hke : k = c.row.length := by omega
          subst hke
          rw [List.take_length] at hfr
          have f4 := hfr.fr 4
          have c4 := hfr.c8.2.2.2.2.1
          have HF := Lib.hid hfr.setNil
          go_wp2_with fail
          go_ret
          exact ⟨rfl, _, HF.out, hMr.setNil⟩
    · rw [if_pos rfl]
      clear hlen hrows
      go_enter Tryz.func34, Tryz.ntmps34
      go_wp2_with fail
      refine (HD.out).mono ?_
      rintro e w1 ⟨rfl, hk1⟩
      go_wp2_with fail
      refine (HCN.out _ hk1).mono ?_
      rintro e w2 ⟨rfl, hf2, hm2⟩
      go_wp2_with fail
      go_ret
      exact ⟨rfl, v, hf2, (FlMv.of hk1).trans hm2⟩
  · rw [hdn] at HD
    have e1 : flushD p d = (d, 6) := by unfold flushD; rw [if_pos hdn]
    rw [e1]
    clear e1 hdn HCN
    go_enter Tryz.func34, Tryz.ntmps34
    go_wp2_with fail
    refine (HD.out).mono ?_
    rintro e w1 ⟨rfl, hk1⟩
    go_wp2_with fail
    go_ret
    exact ⟨rfl, v, h.keep hk1, FlMv.of hk1⟩
end
end Go.Proofs.YtnhogmheedeeiaaGreat
/- The contracts of package flash: Crash. -/
namespace Go.Proofs.YtnhogmheedeeiaaGreat
open Go.RowKit
set_option linter.unusedVariables false
set_option maxRecDepth 20000

/-- A torn page: so many of its first bytes. -/
def tornK (p m : Int) : Int := 1 + (m - 2) % (p - 1)
def crOne (p : Int) (img : List Nat) (x : Int × ByteArray) (m : Int) : List Nat :=
  if m < 1 then img else if m = 1 then doD p img x.1 x.2 else doD p img x.1 (x.2.extract 0 (tornK p m).toNat)
def crK (p : Int) (img : List Nat) (row : Rw) (mask : List Int) : Nat → List Nat
  | 0 => img
  | k + 1 => match row[k]? with | some x => crOne p (crK p img row mask k) x (mask.getD k 0) | none => crK p img row mask k
def crashD (p : Int) (d : Dev) (mask : List Int) : Dev := { d with img := crK p d.img d.row mask d.row.length, row := [], down := false, set := false }
theorem crK_step (p : Int) (img : List Nat) (row : Rw) (mask : List Int) (k : Nat) (h : k < row.length) : crK p img row mask (k + 1) = crOne p (crK p img row mask k) row[k] (mask.getD k 0) := by
  rw [crK, List.getElem?_eq_getElem h]
theorem extract_le (b : ByteArray) (n : Nat) : (b.extract 0 n).size ≤ b.size := by
  rw [ByteArray.size_extract]; omega
theorem nb_extract_lt (b : ByteArray) : ∀ n ∈ nb b, n < 256 := nb_lt b
theorem crOne_len {p s r : Int} {img : List Nat} {x : Int × ByteArray} (hR : RightG p s r) (hl : (img.length : Int) = p * s * r) (hx : 0 ≤ x.1 ∧ x.1 < s * r ∧ (x.2.size : Int) = p) (m : Int) : (crOne p img x m).length = img.length := by
  unfold crOne
  split
  · rfl
  · split
    · exact doD_len hR hl hx.1 hx.2.1 (by omega)
    · exact doD_len hR hl hx.1 hx.2.1 (by have := extract_le x.2 (tornK p m).toNat; omega)
theorem crK_len {p s r : Int} (hR : RightG p s r) (img : List Nat) (row : Rw) (mask : List Int) (hl : (img.length : Int) = p * s * r) (hr : ∀ x ∈ row, 0 ≤ x.1 ∧ x.1 < s * r ∧ (x.2.size : Int) = p) : ∀ k, (crK p img row mask k).length = img.length
  | 0 => rfl
  | k + 1 => by
    have ih := crK_len hR img row mask hl hr k
    rw [crK]
    by_cases h : k < row.length
    · rw [List.getElem?_eq_getElem h]
      show (crOne _ _ _ _).length = _
      rw [crOne_len hR (by rw [ih]; exact hl) (hr _ (List.getElem_mem h)), ih]
    · rw [List.getElem?_eq_none (by omega)]
      exact ih
theorem crOne_mem {p : Int} {img : List Nat} {x : Int × ByteArray} (m : Int) (h : ∀ n ∈ img, n < 256) : ∀ n ∈ crOne p img x m, n < 256 := by
  unfold crOne
  split
  · exact h
  · split
    · exact doD_mem h
    · exact doD_mem h
theorem crK_mem {p : Int} (img : List Nat) (row : Rw) (mask : List Int) (h : ∀ n ∈ img, n < 256) : ∀ k, ∀ n ∈ crK p img row mask k, n < 256
  | 0 => h
  | k + 1 => by
    have ih := crK_mem (p := p) img row mask h k
    rw [crK]
    split
    · exact crOne_mem _ ih
    · exact ih
theorem NumsAt.mv {S : List Nat} {w w' : World} {k : IntKind} {A : Option Addr} {xs : List Int} (h : NumsAt k w A xs) (m : Mv S w w') (hA : 0 < xs.length → ∀ q, A = some q → q.block ∉ S) : NumsAt k w' A xs :=
  ⟨h.1, fun hn => by
    obtain ⟨b, off, e, hc⟩ := h.2 hn
    refine ⟨b, off, e, fun j hj => ?_⟩
    have := hc j hj
    rw [← this]
    exact World.cell?_of_block (m.block b (World.block_lt_of_cell? _ _ this) (hA hn _ e))⟩
section
variable {W : World} {g ib ic : Nat} {p s r : Int} {d : Dev} {v : Value}
theorem FlAt.setUp (h : FlAt W g ib ic p s r d v) : FlAt (((W.setCell ⟨g, 4, none⟩ (.slice none 0 0)).setCell ⟨g, 5, none⟩ (.bool false)).setCell ⟨g, 6, none⟩ (.bool false)) g ib ic p s r { d with row := [], down := false, set := false } (.slice none 0 0) := by
  have h1 := h.setNil
  refine ⟨(h1.box.put 5 (.bool false)).put 6 (.bool false), (h1.img.far (p := ⟨g, 5, none⟩) (Ne.symm h.ne) _).far (p := ⟨g, 6, none⟩) (Ne.symm h.ne) _, World.ownsRow_nil _ _ _ _, h.ne, h.capok, ?_⟩
  intro k hk
  simp [Value.ownBlock] at hk
theorem FlMv.setUp {W' : World} (k : FlMv W W' g ib v v) : FlMv W (((W'.setCell ⟨g, 4, none⟩ (.slice none 0 0)).setCell ⟨g, 5, none⟩ (.bool false)).setCell ⟨g, 6, none⟩ (.bool false)) g ib v (.slice none 0 0) := by
  refine ⟨((k.1.set (by simp [foot]) _).set (by simp [foot]) _).set (by simp [foot]) _, ?_⟩
  intro x hx
  simp [Value.ownBlock] at hx
theorem tornK_bd {p m : Int} (hp : 32 ≤ p) (hm : 2 ≤ m) : 1 ≤ tornK p m ∧ tornK p m ≤ p - 1 ∧ tornK p m = 1 + (m - 2).tmod (p - 1) := by
  unfold tornK
  have h1 := Int.emod_nonneg (m - 2) (show p - 1 ≠ 0 by omega)
  have h2 := Int.emod_lt_of_pos (m - 2) (show 0 < p - 1 by omega)
  rw [Int.tmod_eq_emod_of_nonneg (by omega)]
  omega
end
end Go.Proofs.YtnhogmheedeeiaaGreat
/- The contracts of package flash: New. -/
namespace Go.Proofs.YtnhogmheedeeiaaGreat
open Go.RowKit
set_option linter.unusedVariables false
set_option maxRecDepth 20000

theorem frightY (p s r : Int) (h : RightG p s r) (w : World) : Calls Tryz.prog 57 #[geo p s r] w fun e w' => e = .returned (.bool true) ∧ Kp w w' :=
  (right_yes p s r h w).mono fun e w' ⟨h1, h2⟩ => ⟨h1, h2 ▸ Kp.one _ _⟩
theorem frightN (p s r : Int) (h : ¬ RightG p s r) (w : World) : Calls Tryz.prog 57 #[geo p s r] w fun e w' => e = .returned (.bool false) ∧ Kp w w' :=
  (right_no p s r h w).mono fun e w' ⟨h1, h2⟩ => ⟨h1, h2 ▸ Kp.one _ _⟩
theorem fbytesK (p s r : Int) (h : RightG p s r) (w : World) : Calls Tryz.prog 58 #[geo p s r] w fun e w' => e = .returned (.int .i64 (p * s * r)) ∧ Kp w w' :=
  (bytes_yes p s r h w).mono fun e w' ⟨h1, h2⟩ => ⟨h1, h2 ▸ (Kp.one _ _).alloc _⟩
def newD (p s r : Int) (image : ByteArray) : Dev := ⟨nb image ++ List.replicate (p * s * r - image.size).toNat 255, [], false, false, 0⟩
theorem newD_img (p s r : Int) (image : ByteArray) : ints (newD p s r image).img = sb (image ++ fillS 255 (p * s * r - image.size).toNat) := by
  rw [sb_nb, nb_append, nb_fillS]
  rfl
theorem newD_ok {p s r : Int} (h : RightG p s r) (image : ByteArray) (hl : (image.size : Int) ≤ p * s * r) : DevOk p s r (newD p s r image) := by
  refine ⟨h, ?_, ?_, ?_, ?_, ?_⟩
  · unfold newD
    simp only [List.length_append, List.length_replicate, nb_len]
    omega
  · intro n hn
    unfold newD at hn
    simp only [List.mem_append, List.mem_replicate] at hn
    rcases hn with hn | ⟨-, rfl⟩
    · exact nb_lt _ n hn
    · omega
  · intro x hx
    exact absurd hx (by simp [newD])
  · intro hx
    simp [newD] at hx
  · simp [newD]
theorem bytes_of2 (W : World) (s : ByteArray) (src : TypeId) {u : TypeDesc} (hs : Tryz.prog.underlying src = some u) :
    ∃ W' c, (convert src 55 (.string s)).run Tryz.prog W = .ok (.slice (some ⟨W.heap.size, 0, none⟩) s.size c) W' ∧ By W' W.heap.size (sb s) ∧ Kp W W' ∧ W'.heap.size = W.heap.size + 1 ∧ s.size ≤ c := by
  obtain ⟨W', c, h1, h2, h3, h4⟩ := bytes_of W s src hs
  refine ⟨W', c, h1, h2, h3, h4, ?_⟩
  have h5 := Lib.run_convert_string_bytes (P := Tryz.prog) W src 55 5 s hs Tryz.underlying55 Tryz.underlying5
  rw [h1] at h5
  injection h5 with h6 h7
  injection h6 with h8 h9 h10
  rw [h10]
  exact grownCap_ge W s.size 0 5
def NewPost (w : World) (p s r : Int) (image : ByteArray) (e : Ending) (w' : World) : Prop :=
  ∃ g ib ic, e = .returned (.tuple #[.pointer (some ⟨g, 0, none⟩), .int .i64 0]) ∧ w.heap.size ≤ g ∧ w.heap.size ≤ ib ∧ FlAt w' g ib ic p s r (newD p s r image) (.slice none 0 0) ∧ Kp w w'
set_option maxRecDepth 20000 in
set_option maxHeartbeats 1600000 in
theorem fnew_yes (p s r : Int) (h : RightG p s r) (image : ByteArray) (hl : (image.size : Int) ≤ p * s * r) (w : World) :
    Calls Tryz.prog 26 #[geo p s r, .string image] w (NewPost w p s r image) := by
  obtain ⟨m1, m2, m3, m4⟩ := mul3 h
  have HG := Lib.hid (fun (W : World) (k : Kp (w.alloc (gob p s r)) W) => (Gat.new w p s r).keep k)
  have q1 : IntKind.i64.wrap (p * s * r - (image.size : Int)) = p * s * r - (image.size : Int) := IntWalk.i64_in _ (by omega)
  have hN0 : 0 ≤ p * s * r - (image.size : Int) := by omega
  have hN1 : p * s * r - (image.size : Int) ≤ 140737488351232 := by omega
  have HL := Lib.hid hl
  have HIM := Lib.hid (newD_img p s r image)
  have hlen2 : (image ++ fillS 255 (p * s * r - image.size).toNat).size = (newD p s r image).img.length := by
    rw [ByteArray.size_append, fillS_size]
    unfold newD
    simp only [List.length_append, List.length_replicate, nb_len]
  have HL2 := Lib.hid hlen2
  clear hlen2
  have hd0 : decide (p * s * r < (image.size : Int)) = false := by simp; omega
  go_enter Tryz.func26, Tryz.ntmps26
  go_wp2_with fail
  refine (frightY p s r h _).mono ?_
  rintro e w1 ⟨rfl, hk1⟩
  obtain ⟨g0, g1, g2⟩ := HG.out _ hk1
  go_wp2_with fail
  refine (fbytesK p s r h _).mono ?_
  rintro e w2 ⟨rfl, hk2⟩
  clear g0 g1 g2
  obtain ⟨g0, g1, g2⟩ := HG.out _ (hk1.trans hk2)
  go_wp2_with fail
  refine (fbytesK p s r h _).mono ?_
  rintro e w3 ⟨rfl, hk3⟩
  go_wp2_with fail
  refine (repK255 _ hN0 hN1 _).mono ?_
  rintro e w4 ⟨rfl, hk4⟩
  have hsum : image.size + (fillS 255 (p * s * r - (image.size : Int)).toNat).size ≤ 9223372036854775807 := by rw [fillS_size]; omega
  generalize (fillS 255 (p * s * r - (image.size : Int)).toNat) = fl at *
  obtain ⟨W1, c, hcv, hby, hkb, hsz, hcap⟩ := bytes_of2 w4 (image ++ fl) 9 Tryz.underlying9
  have hK5 := (((hk1.trans hk2).trans hk3).trans hk4).trans hkb
  clear g0 g1 g2
  obtain ⟨g0, g1, g2⟩ := HG.out _ hK5
  have hKw := (Kp.one w (gob p s r)).trans hK5
  have hk45 := (((Kp.one w (gob p s r)).trans hk1).trans (hk2.trans (hk3.trans hk4)))
  have HBY := Lib.hid hby
  have HCP := Lib.hid hcap
  clear hcap
  clear hby q1 hN0 hN1
  go_wp2_with fail
  refine bodyPost_ret (v := .tuple #[.pointer (some ⟨w4.heap.size + 1, 0, none⟩), .int .i64 0]) (by simp [results, Tryz.results26, go_sem]) rfl ?_
  have hll : image.size + fl.size = (newD p s r image).img.length := by rw [← HL2.out, ByteArray.size_append]
  rw [hll]
  have hNB := Bk.new W1 85 [.int .i64 p, .int .i64 s, .int .i64 r, .slice (some ⟨w4.heap.size, 0, none⟩) (newD p s r image).img.length c, .slice none 0 0, .bool false, .bool false, .int .i64 0]
  rw [hsz] at hNB
  have hw4 := hk45.size
  refine ⟨w4.heap.size + 1, w4.heap.size, c, rfl, by omega, by omega, ⟨hNB, ?_, World.ownsRow_nil _ _ _ _, by omega, ?_, ?_⟩, hKw.alloc _⟩
  · rw [HIM.out]
    exact HBY.out.keep (Kp.one _ _)
  · rw [← HL2.out]
    exact HCP.out
  · intro k hk
    simp [Value.ownBlock] at hk
set_option maxHeartbeats 800000 in
theorem fnew_no (p s r : Int) (image : ByteArray) (h : ¬ RightG p s r ∨ (RightG p s r ∧ p * s * r < (image.size : Int))) (his : image.size ≤ 9223372036854775807) (w : World) :
    Calls Tryz.prog 26 #[geo p s r, .string image] w fun e w' => e = .returned (.tuple #[.pointer none, .int .i64 1]) ∧ Kp w w' := by
  have HG := Lib.hid (fun (W : World) (k : Kp (w.alloc (gob p s r)) W) => (Gat.new w p s r).keep k)
  rcases h with h | ⟨h, h2⟩
  · go_enter Tryz.func26, Tryz.ntmps26
    go_wp2_with fail
    refine (frightN p s r h _).mono ?_
    rintro e w1 ⟨rfl, hk1⟩
    go_wp2_with fail
    refine bodyPost_ret (v := .tuple #[.pointer none, .int .i64 1]) (by simp [results, Tryz.results26, go_sem]) rfl ⟨rfl, (Kp.one _ _).trans hk1⟩
  · go_enter Tryz.func26, Tryz.ntmps26
    go_wp2_with fail
    refine (frightY p s r h _).mono ?_
    rintro e w1 ⟨rfl, hk1⟩
    obtain ⟨g0, g1, g2⟩ := HG.out _ hk1
    go_wp2_with fail
    refine (fbytesK p s r h _).mono ?_
    rintro e w2 ⟨rfl, hk2⟩
    go_wp2_with fail
    refine bodyPost_ret (v := .tuple #[.pointer none, .int .i64 1]) (by simp [results, Tryz.results26, go_sem]) rfl ⟨rfl, ((Kp.one _ _).trans hk1).trans hk2⟩
end Go.Proofs.YtnhogmheedeeiaaGreat
/- The contracts of package flash: Erase. -/
namespace Go.Proofs.YtnhogmheedeeiaaGreat
open Go.RowKit
set_option linter.unusedVariables false
set_option maxRecDepth 20000

def newRows (p fr : Int) (k : Nat) : Rw := (List.range k).map fun (i : Nat) => (fr + (i : Int), blankS p)
theorem newRows_succ (p fr : Int) (k : Nat) : newRows p fr (k + 1) = newRows p fr k ++ [(fr + (k : Int), blankS p)] := by
  unfold newRows
  rw [List.range_succ, List.map_append]
  rfl
theorem newRows_len (p fr : Int) (k : Nat) : (newRows p fr k).length = k := by simp [newRows]
theorem doAll_app (p : Int) (img : List Nat) (a : Rw) (x : Int × ByteArray) : doAll p img (a ++ [x]) = doD p (doAll p img a) x.1 x.2 := by
  unfold doAll
  rw [List.foldl_append]
  rfl
theorem blankS_size (p : Int) : (blankS p).size = p.toNat := fillS_size _ _
theorem newRows_mem {p s r fr : Int} {k : Nat} (hp : 0 ≤ p) (h0 : 0 ≤ fr) (h1 : fr + k ≤ s * r) : ∀ x ∈ newRows p fr k, 0 ≤ x.1 ∧ x.1 < s * r ∧ (x.2.size : Int) = p := by
  intro x hx
  simp only [newRows, List.mem_map, List.mem_range] at hx
  obtain ⟨i, hi, rfl⟩ := hx
  refine ⟨by dsimp only; omega, by dsimp only; omega, ?_⟩
  dsimp only
  rw [blankS_size]
  omega
def inReg (s region : Int) (x : Int × ByteArray) : Prop := region * s ≤ x.1 ∧ x.1 < region * s + s
instance (s region : Int) (x : Int × ByteArray) : Decidable (inReg s region x) := by unfold inReg; infer_instance
def eraseD (p s r : Int) (d : Dev) (region : Int) : Dev × Int :=
  if d.down = true then (d, 6) else if region < 0 ∨ r ≤ region then (d, 1)
  else if ∃ x ∈ d.row, inReg s region x then (d, 7)
  else if (countD d).2 = true then ({ (countD d).1 with row := (countD d).1.row ++ newRows p (region * s) s.toNat }, 6)
  else ({ (countD d).1 with img := doAll p (countD d).1.img (newRows p (region * s) s.toNat) }, 0)
theorem src_bk {W : World} {q : Nat} {t : TypeId} {cs : List Value} (h : Bk W q t cs) : Src W (some ⟨q, 0, none⟩) cs := by
  intro _
  refine ⟨q, 0, rfl, fun j hj => ?_⟩
  rw [Nat.zero_add, h.cell j, List.getElem?_eq_getElem hj]
theorem reg_bd {p s r region : Int} (hR : RightG p s r) (h0 : 0 ≤ region) (h1 : region < r) : 0 ≤ region * s ∧ region * s + s ≤ s * r ∧ s * r ≤ 120 ∧ 3 ≤ s ∧ s ≤ 10 := by
  have h2 := (mul_sr hR).2.1
  obtain ⟨r1, r2, r3, r4, r5, r6⟩ := hR
  refine ⟨Int.mul_nonneg h0 (by omega), ?_, h2, by omega, by omega⟩
  have h3 : (region + 1) * s ≤ r * s := Int.mul_le_mul_of_nonneg_right (by omega) (by omega)
  rw [Int.add_mul, Int.one_mul, Int.mul_comm r s] at h3
  exact h3
section
variable {W : World} {g ib ic : Nat} {p s r : Int} {d : Dev} {v : Value}
set_option maxRecDepth 20000 in
set_option maxHeartbeats 3200000 in
theorem ferase (h : FlAt W g ib ic p s r d v) (ok : DevOk p s r d) (region : Int) :
    Calls Tryz.prog 40 #[.pointer (some ⟨g, 0, none⟩), .int .i64 region] W (FlPost W g ib ic p s r v (eraseD p s r d region)) := by
  have HD := Lib.hid (fdown h)
  have HCN := Lib.hid (fun W' (k : Kp W W') => fcount (h.keep k) ok.left)
  have HC := Lib.hid (fun W' (k : Kp W W') => (h.keep k).c8)
  have hrl := ok.rl
  rcases hdn : d.down with _ | _
  · rw [hdn] at HD
    have hR := ok.right
    have hcases : region < 0 ∨ (0 ≤ region ∧ r ≤ region) ∨ (0 ≤ region ∧ region < r) := by omega
    rcases hcases with hc | ⟨hc1, hc⟩ | ⟨hc1, hc⟩
    · have e1 : eraseD p s r d region = (d, 1) := by unfold eraseD; rw [if_neg (by rw [hdn]; simp), if_pos (Or.inl hc)]
      rw [e1]
      clear e1 hdn HCN
      go_enter Tryz.func40, Tryz.ntmps40
      go_wp2_with fail
      refine (HD.out).mono ?_
      rintro e w1 ⟨rfl, hk1⟩
      go_wp2_with fail
      go_ret
      exact ⟨rfl, v, h.keep hk1, FlMv.of hk1⟩
    · have e1 : eraseD p s r d region = (d, 1) := by unfold eraseD; rw [if_neg (by rw [hdn]; simp), if_pos (Or.inr hc)]
      rw [e1]
      clear e1 hdn HCN
      go_enter Tryz.func40, Tryz.ntmps40
      go_wp2_with fail
      refine (HD.out).mono ?_
      rintro e w1 ⟨rfl, hk1⟩
      obtain ⟨c0, c1, c2, c3, c4, c5, c6, c7⟩ := HC.out _ hk1
      go_wp2_with fail
      go_ret
      exact ⟨rfl, v, h.keep hk1, FlMv.of hk1⟩
    · obtain ⟨b1, b2, b3, b4, b5⟩ := reg_bd hR hc1 hc
      have E7 : (∃ x ∈ d.row, inReg s region x) → eraseD p s r d region = (d, 7) := by
        intro hx
        unfold eraseD
        rw [if_neg (by rw [hdn]; simp), if_neg (by omega), if_pos hx]
      have E0 : (¬ ∃ x ∈ d.row, inReg s region x) → eraseD p s r d region = if (countD d).2 = true then ({ (countD d).1 with row := (countD d).1.row ++ newRows p (region * s) s.toNat }, 6)
          else ({ (countD d).1 with img := doAll p (countD d).1.img (newRows p (region * s) s.toNat) }, 0) := by
        intro hx
        unfold eraseD
        rw [if_neg (by rw [hdn]; simp), if_neg (by omega), if_neg hx]
      obtain ⟨si, sr⟩ := countD_same d
      have hlen := ok.len
      unfold CountPost at HCN
      generalize countD d = cd at *
      obtain ⟨c, cb⟩ := cd
      generalize eraseD p s r d region = er at *
      have H7 := Lib.hid E7
      have H0 := Lib.hid E0
      have HSI := Lib.hid si
      have HSR := Lib.hid sr
      have HLN := Lib.hid hlen
      have HRW := Lib.hid h.rows
      clear E7 E0 hdn si sr hlen ok
      have q1 : IntKind.i64.wrap (region * s) = region * s := IntWalk.i64_in _ (by omega)
      have q2 : IntKind.i64.wrap (region * s + s) = region * s + s := IntWalk.i64_in _ (by omega)
      have hINR : ∀ x : Int × ByteArray, inReg s region x ↔ region * s ≤ x.1 ∧ x.1 < region * s + s := fun x => Iff.rfl
      have HIN := Lib.hid hINR
      clear hINR
      generalize hfr : region * s = fr at *
      have q3 : IntKind.i64.wrap (region * s) = fr := by rw [hfr]; exact q1
      have HFR := Lib.hid hfr
      clear hfr
      obtain ⟨A, cc, hv, -⟩ := HRW.out
      have HV := Lib.hid hv
      go_enter Tryz.func40, Tryz.ntmps40
      go_wp2_with fail
      refine (HD.out).mono ?_
      rintro e w1 ⟨rfl, hk1⟩
      obtain ⟨c0, c1, c2, c3, c4, c5, c6, c7⟩ := HC.out _ hk1
      have HRO := Lib.hid (fun W' (k : Kp w1 W') => (h.keep (hk1.trans k)).rows)
      rw [hv] at c4
      clear hv HRW
      go_wp2_with fail
      go_loopw [37] (fun i wr => ∃ k : Nat, k ≤ d.row.length ∧ i = .int .i64 k ∧ Kp w1 wr ∧ ∀ j (hj : j < d.row.length), j < k → ¬ inReg s region d.row[j]) (fun i _ => d.row.length - (intOf i).toNat)
      case atStart => exact ⟨0, by omega, rfl, Kp.refl _, fun j hj h0 => absurd h0 (by omega)⟩
      case round =>
        obtain ⟨k, hk, rfl, hkr, hno⟩ := hrel
        have HNO := Lib.hid hno
        clear hno c0 c1 c2 c3 c4 c5 c6 c7
        have HC1 := Lib.hid (fun W' (k : Kp w1 W') => HC.out _ (hk1.trans k))
        by_cases hlt : k < d.row.length
        · obtain ⟨A', cc', hv', hrw⟩ := HRO.out _ hkr
          have hAA : A' = A := by rw [HV.out] at hv'; injection hv' with e1; exact e1.symm
          subst hAA
          obtain ⟨q, hq, e1, e2⟩ := hrw k hlt
          subst hq
          clear hv' hrw
          have hin := HIN.out d.row[k]
          have hmem := List.getElem_mem hlt
          have HME := Lib.hid hmem
          clear hmem
          generalize hx : d.row[k] = x at *
          obtain ⟨pg, bb⟩ := x
          have HX := Lib.hid hx
          clear hx
          dsimp only at e1 e2 hin
          have hNB := Bk.new wr 110 [.int .i64 pg, .string bb]
          have HNB := Lib.hid (fun W' (kk : Kp (wr.alloc (.cells #[.int .i64 pg, .string bb] 110)) W') => And.intro ((hNB.keep kk).cell 0) (HC1.out _ ((hkr.trans (Kp.one _ _)).trans kk)))
          clear hNB
          have dl : (k : Int) < (d.row.length : Int) := by omega
          have hcs : (pg < fr) ∨ (fr ≤ pg ∧ fr + s ≤ pg) ∨ (fr ≤ pg ∧ pg < fr + s) := by omega
          rcases hcs with hq1 | ⟨hq1, hq2⟩ | ⟨hq1, hq2⟩
          · have d1 : decide (fr ≤ pg) = false := by simp; omega
            have HNI : Hid (¬ inReg s region (pg, bb)) := Lib.hid (fun hh => by have := hin.1 hh; omega)
            clear hin
            go_wp2_with fail
            have hInh := fun (x v : Value) => (⟨fun h => h _ ((Kp.refl _).drew), fun h _ _ => h⟩ : (∀ Wz9, (fun W' => Kp (wr.alloc (.cells #[.int .i64 pg, .string bb] 110)) W') Wz9 → x = v) ↔ x = v)
            dsimp only at hInh
            refine wp_region_quietC (C := fun W' => Kp (wr.alloc (.cells #[.int .i64 pg, .string bb] 110)) W') (by kernel_rfl) (by kernel_rfl) ((Kp.refl _).drew) ?_
            repeat (first | go_big_quiet_step ((intro hW; first | fail | (with_reducible rfl) | (obtain ⟨n0, c0, c1, c2, c3, c4, c5, c6, c7⟩ := HNB.out _ hW; (try go_simp); first | done | with_reducible rfl | exact ⟨rfl, rfl⟩))) | quiet_step ((intro hW; first | fail | (with_reducible rfl) | (obtain ⟨n0, c0, c1, c2, c3, c4, c5, c6, c7⟩ := HNB.out _ hW; (try go_simp); first | done | with_reducible rfl | exact ⟨rfl, rfl⟩))))
            refine wpQuiet_nil ?_
            intro wq hwq
            clear hInh
            go_wp2_with fail
            go_roundw
            case rel => exact ⟨k + 1, by omega, by go_num, (hkr.trans (Kp.one _ _)).trans hwq, fun j hj hjk => by
              rcases Nat.lt_or_ge j k with h9 | h9
              · exact HNO.out j hj h9
              · have : j = k := by omega
                subst this
                rw [HX.out]
                exact HNI.out⟩
            case measure => simp [intOf]; omega
          · have d1 : decide (fr ≤ pg) = true := by simpa using hq1
            have d2 : decide (pg < fr + s) = false := by simp; omega
            have HNI : Hid (¬ inReg s region (pg, bb)) := Lib.hid (fun hh => by have := hin.1 hh; omega)
            clear hin
            go_wp2_with fail
            have hInh := fun (x v : Value) => (⟨fun h => h _ ((Kp.refl _).drew), fun h _ _ => h⟩ : (∀ Wz9, (fun W' => Kp (wr.alloc (.cells #[.int .i64 pg, .string bb] 110)) W') Wz9 → x = v) ↔ x = v)
            dsimp only at hInh
            refine wp_region_quietC (C := fun W' => Kp (wr.alloc (.cells #[.int .i64 pg, .string bb] 110)) W') (by kernel_rfl) (by kernel_rfl) ((Kp.refl _).drew) ?_
            repeat (first | go_big_quiet_step ((intro hW; first | fail | (with_reducible rfl) | (obtain ⟨n0, c0, c1, c2, c3, c4, c5, c6, c7⟩ := HNB.out _ hW; (try go_simp); first | done | with_reducible rfl | exact ⟨rfl, rfl⟩))) | quiet_step ((intro hW; first | fail | (with_reducible rfl) | (obtain ⟨n0, c0, c1, c2, c3, c4, c5, c6, c7⟩ := HNB.out _ hW; (try go_simp); first | done | with_reducible rfl | exact ⟨rfl, rfl⟩))))
            refine wpQuiet_nil ?_
            intro wq hwq
            clear hInh
            go_wp2_with fail
            go_roundw
            case rel => exact ⟨k + 1, by omega, by go_num, (hkr.trans (Kp.one _ _)).trans hwq, fun j hj hjk => by
              rcases Nat.lt_or_ge j k with h9 | h9
              · exact HNO.out j hj h9
              · have : j = k := by omega
                subst this
                rw [HX.out]
                exact HNI.out⟩
            case measure => simp [intOf]; omega
          · have d1 : decide (fr ≤ pg) = true := by simpa using hq1
            have d2 : decide (pg < fr + s) = true := by simpa using hq2
            have HYI : Hid (inReg s region (pg, bb)) := Lib.hid (hin.2 ⟨hq1, hq2⟩)
            clear hin
            go_wp2_with fail
            have hInh := fun (x v : Value) => (⟨fun h => h _ ((Kp.refl _).drew), fun h _ _ => h⟩ : (∀ Wz9, (fun W' => Kp (wr.alloc (.cells #[.int .i64 pg, .string bb] 110)) W') Wz9 → x = v) ↔ x = v)
            dsimp only at hInh
            refine wp_region_quietC (C := fun W' => Kp (wr.alloc (.cells #[.int .i64 pg, .string bb] 110)) W') (by kernel_rfl) (by kernel_rfl) ((Kp.refl _).drew) ?_
            repeat (first | go_big_quiet_step ((intro hW; first | fail | (with_reducible rfl) | (obtain ⟨n0, c0, c1, c2, c3, c4, c5, c6, c7⟩ := HNB.out _ hW; (try go_simp); first | done | with_reducible rfl | exact ⟨rfl, rfl⟩))) | quiet_step ((intro hW; first | fail | (with_reducible rfl) | (obtain ⟨n0, c0, c1, c2, c3, c4, c5, c6, c7⟩ := HNB.out _ hW; (try go_simp); first | done | with_reducible rfl | exact ⟨rfl, rfl⟩))))
            refine wpQuiet_nil ?_
            intro wq hwq
            clear hInh
            go_wp2_with fail
            go_ret
            have hkf := hk1.trans ((hkr.trans (Kp.one _ _)).trans hwq)
            rw [H7.out ⟨_, HME.out, HYI.out⟩]
            exact ⟨rfl, v, h.keep hkf, FlMv.of hkf⟩
        · have hno : ¬ ∃ x ∈ d.row, inReg s region x := by
            rintro ⟨x, hx, hin⟩
            obtain ⟨j, hj, rfl⟩ := List.mem_iff_getElem.1 hx
            exact HNO.out j hj (by omega) hin
          have HE := Lib.hid (H0.out hno)
          clear hno H0 H7 HNO HIN
          have hK := hk1.trans hkr
          have hp0 : 0 ≤ p := by have := hR; unfold RightG at this; omega
          go_wp2_with fail
          refine (HCN.out _ hK).mono ?_
          rintro e w2 ⟨rfl, hf2, hm2⟩
          have hM2 := (FlMv.of (v := v) (g := g) (ib := ib) hK).trans hm2
          obtain ⟨c0, c1, c2, c3, c4, c5, c6, c7⟩ := hf2.c8
          clear hm2 HCN HC HC1 HRO HD hk1 hkr
          rcases cb with _ | _
          · rw [if_neg (by simp)] at HE
            go_wp2_with fail
            go_loopw [65] (fun i wr => ∃ k : Nat, (k : Int) ≤ s ∧ i = .int .i64 k ∧ FlAt wr g ib ic p s r { c with img := doAll p c.img (newRows p fr k) } v ∧ FlMv W wr g ib v v) (fun i _ => s.toNat - (intOf i).toNat)
            case atStart => exact ⟨0, by omega, rfl, hf2, hM2⟩
            case round =>
              obtain ⟨k, hk, rfl, hfr, hMr⟩ := hrel
              clear hf2 hM2 c0 c1 c2 c3 c4 c5 c6 c7 hK hlt
              by_cases hlt : (k : Int) < s
              · have HBL := Lib.hid (fblank hfr hR)
                have hl2 : ((doAll p c.img (newRows p fr k)).length : Int) = p * s * r := by
                  rw [doAll_len hR _ _ (by rw [HSI.out]; exact HLN.out) (newRows_mem hp0 (by omega) (by omega)), HSI.out]
                  exact HLN.out
                have hbsz : ((blankS p).size : Int) ≤ p := by rw [blankS_size]; omega
                have HDO := Lib.hid (fun W' (kk : Kp wr W') => fdo (hfr.keep kk) hR hl2 (fr + (k : Int)) (by omega) (by omega) (blankS p) hbsz)
                have HMQ := Lib.hid (fun W' (kk : Kp wr W') => hMr.trans (FlMv.of (v := v) (g := g) (ib := ib) kk))
                have HST : Hid (doAll p c.img (newRows p fr (k + 1)) = doD p (doAll p c.img (newRows p fr k)) (fr + (k : Int)) (blankS p)) := Lib.hid (by rw [newRows_succ, doAll_app])
                have q9 : IntKind.i64.wrap (fr + (k : Int)) = fr + (k : Int) := IntWalk.i64_in _ (by omega)
                clear hl2 hbsz
                generalize blankS p = bl at *
                go_wp2_with fail
                refine (HBL.out).mono ?_
                rintro e w5 ⟨rfl, hk5⟩
                go_wp2_with fail
                refine (HDO.out _ hk5).mono ?_
                rintro e w6 ⟨rfl, hf6, hm6⟩
                have hM6 := (HMQ.out _ hk5).trans hm6
                go_wp2_with fail
                go_roundw
                case rel => exact ⟨k + 1, by omega, by go_num, by rw [HST.out]; exact hf6, hM6⟩
                case measure => simp [intOf]; omega
              · have hke : k = s.toNat := by omega
                subst hke
                go_wp2_with fail
                go_ret
                rw [HE.out]
                exact ⟨rfl, _, hfr, hMr⟩
          · rw [if_pos rfl] at HE
            go_wp2_with fail
            go_loopw [65] (fun i wr => ∃ (k : Nat) (v' : Value), (k : Int) ≤ s ∧ i = .int .i64 k ∧ FlAt wr g ib ic p s r { c with row := c.row ++ newRows p fr k } v' ∧ FlMv W wr g ib v v') (fun i _ => s.toNat - (intOf i).toNat)
            case atStart => exact ⟨0, v, by omega, rfl, by rw [show newRows p fr 0 = [] from rfl, List.append_nil]; exact hf2, hM2⟩
            case round =>
              obtain ⟨k, v', hk, rfl, hfr, hMr⟩ := hrel
              clear hf2 hM2 c0 c1 c2 c3 c4 c5 c6 c7 hK hlt
              by_cases hlt : (k : Int) < s
              · have HBL := Lib.hid (fun W' (kk : Kp wr W') => fblank (hfr.keep kk) hR)
                have HCR := Lib.hid (fun W' (kk : Kp wr W') => (hfr.keep kk).c8)
                have HOW := Lib.hid (fun W' (kk : Kp wr W') => (hfr.keep kk).own)
                have hnl : (c.row ++ newRows p fr k).length ≤ 100010 := by rw [List.length_append, newRows_len, HSR.out]; omega
                have HNL := Lib.hid hnl
                have HPU := Lib.hid (fun W' (kk : Kp wr W') w' v9 a1 a2 a3 => hfr.push kk (x := (fr + (k : Int), blankS p)) (w' := w') (v' := v9) a1 a2 a3)
                have HST : Hid ((c.row ++ newRows p fr k) ++ [(fr + (k : Int), blankS p)] = c.row ++ newRows p fr (k + 1)) := Lib.hid (by rw [newRows_succ, List.append_assoc])
                have q9 : IntKind.i64.wrap (fr + (k : Int)) = fr + (k : Int) := IntWalk.i64_in _ (by omega)
                have hp1 := hR
                clear hnl
                generalize blankS p = bl at *
                go_wp2_with fail
                refine wp_region_relF (R := Kp) (C := fun W' => Kp wr W') 12 rfl rfl rfl (by kernel_rfl) (by kernel_rfl) (fun _ _ _ h => h) (Kp.refl wr).drew (fun _ _ h k => h.trans k) Kp.refl (fun _ _ _ h k => h.trans k) ?_
                simp only [List.take_succ_cons, List.take_zero, List.drop_succ_cons, List.drop_zero]
                repeat (refine wpRel_step (fun K hK => ?_); apply rel_eq; (case ob => (intro f W hW hd; (obtain ⟨c0, c1, c2, c3, c4, c5, c6, c7⟩ := HCR.out _ hW); (try simp [deps, factOf, Region.binds] at hd); unfold relOp; go_simp; (first | exact ⟨Kp.refl _, rfl⟩ | exact Kp.refl _ | (refine ⟨Kp.refl _, ?_⟩; (go_at_call 73; refine (HBL.out _ hW).mono ?_; rintro e w' ⟨rfl, hk9⟩; exact ⟨rfl, hk9⟩))))); go_simp; refine hK _ _ ?_; clear hK K)
                refine wpRel_step (fun K hK => ?_)
                apply rel_fact (fun v W => ∃ q, v = .slice (some ⟨q, 0, none⟩) 1 1 ∧ Bk W q 110 [.int .i64 (fr + (k : Int)), .string bl]) (fun v W W' hr ⟨q, h1, h2⟩ => ⟨q, h1, h2.keep hr⟩)
                case ob =>
                  intro f W hW hd
                  skip
                  (try simp [deps, factOf, Region.binds] at hd)
                  unfold relOp
                  go_simp
                  exact ⟨Kp.one _ _, Bk.new _ _ _⟩
                go_simp
                refine hK _ _ ?_
                clear hK K
                refine wpRel_nil ?_
                intro f W' hW hall
                have h69 : f 0 = .pointer (some ⟨g, 0, none⟩) := allF_get hall 0 _ rfl
                have h73 : f 4 = v' := allF_get hall 4 _ rfl
                obtain ⟨q, h80, hq⟩ := allF_get hall 11 _ rfl
                clear hall
                dsimp only
                rw [h69, h73, h80]
                have hown3 := HOW.out _ hW
                have hnl := HNL.out
                refine wpList_app0 rfl _ _ _ rfl (.agg #[.int .i64 0, .string ⟨#[]⟩]) 24 Tryz.underlying83 info_write rfl (by decide) (by decide) rfl hown3 (some ⟨q, 0, none⟩) 1 1 [.int .i64 (fr + (k : Int)), .string bl] rfl rfl (src_bk hq) (by simp [Value.oneCell']) (by omega) ?_
                intro v1 w4 hown1 hg1 hat1
                obtain ⟨A1, c1, rfl⟩ := own_slice hown1
                obtain ⟨z1, z2, z3, z4⟩ := HPU.out _ hW w4 _ hown1 hg1 hat1
                have f4 := z1 4
                rw [HST.out] at z3
                have hll : (c.row ++ newRows p fr k).length = c.row.length + (newRows p fr k).length := List.length_append
                rw [hll] at z3 z4
                have hM9 := Lib.hid (hMr.trans z4)
                have HZ3 := Lib.hid z3
                clear hll z1 z3 z4 hg1 hat1 hown1 hown3 hnl HPU HST HNL HOW HCR HBL
                go_wp2_with fail
                go_roundw
                case rel => exact ⟨k + 1, _, by omega, by go_num, HZ3.out, hM9.out⟩
                case measure => simp [intOf]; omega
              · have hke : k = s.toNat := by omega
                subst hke
                go_wp2_with fail
                go_ret
                rw [HE.out]
                exact ⟨rfl, _, hfr, hMr⟩
  · rw [hdn] at HD
    have e1 : eraseD p s r d region = (d, 6) := by unfold eraseD; rw [if_pos hdn]
    rw [e1]
    clear e1 hdn HCN
    go_enter Tryz.func40, Tryz.ntmps40
    go_wp2_with fail
    refine (HD.out).mono ?_
    rintro e w1 ⟨rfl, hk1⟩
    go_wp2_with fail
    go_ret
    exact ⟨rfl, v, h.keep hk1, FlMv.of hk1⟩
end
end Go.Proofs.YtnhogmheedeeiaaGreat
/- What is kept by the calls of a device; the calls, as laws take them; 'tiny', 'alive'. -/
namespace Go.Proofs.YtnhogmheedeeiaaGreat
open Go.RowKit
set_option linter.unusedVariables false
set_option maxRecDepth 20000

section
variable {p s r : Int} {d : Dev}
theorem countD_ok (ok : DevOk p s r d) : DevOk p s r (countD d).1 := by
  obtain ⟨h1, h2, h3, h4, h5, h6⟩ := ok
  unfold countD
  split
  · exact ⟨h1, h2, h3, h4, h5, h6⟩
  · split
    · exact ⟨h1, h2, h3, h4, fun hx => by simp at hx, h6⟩
    · rename_i hs hz
      refine ⟨h1, h2, h3, h4, fun hx => ?_, h6⟩
      have := h5 hx
      dsimp only at hx this ⊢
      omega
theorem push_ok (ok : DevOk p s r d) (page : Int) (b : ByteArray) (h0 : 0 ≤ page) (h1 : page < s * r) (hb : (b.size : Int) = p) (hl : d.row.length < 100000) : DevOk p s r { d with row := d.row ++ [(page, b)] } := by
  refine ⟨ok.right, ok.len, ok.byt, fun x hx => ?_, ok.left, by simp; omega⟩
  simp only [List.mem_append, List.mem_singleton] at hx
  rcases hx with hx | rfl
  · exact ok.rows x hx
  · exact ⟨h0, h1, hb⟩
theorem read_ok {page : Int} (h : (readD p s r d page).2 = 0) : d.down = false ∧ 0 ≤ page ∧ page < s * r := by
  unfold readD at h
  split at h
  · simp at h
  · split at h
    · simp at h
    · rename_i h1 h2
      refine ⟨by simpa using h1, by omega, by omega⟩
theorem programD_ok (ok : DevOk p s r d) (page : Int) (b : ByteArray) (hl : d.row.length < 100000) : DevOk p s r (programD p s r d page b).1 := by
  unfold programD
  split
  · exact ok
  · rename_i h1
    split
    · exact ok
    · rename_i h2
      split
      · exact ok
      · obtain ⟨-, h3, h4⟩ := read_ok (by simpa using h1)
        exact countD_ok (push_ok ok page b h3 h4 (by simpa using h2) hl)
theorem programD_rl (page : Int) (b : ByteArray) : (programD p s r d page b).1.row.length ≤ d.row.length + 1 := by
  unfold programD
  split
  · simp
  · split
    · simp
    · split
      · simp
      · rw [(countD_same _).2]; simp
theorem flushD_ok (ok : DevOk p s r d) : DevOk p s r (flushD p d).1 := by
  have h := countD_ok ok
  unfold flushD
  split
  · exact ok
  · split
    · exact h
    · refine ⟨h.right, ?_, doAll_mem _ _ h.byt, fun x hx => absurd hx (by simp), h.left, by simp⟩
      show ((doAll p (countD d).1.img (countD d).1.row).length : Int) = _
      rw [doAll_len h.right _ _ h.len h.rows]
      exact h.len
theorem crashD_ok (ok : DevOk p s r d) (mask : List Int) : DevOk p s r (crashD p d mask) := by
  refine ⟨ok.right, ?_, crK_mem _ _ _ ok.byt _, fun x hx => absurd hx (by simp [crashD]), fun hx => by simp [crashD] at hx, by simp [crashD]⟩
  show ((crK p d.img d.row mask d.row.length).length : Int) = _
  rw [crK_len ok.right _ _ _ ok.len ok.rows]
  exact ok.len
theorem fuseD_ok (ok : DevOk p s r d) (n : Int) (hn : n ≤ 9223372036854775807) : DevOk p s r (fuseD d n) :=
  ⟨ok.right, ok.len, ok.byt, ok.rows, fun hx => by unfold fuseD at hx ⊢; simp at hx; exact ⟨hx, hn⟩, ok.rl⟩
theorem eraseD_ok (ok : DevOk p s r d) (region : Int) (hl : d.row.length ≤ 99990) : DevOk p s r (eraseD p s r d region).1 := by
  have h := countD_ok ok
  unfold eraseD
  split
  · exact ok
  · split
    · exact ok
    · rename_i h1 h2
      obtain ⟨b1, b2, b3, b4, b5⟩ := reg_bd ok.right (show 0 ≤ region by omega) (by omega)
      have hp : 0 ≤ p := by have := ok.right; unfold RightG at this; omega
      have hm := newRows_mem (k := s.toNat) hp b1 (show region * s + (s.toNat : Int) ≤ s * r by omega)
      split
      · exact ok
      · split
        · refine ⟨h.right, h.len, h.byt, fun x hx => ?_, h.left, ?_⟩
          · simp only [List.mem_append] at hx
            rcases hx with hx | hx
            · exact h.rows x hx
            · exact hm x hx
          · show ((countD d).1.row ++ newRows p (region * s) s.toNat).length ≤ _
            rw [List.length_append, newRows_len, (countD_same d).2]
            omega
        · refine ⟨h.right, ?_, doAll_mem _ _ h.byt, h.rows, h.left, h.rl⟩
          show ((doAll p (countD d).1.img (newRows p (region * s) s.toNat)).length : Int) = _
          rw [doAll_len h.right _ _ h.len hm]
          exact h.len
theorem eraseD_rl (ok : DevOk p s r d) (region : Int) : (eraseD p s r d region).1.row.length ≤ d.row.length + 10 := by
  have hs : s ≤ 10 := by have := ok.right; unfold RightG at this; omega
  unfold eraseD
  split
  · simp
  · split
    · simp
    · split
      · simp
      · split
        · show ((countD d).1.row ++ newRows p (region * s) s.toNat).length ≤ _
          rw [List.length_append, newRows_len, (countD_same d).2]
          omega
        · show ((countD d).1.row).length ≤ _
          rw [(countD_same d).2]
          omega
theorem u8_xor_lt {a b : Nat} (ha : a < 256) (hb : b < 256) : a ^^^ b < 256 := Nat.xor_lt_two_pow (n := 8) ha hb
theorem rotD_ok (ok : DevOk p s r d) (page a x : Int) (hx : 0 ≤ x ∧ x ≤ 255) : DevOk p s r (rotD p s r d page a x).1 := by
  unfold rotD
  split
  · exact ok
  · refine ⟨ok.right, by simpa using ok.len, fun n hn => ?_, ok.rows, ok.left, ok.rl⟩
    dsimp only at hn
    rcases List.mem_or_eq_of_mem_set hn with h | h
    · exact ok.byt n h
    · rw [h]
      refine u8_xor_lt ?_ (by omega)
      rw [List.getD_eq_getElem?_getD]
      cases hg : d.img[(page * p + a).toNat]? with
      | none => show (0 : Nat) < 256; omega
      | some y => exact ok.byt y (List.mem_of_getElem? hg)
end

/-- A device that a law has made: all of it is new. -/
structure FlS (w0 W : World) (g ib ic : Nat) (p s r : Int) (d : Dev) (v : Value) : Prop where
  at_ : FlAt W g ib ic p s r d v
  ok : DevOk p s r d
  kp : Kp w0 W
  new : ∀ b ∈ foot g ib v, w0.heap.size ≤ b
section
variable {w0 W W' : World} {g ib ic : Nat} {p s r : Int} {d d' : Dev} {v v' : Value}
theorem FlS.keep (h : FlS w0 W g ib ic p s r d v) (k : Kp W W') : FlS w0 W' g ib ic p s r d v := ⟨h.at_.keep k, h.ok, h.kp.trans k, h.new⟩
theorem FlS.step (h : FlS w0 W g ib ic p s r d v) (h' : FlAt W' g ib ic p s r d' v') (m : FlMv W W' g ib v v') (ok : DevOk p s r d') : FlS w0 W' g ib ic p s r d' v' := by
  obtain ⟨a, b⟩ := FlMv.kp h.kp h.new m
  exact ⟨h', ok, a, b⟩
theorem new_S (h : RightG p s r) (image : ByteArray) (hl : (image.size : Int) ≤ p * s * r) (w : World) :
    Calls Tryz.prog 26 #[geo p s r, .string image] w fun e w' => ∃ g ib ic v, e = .returned (.tuple #[.pointer (some ⟨g, 0, none⟩), .int .i64 0]) ∧ FlS w w' g ib ic p s r (newD p s r image) v := by
  refine (fnew_yes p s r h image hl w).mono ?_
  rintro e w' ⟨g, ib, ic, h1, h2, h3, h4, h5⟩
  refine ⟨g, ib, ic, _, h1, h4, newD_ok h image hl, h5, ?_⟩
  intro b hb
  simp [foot, Value.ownBlock] at hb
  omega
theorem prog_S (h : FlS w0 W g ib ic p s r d v) (hl : d.row.length < 100000) (page : Int) (b : ByteArray) (hb : b.size ≤ 9223372036854775807) :
    Calls Tryz.prog 49 #[.pointer (some ⟨g, 0, none⟩), .int .i64 page, .string b] W fun e w' => ∃ v', e = .returned (.int .i64 (programD p s r d page b).2) ∧ FlS w0 w' g ib ic p s r (programD p s r d page b).1 v' := by
  refine (fprogram h.at_ h.ok page b hb).mono ?_
  rintro e w' ⟨h1, v', h2, h3⟩
  exact ⟨v', h1, h.step h2 h3 (programD_ok h.ok page b hl)⟩
theorem flush_S (h : FlS w0 W g ib ic p s r d v) :
    Calls Tryz.prog 34 #[.pointer (some ⟨g, 0, none⟩)] W fun e w' => ∃ v', e = .returned (.int .i64 (flushD p d).2) ∧ FlS w0 w' g ib ic p s r (flushD p d).1 v' := by
  refine (fflush h.at_ h.ok).mono ?_
  rintro e w' ⟨h1, v', h2, h3⟩
  exact ⟨v', h1, h.step h2 h3 (flushD_ok h.ok)⟩
theorem erase_S (h : FlS w0 W g ib ic p s r d v) (hl : d.row.length ≤ 99990) (region : Int) :
    Calls Tryz.prog 40 #[.pointer (some ⟨g, 0, none⟩), .int .i64 region] W fun e w' => ∃ v', e = .returned (.int .i64 (eraseD p s r d region).2) ∧ FlS w0 w' g ib ic p s r (eraseD p s r d region).1 v' := by
  refine (ferase h.at_ h.ok region).mono ?_
  rintro e w' ⟨h1, v', h2, h3⟩
  exact ⟨v', h1, h.step h2 h3 (eraseD_ok h.ok region hl)⟩
theorem fuse_S (h : FlS w0 W g ib ic p s r d v) (n : Int) (hn : n ≤ 9223372036854775807) :
    Calls Tryz.prog 14 #[.pointer (some ⟨g, 0, none⟩), .int .i64 n] W fun e w' => e = .returned (.tuple #[]) ∧ FlS w0 w' g ib ic p s r (fuseD d n) v := by
  refine (ffuse h.at_ n).mono ?_
  rintro e w' ⟨h1, h2, h3⟩
  exact ⟨h1, h.step h2 h3 (fuseD_ok h.ok n hn)⟩
theorem read_S (h : FlS w0 W g ib ic p s r d v) (page : Int) :
    Calls Tryz.prog 31 #[.pointer (some ⟨g, 0, none⟩), .int .i64 page] W fun e w' => e = .returned (.tuple #[.string (readD p s r d page).1, .int .i64 (readD p s r d page).2]) ∧ FlS w0 w' g ib ic p s r d v :=
  (fread_any h.at_ h.ok page).mono fun e w' ⟨h1, h2⟩ => ⟨h1, h.keep h2⟩
theorem down_S (h : FlS w0 W g ib ic p s r d v) : Calls Tryz.prog 21 #[.pointer (some ⟨g, 0, none⟩)] W fun e w' => e = .returned (.bool d.down) ∧ FlS w0 w' g ib ic p s r d v :=
  (fdown h.at_).mono fun e w' ⟨h1, h2⟩ => ⟨h1, h.keep h2⟩
theorem pending_S (h : FlS w0 W g ib ic p s r d v) : Calls Tryz.prog 20 #[.pointer (some ⟨g, 0, none⟩)] W fun e w' => e = .returned (.int .i64 d.row.length) ∧ FlS w0 w' g ib ic p s r d v :=
  (fpending h.at_).mono fun e w' ⟨h1, h2⟩ => ⟨h1, h.keep h2⟩
theorem image_S (h : FlS w0 W g ib ic p s r d v) : Calls Tryz.prog 18 #[.pointer (some ⟨g, 0, none⟩)] W fun e w' => e = .returned (.string (strN d.img)) ∧ FlS w0 w' g ib ic p s r d v :=
  (fimage h.at_).mono fun e w' ⟨h1, h2⟩ => ⟨h1, h.keep h2⟩
end
theorem tinyR : RightG 32 3 4 := by unfold RightG; omega
end Go.Proofs.YtnhogmheedeeiaaGreat
/- Plain laws of a device's pages. -/
namespace Go.Proofs.YtnhogmheedeeiaaGreat
open Go.RowKit
set_option linter.unusedVariables false
set_option maxRecDepth 20000

theorem nb_ext7 (s : ByteArray) (a b : Nat) : nb (s.extract a b) = ((nb s).drop a).take (b - a) := by
  unfold nb
  rw [ByteArray.data_extract, Array.toList_extract, List.extract, List.map_take, List.map_drop]
theorem nb_fill7 (b n : Nat) (h : b < 256) : nb (fillS (b : Int) n) = List.replicate n b := by
  have e : fillS (b : Int) n = strN (List.replicate n b) := by unfold fillS strN; rw [List.map_replicate]
  rw [e, nb_strN]
  intro x hx
  rw [(List.mem_replicate.1 hx).2]; exact h
theorem strN_app (a b : List Nat) (ha : ∀ n ∈ a, n < 256) (hb : ∀ n ∈ b, n < 256) : strN (a ++ b) = strN a ++ strN b := by
  apply nb_inj
  rw [nb_append, nb_strN _ ha, nb_strN _ hb, nb_strN]
  intro n hn
  rcases List.mem_append.1 hn with h | h
  · exact ha n h
  · exact hb n h
theorem strN_rep (n : Nat) : strN (List.replicate n 255) = fillS 255 n := by
  rw [← nb_fillS, strN_nb]
/-- The page that is laid. -/
theorem pg_splice_same (img : List Nat) (p page : Nat) (bs : List Nat) (hb : bs.length ≤ p) (hl : page * p + p ≤ img.length) :
    pgN (spliceN img (page * p) bs) p page = bs ++ (pgN img p page).drop bs.length := by
  unfold pgN spliceN
  have h1 : (img.take (page * p)).length = page * p := by rw [List.length_take]; omega
  rw [List.append_assoc, List.drop_left' h1]
  rw [List.take_append, List.take_of_length_le hb, List.drop_take, List.drop_drop]
theorem spliceN_get (img : List Nat) (o : Nat) (bs : List Nat) (hl : o + bs.length ≤ img.length) (j : Nat) : (spliceN img o bs)[j]? = if o ≤ j ∧ j < o + bs.length then bs[j - o]? else img[j]? := by
  unfold spliceN
  have h1 : (img.take o).length = o := by rw [List.length_take]; omega
  by_cases hj : j < o
  · rw [if_neg (by omega), List.append_assoc, List.getElem?_append_left (by omega), List.getElem?_take, if_pos hj]
  · by_cases hj2 : j < o + bs.length
    · rw [if_pos ⟨by omega, hj2⟩, List.append_assoc, List.getElem?_append_right (by omega), h1, List.getElem?_append_left (by omega)]
    · rw [if_neg (by omega), List.getElem?_append_right (by rw [List.length_append]; omega), List.length_append, h1, List.getElem?_drop]
      congr 1
      omega
theorem pgN_get (img : List Nat) (p k i : Nat) : (pgN img p k)[i]? = if i < p then img[k * p + i]? else none := by
  unfold pgN
  rw [List.getElem?_take]
  by_cases h : i < p
  · rw [if_pos h, if_pos h, List.getElem?_drop]
  · rw [if_neg h, if_neg h]
theorem pg_splice_other (img : List Nat) (p page k : Nat) (bs : List Nat) (hb : bs.length ≤ p) (hl : page * p + p ≤ img.length) (hne : k ≠ page) :
    pgN (spliceN img (page * p) bs) p k = pgN img p k := by
  apply List.ext_getElem?
  intro i
  rw [pgN_get, pgN_get]
  by_cases h : i < p
  · rw [if_pos h, if_pos h, spliceN_get _ _ _ (by omega), if_neg]
    rintro ⟨h1, h2⟩
    rcases Nat.lt_or_gt_of_ne hne with hlt | hgt
    · have : (k + 1) * p ≤ page * p := Nat.mul_le_mul_right p hlt
      rw [Nat.add_mul, Nat.one_mul] at this
      omega
    · have : (page + 1) * p ≤ k * p := Nat.mul_le_mul_right p hgt
      rw [Nat.add_mul, Nat.one_mul] at this
      omega
  · rw [if_neg h, if_neg h]
section
variable {p s r : Int} {img : List Nat}
theorem doD_same (hR : RightG p s r) (hl : (img.length : Int) = p * s * r) (page : Int) (h0 : 0 ≤ page) (h1 : page < s * r) (b : ByteArray) (hb : (b.size : Int) ≤ p) :
    pgN (doD p img page b) p.toNat page.toNat = nb b ++ (pgN img p.toNat page.toNat).drop b.size := by
  obtain ⟨b1, b2, b3, b4, b5⟩ := page_bd hR h0 h1
  have hp := hR.1
  have e1 : (page * p).toNat = page.toNat * p.toNat := by rw [Int.toNat_mul h0 (by omega)]
  unfold doD
  rw [e1, pg_splice_same _ _ _ _ (by rw [nb_len]; omega) (by rw [← e1]; omega), nb_len]
theorem doD_other (hR : RightG p s r) (hl : (img.length : Int) = p * s * r) (page : Int) (h0 : 0 ≤ page) (h1 : page < s * r) (b : ByteArray) (hb : (b.size : Int) ≤ p) (k : Nat) (hk : k ≠ page.toNat) :
    pgN (doD p img page b) p.toNat k = pgN img p.toNat k := by
  obtain ⟨b1, b2, b3, b4, b5⟩ := page_bd hR h0 h1
  have hp := hR.1
  have e1 : (page * p).toNat = page.toNat * p.toNat := by rw [Int.toNat_mul h0 (by omega)]
  unfold doD
  rw [e1, pg_splice_other _ _ _ _ _ (by rw [nb_len]; omega) (by rw [← e1]; omega) hk]
/-- How many bytes of a page a mask lets be done. -/
def kOf (p m : Int) : Nat := if m < 1 then 0 else if m = 1 then p.toNat else (tornK p m).toNat
theorem extract_all7 (b : ByteArray) (n : Nat) (h : b.size ≤ n) : b.extract 0 n = b := by
  apply nb_inj
  rw [nb_ext0, List.take_of_length_le (by rw [nb_len]; exact h)]
theorem crOne_k (hl : (img.length : Int) = p * s * r) (x : Int × ByteArray) (hx : (x.2.size : Int) = p) (m : Int) : crOne p img x m = doD p img x.1 (x.2.extract 0 (kOf p m)) := by
  unfold crOne kOf
  split
  · unfold doD spliceN
    rw [nb_ext0]
    simp
  · split
    · rw [extract_all7 _ _ (by omega)]
    · rfl
theorem kOf_le (hp : 32 ≤ p) (m : Int) : (kOf p m : Int) ≤ p := by
  unfold kOf
  split
  · omega
  · split
    · omega
    · have := tornK_bd hp (show 2 ≤ m by omega)
      omega
end
theorem new_img_page (p s r : Int) (hR : RightG p s r) (page : Int) (h0 : 0 ≤ page) (h1 : page < s * r) : pgN (newD p s r ⟨#[]⟩).img p.toNat page.toNat = List.replicate p.toNat 255 := by
  obtain ⟨b1, b2, b3, b4, b5⟩ := page_bd hR h0 h1
  have hp := hR.1
  have e1 : (page * p).toNat = page.toNat * p.toNat := by rw [Int.toNat_mul h0 (by omega)]
  unfold newD pgN
  show (((nb ⟨#[]⟩ ++ List.replicate (p * s * r - ((⟨#[]⟩ : ByteArray).size : Int)).toNat 255).drop _).take _) = _
  rw [show nb ⟨#[]⟩ = [] from rfl, List.nil_append, List.drop_replicate, List.take_replicate]
  congr 1
  have : ((⟨#[]⟩ : ByteArray).size : Int) = 0 := rfl
  omega
/-- A page that is pending nowhere, and blank: Program is done. -/
theorem program_fresh {p s r : Int} {d : Dev} (page : Int) (b : ByteArray) (hd : d.down = false) (h0 : 0 ≤ page) (h1 : page < s * r) (hb : (b.size : Int) = p) (hp : pend d.row page = none) (hbl : pgN d.img p.toNat page.toNat = List.replicate p.toNat 255) :
    programD p s r d page b = ((countD { d with row := d.row ++ [(page, b)] }).1, if (countD { d with row := d.row ++ [(page, b)] }).2 = true then 6 else 0) := by
  have hr : readD p s r d page = (blankS p, 0) := by
    unfold readD
    rw [if_neg (by rw [hd]; simp), if_neg (by omega)]
    unfold heldD
    rw [hp]
    show (strN (pgN d.img p.toNat page.toNat), _) = _
    rw [hbl, strN_rep]
    rfl
  unfold programD
  rw [hr, if_neg (by simp), if_neg (by simpa using hb), if_neg]
  unfold pendV
  rw [hp]
  simp
theorem read_img {p s r : Int} {d : Dev} (page : Int) (hd : d.down = false) (h0 : 0 ≤ page) (h1 : page < s * r) (hp : pend d.row page = none) : readD p s r d page = (strN (pgN d.img p.toNat page.toNat), 0) := by
  unfold readD heldD
  rw [if_neg (by rw [hd]; simp), if_neg (by omega), hp]
  rfl
end Go.Proofs.YtnhogmheedeeiaaGreat
