/- The contracts of package flash: do, Fuse, Rot. -/
import Derived.Test.YtbclmnlggngepaaFlash3
import Derived.Lib.SlBuf
namespace Go.Proofs.Ytbclmnlggngepaa
open Go.RowKit
set_option linter.unusedVariables false

/-- Bytes laid over others. -/
def spliceN (img : List Nat) (o : Nat) (bs : List Nat) : List Nat := img.take o ++ bs ++ img.drop (o + bs.length)
theorem spliceN_len (img : List Nat) (o : Nat) (bs : List Nat) (h : o + bs.length ≤ img.length) : (spliceN img o bs).length = img.length := by
  unfold spliceN
  simp only [List.length_append, List.length_take, List.length_drop]
  omega
theorem spliceN_mem (img : List Nat) (o : Nat) (bs : List Nat) (h1 : ∀ n ∈ img, n < 256) (h2 : ∀ n ∈ bs, n < 256) : ∀ n ∈ spliceN img o bs, n < 256 := by
  intro n hn
  unfold spliceN at hn
  simp only [List.mem_append] at hn
  rcases hn with (hn | hn) | hn
  · exact h1 n (List.mem_of_mem_take hn)
  · exact h2 n hn
  · exact h1 n (List.mem_of_mem_drop hn)
def doD (p : Int) (img : List Nat) (page : Int) (b : ByteArray) : List Nat := spliceN img (page * p).toNat (nb b)
theorem By.cells {W : World} {g : Nat} : ∀ (bs : List Nat) (xs : List Nat) (o : Nat), By W g (ints xs) → o + bs.length ≤ xs.length → By (W.setCells g o (vb (ints bs))) g (ints (spliceN xs o bs)) := by
  intro bs
  induction bs generalizing W with
  | nil =>
    intro xs o h hl
    have : spliceN xs o [] = xs := by simp [spliceN]
    rw [this]
    exact h
  | cons b bs ih =>
    intro xs o h hl
    simp only [List.length_cons] at hl
    have h1 := h.put o (by rw [List.length_map]; omega) (b : Int)
    have e1 : (ints xs).set o (b : Int) = ints (xs.set o b) := by simp [ints, List.map_set]
    rw [e1] at h1
    have h2 := ih (xs.set o b) (o + 1) h1 (by rw [List.length_set]; omega)
    have e2 : spliceN (xs.set o b) (o + 1) bs = spliceN xs o (b :: bs) := by
      unfold spliceN
      have t1 : (xs.set o b).take (o + 1) = xs.take o ++ [b] := by
        rw [List.take_succ_eq_append_getElem (by rw [List.length_set]; omega), List.take_set_of_le (Nat.le_refl o)]
        simp
      have t2 : (xs.set o b).drop (o + 1 + bs.length) = xs.drop (o + (b :: bs).length) := by
        rw [List.drop_set_of_lt (by omega)]
        congr 1
        simp only [List.length_cons]
        omega
      rw [t1, t2]
      simp
    rw [e2] at h2
    exact h2
theorem Mv.cells {S : List Nat} {w : World} (g : Nat) (hg : g ∈ S) : ∀ (vs : List Value) (o : Nat) (w' : World), Mv S w w' → Mv S w (w'.setCells g o vs)
  | [], _, _, h => h
  | v :: vs, o, w', h => Mv.cells g hg vs (o + 1) _ (h.set hg v)
theorem own_cells {e : TypeId} {size n : Nat} {v : Value} {xs : List Value} (g : Nat) (hp : ∀ k, v.ownBlock = some k → k ≠ g) : ∀ (vs : List Value) (o : Nat) (W : World), W.ownsRow 0 e size v n xs → (W.setCells g o vs).ownsRow 0 e size v n xs
  | [], _, _, h => h
  | u :: vs, o, W, h => own_cells g hp vs (o + 1) _ (own_set h (p := ⟨g, o, none⟩) hp u)
theorem Bk.cells {t : TypeId} {g' : Nat} {cs : List Value} (g : Nat) (hn : g' ≠ g) : ∀ (vs : List Value) (o : Nat) (W : World), Bk W g' t cs → Bk (W.setCells g o vs) g' t cs
  | [], _, _, h => h
  | u :: vs, o, W, h => Bk.cells g hn vs (o + 1) _ (h.far (p := ⟨g, o, none⟩) hn u)
section
variable {W : World} {g ib ic : Nat} {p s r : Int} {d : Dev} {v : Value}
theorem FlAt.setImg (h : FlAt W g ib ic p s r d v) (o : Nat) (bs : List Nat) (hl : o + bs.length ≤ d.img.length) :
    FlAt (W.setCells ib o (vb (ints bs))) g ib ic p s r { d with img := spliceN d.img o bs } v := by
  refine ⟨?_, By.cells bs d.img o h.img hl, own_cells ib (fun k hk => (h.vne k hk).2) _ _ _ h.own, h.ne, by show (spliceN d.img o bs).length ≤ ic; rw [spliceN_len _ _ _ hl]; exact h.capok, h.vne⟩
  show Bk _ _ _ [_, _, _, .slice (some ⟨ib, 0, none⟩) (spliceN d.img o bs).length ic, _, _, _, _]
  rw [spliceN_len _ _ _ hl]
  exact Bk.cells ib h.ne _ _ _ h.box
set_option maxRecDepth 20000 in
set_option maxHeartbeats 1600000 in
theorem fdo (h : FlAt W g ib ic p s r d v) (hR : RightG p s r) (hlen : (d.img.length : Int) = p * s * r) (page : Int) (h0 : 0 ≤ page) (h1 : page < s * r) (b : ByteArray) (hb : (b.size : Int) ≤ p) :
    Calls Try.prog 39 #[.pointer (some ⟨g, 0, none⟩), .int .i64 page, .string b] W fun e w' => e = .returned (.tuple #[]) ∧ FlAt w' g ib ic p s r { d with img := doD p d.img page b } v ∧ FlMv W w' g ib v v := by
  obtain ⟨b1, b2, b3, b4, b5⟩ := page_bd hR h0 h1
  obtain ⟨r1, r2, r3, r4, r5, r6⟩ := id hR
  have hcap := h.capok
  have HC := Lib.hid (fun W' (k : Kp W W') => (h.keep k).c8)
  have q1 : IntKind.i64.wrap (page * p) = page * p := IntWalk.i64_in _ (by omega)
  have q2 : IntKind.i64.wrap (page + 1) = page + 1 := IntWalk.i64_in _ (by omega)
  have q3 : IntKind.i64.wrap ((page + 1) * p) = (page + 1) * p := IntWalk.i64_in _ (by omega)
  have z1 : page * p ≤ (page + 1) * p := by omega
  have z2 : 0 ≤ (page + 1) * p := by omega
  have z4 : (page + 1) * p ≤ (ic : Int) := by omega
  have z5 : page * p ≤ (ic : Int) := by omega
  have z6 : max ((page + 1) * p) 0 = (page + 1) * p := by omega
  have z7 : ¬ (ic = (page * p).toNat) := by omega
  have hfit : (page * p).toNat + b.size ≤ d.img.length := by omega
  have hle : b.size ≤ ((page + 1) * p).toNat - (page * p).toNat := by omega
  clear b3
  go_enter Try.func39, Try.ntmps39
  go_wp2_with fail
  refine wp_region_relH (R := Kp) (C := fun W' => Kp W W') 21 (by kernel_rfl) (by kernel_rfl) (Kp.refl W).drew (fun _ _ h k => h.trans k) Kp.refl (fun _ _ _ h k => h.trans k) ?_
  simp only [List.take_succ_cons, List.take_zero, List.drop_succ_cons, List.drop_zero]
  repeat (refine wpRel_step (fun K hK => ?_); apply rel_eq; (case ob => (intro f W hW hd; (obtain ⟨c0, c1, c2, c3, c4, c5, c6, c7⟩ := HC.out _ hW); (try simp [deps, factOf, Region.binds] at hd); unfold relOp; go_simp; (first | exact ⟨Kp.refl _, rfl⟩ | exact Kp.refl _ | (refine ⟨Kp.refl _, ?_⟩; fail)))); go_simp; refine hK _ _ ?_; clear hK K)
  refine wpRel_nil ?_
  intro f W' hW hall
  have h19 : f 19 = .slice (some ⟨ib, (page * p).toNat, none⟩) (((page + 1) * p).toNat - (page * p).toNat) (ic - (page * p).toNat) := allF_get hall 19 _ rfl
  have h20 : f 20 = .string b := allF_get hall 20 _ rfl
  clear hall HC
  dsimp only
  rw [h19, h20]
  have hk := h.keep hW
  have hrun := run_copy_string (P := Try.prog) W' 53 9 3 5 ib (page * p).toNat (((page + 1) * p).toNat - (page * p).toNat) (ic - (page * p).toNat) b Try.underlying53 (fun w => by kernel_rfl) hle
    (fun j hj => by rw [hk.img.cell _ (by rw [List.length_map]; omega)]; rfl) (fun j hj => hk.img.free _ (by rw [List.length_map]; omega))
  have he : (b.data.toList.map fun x => Value.int .u8 (x.toNat : Int)) = vb (ints (nb b)) := by simp [vb, ints, nb]
  rw [he] at hrun
  have hres := hk.setImg (page * p).toNat (nb b) (by rw [nb_len]; exact hfit)
  have hmv : FlMv W (W'.setCells ib (page * p).toNat (vb (ints (nb b)))) g ib v v := ⟨Mv.cells ib (by simp [foot]) _ _ _ (Mv.of hW), fun k hk => Or.inl hk⟩
  refine Lib.wpList_copy_run _ rfl _ _ _ _ rfl _ _ rfl rfl hrun ?_
  generalize W'.setCells ib (page * p).toNat (vb (ints (nb b))) = w9 at *
  refine wpList_nil ?_
  go_wp2_with fail
  exact bodyPost_end (v := .tuple #[]) (by simp [results, Try.results39]) rfl ⟨rfl, hres, hmv⟩

/-! Fuse, Rot -/
def fuseD (d : Dev) (n : Int) : Dev := { d with set := decide (0 ≤ n), left := n }
theorem FlAt.setFuse (h : FlAt W g ib ic p s r d v) (B : Bool) (n : Int) : FlAt ((W.setCell ⟨g, 6, none⟩ (.bool B)).setCell ⟨g, 7, none⟩ (.int .i64 n)) g ib ic p s r { d with set := B, left := n } v :=
  ⟨(h.box.put 6 (.bool B)).put 7 (.int .i64 n), (h.img.far (p := ⟨g, 6, none⟩) (Ne.symm h.ne) _).far (p := ⟨g, 7, none⟩) (Ne.symm h.ne) _, own_set (own_set h.own (p := ⟨g, 6, none⟩) (fun k hk => (h.vne k hk).1) _) (p := ⟨g, 7, none⟩) (fun k hk => (h.vne k hk).1) _, h.ne, h.capok, h.vne⟩
set_option maxHeartbeats 400000 in
theorem ffuse (h : FlAt W g ib ic p s r d v) (n : Int) :
    Calls Try.prog 21 #[.pointer (some ⟨g, 0, none⟩), .int .i64 n] W fun e w' => e = .returned (.tuple #[]) ∧ FlAt w' g ib ic p s r (fuseD d n) v ∧ FlMv W w' g ib v v := by
  obtain ⟨c0, c1, c2, c3, c4, c5, c6, c7⟩ := h.c8
  have f6 := h.fr 6
  have f7 := h.fr 7
  go_enter Try.func21, Try.ntmps21
  go_wp2_with fail
  exact bodyPost_end (v := .tuple #[]) (by simp [results, Try.results21]) rfl ⟨rfl, h.setFuse _ n, ⟨((Mv.refl W).set (by simp [foot]) _).set (by simp [foot]) _, fun k hk => Or.inl hk⟩⟩
def rotD (p s r : Int) (d : Dev) (page a x : Int) : Dev × Int :=
  if page < 0 ∨ s * r ≤ page ∨ a < 0 ∨ p ≤ a then (d, 1) else ({ d with img := d.img.set (page * p + a).toNat (d.img.getD (page * p + a).toNat 0 ^^^ x.toNat) }, 0)
theorem FlAt.setByte (h : FlAt W g ib ic p s r d v) (o : Nat) (x : Nat) (ho : o < d.img.length) : FlAt (W.setCell ⟨ib, o, none⟩ (.int .u8 (x : Int))) g ib ic p s r { d with img := d.img.set o x } v := by
  refine ⟨?_, ?_, own_set h.own (p := ⟨ib, o, none⟩) (fun k hk => (h.vne k hk).2) _, h.ne, by show (d.img.set o x).length ≤ ic; rw [List.length_set]; exact h.capok, h.vne⟩
  · show Bk _ _ _ [_, _, _, .slice (some ⟨ib, 0, none⟩) (d.img.set o x).length ic, _, _, _, _]
    rw [List.length_set]
    exact h.box.far (p := ⟨ib, o, none⟩) h.ne _
  · have := h.img.put o (by rw [List.length_map]; exact ho) (x : Int)
    have e1 : (ints d.img).set o (x : Int) = ints (d.img.set o x) := by simp [ints, List.map_set]
    rw [e1] at this
    exact this
theorem FlAt.byte (h : FlAt W g ib ic p s r d v) (o : Nat) (ho : o < d.img.length) : W.cell? ⟨ib, o, none⟩ = some (.int .u8 (d.img.getD o 0 : Nat)) ∧ W.frozen? ⟨ib, o, none⟩ = false := by
  refine ⟨?_, h.img.free o (by rw [List.length_map]; exact ho)⟩
  rw [h.img.cell o (by rw [List.length_map]; exact ho), List.getElem_map, List.getD_eq_getElem?_getD, List.getElem?_eq_getElem ho]
  rfl
def RotPost (W : World) (g ib ic : Nat) (p s r : Int) (v : Value) (dc : Dev × Int) (e : Ending) (w' : World) : Prop := e = .returned (.int .i64 dc.2) ∧ FlAt w' g ib ic p s r dc.1 v ∧ FlMv W w' g ib v v
set_option maxRecDepth 20000 in
set_option maxHeartbeats 1600000 in
theorem frot (h : FlAt W g ib ic p s r d v) (ok : DevOk p s r d) (page a x : Int) (hx : 0 ≤ x ∧ x ≤ 255) (ha9 : a ≤ 9223372036854775807) :
    Calls Try.prog 29 #[.pointer (some ⟨g, 0, none⟩), .int .i64 page, .int .i64 a, .int .u8 x] W (RotPost W g ib ic p s r v (rotD p s r d page a x)) := by
  have HPP := Lib.hid (fpages h ok.right)
  have HC := Lib.hid (fun W' (k : Kp W W') => (h.keep k).c8)
  obtain ⟨r1, r2, r3, r4, r5, r6⟩ := id ok.right
  have hcases : page < 0 ∨ (0 ≤ page ∧ s * r ≤ page) ∨ (0 ≤ page ∧ page < s * r ∧ a < 0) ∨ (0 ≤ page ∧ page < s * r ∧ 0 ≤ a ∧ p ≤ a) ∨ (0 ≤ page ∧ page < s * r ∧ 0 ≤ a ∧ a < p) := by omega
  rcases hcases with hc | ⟨hc1, hc⟩ | ⟨hc1, hc2, hc⟩ | ⟨hc1, hc2, hc3, hc⟩ | ⟨hc1, hc2, hc3, hc⟩
  · have e1 : rotD p s r d page a x = (d, 1) := if_pos (Or.inl hc)
    rw [e1]
    clear e1
    go_enter Try.func29, Try.ntmps29
    go_wp2_with fail
    go_ret
    exact ⟨rfl, h, FlMv.refl _ _ _ _⟩
  · have e1 : rotD p s r d page a x = (d, 1) := if_pos (Or.inr (Or.inl hc))
    have hd : decide (s * r ≤ page) = true := by simpa using hc
    rw [e1]
    clear e1
    go_enter Try.func29, Try.ntmps29
    go_wp2_with fail
    refine (HPP.out).mono ?_
    rintro e w1 ⟨rfl, hk1⟩
    go_wp2_with fail
    go_ret
    exact ⟨rfl, h.keep hk1, FlMv.of hk1⟩
  · have e1 : rotD p s r d page a x = (d, 1) := if_pos (Or.inr (Or.inr (Or.inl hc)))
    have hd : decide (s * r ≤ page) = false := by simp; omega
    rw [e1]
    clear e1
    go_enter Try.func29, Try.ntmps29
    go_wp2_with fail
    refine (HPP.out).mono ?_
    rintro e w1 ⟨rfl, hk1⟩
    go_wp2_with fail
    go_ret
    exact ⟨rfl, h.keep hk1, FlMv.of hk1⟩
  · have e1 : rotD p s r d page a x = (d, 1) := if_pos (Or.inr (Or.inr (Or.inr hc)))
    have hd : decide (s * r ≤ page) = false := by simp; omega
    have hd2 : decide (p ≤ a) = true := by simpa using hc
    rw [e1]
    clear e1
    go_enter Try.func29, Try.ntmps29
    go_wp2_with fail
    refine (HPP.out).mono ?_
    rintro e w1 ⟨rfl, hk1⟩
    obtain ⟨c0, c1, c2, c3, c4, c5, c6, c7⟩ := HC.out _ hk1
    go_wp2_with fail
    go_ret
    exact ⟨rfl, h.keep hk1, FlMv.of hk1⟩
  · obtain ⟨X, rfl⟩ : ∃ X : Nat, x = X := ⟨x.toNat, by omega⟩
    obtain ⟨b1, b2, b3, b4, b5⟩ := page_bd ok.right hc1 hc2
    have hlen := ok.len
    have ho : (page * p + a).toNat < d.img.length := by omega
    have e1 : rotD p s r d page a (X : Int) = ({ d with img := d.img.set (page * p + a).toNat (d.img.getD (page * p + a).toNat 0 ^^^ X) }, 0) := by unfold rotD; rw [if_neg (by omega), Int.toNat_natCast]
    have hd : decide (s * r ≤ page) = false := by simp; omega
    have hd2 : decide (p ≤ a) = false := by simp; omega
    have q1 : IntKind.i64.wrap (page * p) = page * p := IntWalk.i64_in _ (by omega)
    have q2 : IntKind.i64.wrap (page * p + a) = page * p + a := IntWalk.i64_in _ (by omega)
    have z1 : 0 ≤ page * p + a := by omega
    have z2 : page * p + a < (d.img.length : Int) := by omega
    have hby : d.img.getD (page * p + a).toNat 0 < 256 := by
      rw [List.getD_eq_getElem?_getD, List.getElem?_eq_getElem ho]
      exact ok.byt _ (List.getElem_mem ho)
    have HX := Lib.hid (u8_xor_nat _ _ hby (show X < 256 by omega))
    have HB := Lib.hid (fun W' (k : Kp W W') => (h.keep k).byte _ ho)
    rw [e1]
    clear e1 b3 hlen
    go_enter Try.func29, Try.ntmps29
    go_wp2_with fail
    refine (HPP.out).mono ?_
    rintro e w1 ⟨rfl, hk1⟩
    obtain ⟨c0, c1, c2, c3, c4, c5, c6, c7⟩ := HC.out _ hk1
    have HC1 := Lib.hid (fun W' (k : Kp w1 W') => HC.out _ (hk1.trans k))
    have HB1 := Lib.hid (fun W' (k : Kp w1 W') => HB.out _ (hk1.trans k))
    generalize hyy : d.img.getD (page * p + a).toNat 0 = y at *
    have HY := Lib.hid hyy
    clear hyy
    go_wp2_with fail
    refine wp_region_relH (R := Kp) (C := fun W' => Kp w1 W') 18 (by kernel_rfl) (by kernel_rfl) (Kp.refl w1).drew (fun _ _ h k => h.trans k) Kp.refl (fun _ _ _ h k => h.trans k) ?_
    simp only [List.take_succ_cons, List.take_zero, List.drop_succ_cons, List.drop_zero]
    clear c0 c1 c2 c3 c4 c5 c6 c7
    repeat (refine wpRel_step (fun K hK => ?_); apply rel_eq; (case ob => (intro f W hW hd; (obtain ⟨c0, c1, c2, c3, c4, c5, c6, c7⟩ := HC1.out _ hW; obtain ⟨y1, y2⟩ := HB1.out _ hW); (try simp [deps, factOf, Region.binds] at hd); unfold relOp; go_simp; (first | exact ⟨Kp.refl _, rfl⟩ | exact Kp.refl _ | (refine ⟨Kp.refl _, ?_⟩; fail)))); go_simp; refine hK _ _ ?_; clear hK K)
    refine wpRel_nil ?_
    intro f W' hW hall
    have h16 : f 16 = .int .u8 ((y ^^^ X : Nat) : Int) := (allF_get hall 16 _ rfl).trans (by rw [HX.out])
    have h17 : f 17 = .pointer (some ⟨ib, (page * p + a).toNat, none⟩) := allF_get hall 17 _ rfl
    clear hall HC HC1
    dsimp only
    rw [h16, h17]
    obtain ⟨y1, y2⟩ := HB1.out _ hW
    have hres := (h.keep (hk1.trans hW)).setByte (page * p + a).toNat (y ^^^ X) ho
    go_wp2_with fail
    go_ret
    exact ⟨rfl, hres, ⟨(Mv.of (hk1.trans hW)).set (by simp [foot]) _, fun k hk => Or.inl hk⟩⟩
end
end Go.Proofs.Ytbclmnlggngepaa
