/- Merged texts: Tape, Tape2, Tape3, Tape4, Tape5, Tape7. -/
import Derived.Test.YtnhogmheedeeiaaGreatGC
import Derived.Test.YtnhogmheedeeiaaGreatGE
import Derived.Test.YtnhogmheedeeiaaGreatGG
import Derived.Test.YtnhogmheedeeiaaGreatGF
import Derived.Test.YtnhogmheedeeiaaGreatGD
import Derived.Test.YtnhogmheedeeiaaGreatGA
set_option linter.unusedSimpArgs false
set_option linter.unusedVariables false
/- Tapes in memory; the contracts of package tape: ready, next, New, Flush. -/
namespace Go.Proofs.YtnhogmheedeeiaaGreat
open Go.RowKit
set_option linter.unusedVariables false
set_option maxRecDepth 20000

/-- A tape that a law has made, with its device and its account: all of it is new; some other blocks (X) are as they were. -/
structure TpS (X : List (Nat × Obj)) (w0 W : World) (tb g ib ic h q : Nat) (p s : Int) (d : Dev) (v : Value) (l : List (Int × Int)) (o : Int) : Prop where
  box : Bk W tb 71 [.pointer (some ⟨g, 0, none⟩), .pointer (some ⟨h, 0, none⟩)]
  fl : FlS w0 W g ib ic p s (l.length : Nat) d v
  ch : ChAt W h q p s l o
  cok : ChOk p s l o
  new : w0.heap.size ≤ tb ∧ w0.heap.size ≤ h ∧ w0.heap.size ≤ q
  dj : tb ∉ foot g ib v ∧ h ∉ foot g ib v ∧ q ∉ foot g ib v ∧ tb ≠ h ∧ tb ≠ q
  watch : ∀ y ∈ X, W.heap[y.1]? = some y.2 ∧ y.1 ∉ foot g ib v ∧ y.1 ≠ h ∧ y.1 ≠ q
section
variable {X : List (Nat × Obj)} {w0 W W' : World} {tb g ib ic h q : Nat} {p s : Int} {d d2 : Dev} {v v2 : Value} {l l2 : List (Int × Int)} {o o2 : Int}
theorem TpS.keep (t : TpS X w0 W tb g ib ic h q p s d v l o) (k : Kp W W') : TpS X w0 W' tb g ib ic h q p s d v l o :=
  ⟨t.box.keep k, t.fl.keep k, t.ch.keep k, t.cok, t.new, t.dj, fun y hy => by
    obtain ⟨w1, w2⟩ := t.watch y hy
    exact ⟨(Below.block k y.1 (Array.getElem?_eq_some_iff.1 w1).1).trans w1, w2⟩⟩
theorem foot_new2 {W W' : World} {g ib : Nat} {v v1 : Value} (m : FlMv W W' g ib v v1) (x : Nat) (hx : x ∈ foot g ib v1) : x ∈ foot g ib v ∨ W.heap.size ≤ x := by
  simp only [foot, List.mem_cons, Option.mem_toList] at hx ⊢
  rcases hx with rfl | rfl | hx
  · exact Or.inl (Or.inl rfl)
  · exact Or.inl (Or.inr (Or.inl rfl))
  · rcases m.2 x (by simpa using hx) with h1 | h1
    · exact Or.inl (Or.inr (Or.inr (by simpa using h1)))
    · exact Or.inr h1
/-- The device has moved. -/
theorem TpS.stepF (t : TpS X w0 W tb g ib ic h q p s d v l o) (h' : FlAt W' g ib ic p s (l.length : Nat) d2 v2) (m : FlMv W W' g ib v v2) (ok : DevOk p s (l.length : Nat) d2) : TpS X w0 W' tb g ib ic h q p s d2 v2 l o := by
  obtain ⟨n1, n2, n3, n4, n5⟩ := t.dj
  have no : ∀ x, x ∉ foot g ib v → x < W.heap.size → x ∉ foot g ib v2 := fun x hx hl hy => by
    rcases foot_new2 m x hy with h1 | h1
    · exact hx h1
    · omega
  have hb := t.box
  have hc := t.ch
  refine ⟨hb.mv m.1 n1, t.fl.step h' m ok, hc.mv m.1 n2 n3, t.cok, t.new, ⟨no tb n1 hb.lt, no h n2 hc.box.lt, no q n3 hc.row.lt, n4, n5⟩, fun y hy => ?_⟩
  obtain ⟨w1, w2, w3, w4⟩ := t.watch y hy
  have hlt := (Array.getElem?_eq_some_iff.1 w1).1
  exact ⟨(m.1.block y.1 hlt w2).trans w1, no y.1 w2 hlt, w3, w4⟩
/-- The account has moved. -/
theorem TpS.stepC (t : TpS X w0 W tb g ib ic h q p s d v l o) (h' : ChAt W' h q p s l2 o2) (m : Mv [h, q] W W') (hl : l2.length = l.length) (ok : ChOk p s l2 o2) : TpS X w0 W' tb g ib ic h q p s d v l2 o2 := by
  obtain ⟨n1, n2, n3, n4, n5⟩ := t.dj
  have hf : ∀ x ∈ foot g ib v, x ∉ [h, q] := fun x hx hy => by
    simp at hy
    rcases hy with rfl | rfl
    · exact n2 hx
    · exact n3 hx
  have hkp := Mv.kp t.fl.kp (fun b hb => by simp at hb; have := t.new; rcases hb with rfl | rfl <;> omega) m
  refine ⟨t.box.mv m (by simp; exact ⟨n4, n5⟩), ?_, h', ok, t.new, t.dj, fun y hy => ?_⟩
  · rw [hl]
    exact ⟨t.fl.at_.mv m hf, t.fl.ok, hkp, t.fl.new⟩
  · obtain ⟨w1, w2, w3, w4⟩ := t.watch y hy
    exact ⟨(m.block y.1 (Array.getElem?_eq_some_iff.1 w1).1 (by simp; exact ⟨w3, w4⟩)).trans w1, w2, w3, w4⟩
theorem TpS.c2 (t : TpS X w0 W tb g ib ic h q p s d v l o) : W.cell? ⟨tb, 0, none⟩ = some (.pointer (some ⟨g, 0, none⟩)) ∧ W.cell? ⟨tb, 1, none⟩ = some (.pointer (some ⟨h, 0, none⟩)) := by
  have hb := t.box
  exact ⟨hb.cell 0, hb.cell 1⟩
set_option maxHeartbeats 400000 in
theorem tready (t : TpS X w0 W tb g ib ic h q p s d v l o) : Calls Tryz.prog 33 #[.pointer (some ⟨tb, 0, none⟩)] W fun e w' => e = .returned (.bool true) ∧ Kp W w' := by
  obtain ⟨c0, c1⟩ := t.c2
  go_enter Tryz.func33, Tryz.ntmps33
  go_wp2_with fail
  go_ret
  exact ⟨rfl, Kp.refl _⟩
set_option maxHeartbeats 400000 in
theorem tready_nil (W : World) : Calls Tryz.prog 33 #[.pointer none] W fun e w' => e = .returned (.bool false) ∧ Kp W w' := by
  go_enter Tryz.func33, Tryz.ntmps33
  go_wp2_with fail
  go_ret
  exact ⟨rfl, Kp.refl _⟩
theorem flush_ok (t : TpS X w0 W tb g ib ic h q p s d v l o) : DevOk p s (l.length : Nat) (flushD p d).1 := flushD_ok t.fl.ok
set_option maxHeartbeats 800000 in
theorem tflush (t : TpS X w0 W tb g ib ic h q p s d v l o) : Calls Tryz.prog 10 #[.pointer (some ⟨tb, 0, none⟩)] W fun e w' => e = .returned (.int .i64 (flushD p d).2) ∧ ∃ v2, TpS X w0 w' tb g ib ic h q p s (flushD p d).1 v2 l o := by
  have HC := Lib.hid (fun W' (k : Kp W W') => (t.keep k).c2)
  have HF := Lib.hid (fun W' (k : Kp W W') => fflush (t.keep k).fl.at_ t.fl.ok)
  have HS := Lib.hid (fun W' (k : Kp W W') W'' v2 a b => (t.keep k).stepF (W' := W'') (v2 := v2) (d2 := (flushD p d).1) a b (flush_ok t))
  generalize flushD p d = fd at *
  obtain ⟨fd, fc⟩ := fd
  go_enter Tryz.func10, Tryz.ntmps10
  go_wp2_with fail
  refine (tready t).mono ?_
  rintro e w1 ⟨rfl, hk1⟩
  obtain ⟨c0, c1⟩ := HC.out _ hk1
  go_wp2_with fail
  refine (HF.out _ hk1).mono ?_
  rintro e w2 ⟨rfl, v2, hf2, hm2⟩
  have hres := HS.out _ hk1 _ _ hf2 hm2
  go_wp2_with fail
  go_ret
  exact ⟨rfl, v2, hres⟩
end
theorem head_bytes {p s r : Int} (hR : RightG p s r) (e k : Int) : fbS p s r 1 e k ⟨#[]⟩ = (pageS p 1 e k ⟨#[]⟩, 0) := by
  unfold RightG at hR
  unfold fbS
  rw [if_neg (by omega), if_neg (by omega), if_neg (by show ¬ (p - 15 < ((0 : Nat) : Int)); omega)]
section
variable {X : List (Nat × Obj)} {w0 W : World} {tb g ib ic h q : Nat} {p s : Int} {d : Dev} {v : Value} {l : List (Int × Int)} {o : Int}
set_option maxHeartbeats 3200000 in
theorem tnext_no (t : TpS X w0 W tb g ib ic h q p s d v l o) (hz : frees l l.length = 0 ∨ (0 < frees l l.length ∧ 2147483647 ≤ (nwst l l.length).2)) :
    Calls Tryz.prog 47 #[.pointer (some ⟨tb, 0, none⟩)] W fun e w' => e = .returned (.int .i64 8) ∧ Kp W w' := by
  obtain ⟨c0, c1⟩ := t.c2
  have hlen := t.cok.len
  have HO := Lib.hid (copen_no W h q p s l o t.ch (by omega) t.cok.ep0 hz)
  clear hz
  go_enter Tryz.func47, Tryz.ntmps47
  go_wp2_with fail
  refine (HO.out).mono ?_
  rintro e w1 ⟨rfl, hk1⟩
  go_wp2_with fail
  go_ret
  exact ⟨rfl, hk1⟩
theorem frameH (e k : Int) (h1 : 1 ≤ e) (h2 : e ≤ 2147483647) (w : World) :
    Calls Tryz.prog 76 #[.iface 114 (.agg #[.int .u32 e, .int .u32 k])] w fun x w' => x = .returned (.tuple #[frv 1 e k ⟨#[]⟩, .int .i64 0]) ∧ Kp w w' := by
  have H := frame_easy (some (.head e k)) trivial (by show (1 : Int) ≤ 2; omega) w
  have he : ofP 1 e k ⟨#[]⟩ = some (.head e k) := by
    unfold ofP
    rw [if_pos ⟨h1, h2⟩, if_pos ⟨rfl, by decide +kernel⟩]
  have hv : frameV (fkOf (some (.head e k))) (faOf (some (.head e k))) (fbOf (some (.head e k))) (fsOf (some (.head e k))) = .tuple #[frv 1 e k ⟨#[]⟩, .int .i64 0] := by
    show frameV 1 e k ⟨#[]⟩ = _
    unfold frameV
    rw [he]
  rw [hv] at H
  exact H
/-- The page of a head. -/
def headP (p e k : Int) : ByteArray := pageS p 1 e k ⟨#[]⟩
theorem headBy {p s r : Int} (hR : RightG p s r) (e k : Int) (he : 0 ≤ e ∧ e ≤ 4294967295) (hk : 0 ≤ k ∧ k ≤ 4294967295) (w : World) :
    Calls Tryz.prog 45 #[geo p s r, frv 1 e k ⟨#[]⟩] w fun x w' => x = .returned (.tuple #[.string (headP p e k), .int .i64 0]) ∧ Kp w w' := by
  have := fbytes_any p s r 1 e k ⟨#[]⟩ (by decide) he hk w
  rw [head_bytes hR] at this
  exact this
theorem headOk {p s r : Int} (hR : RightG p s r) (e k : Int) (he : 0 ≤ e ∧ e ≤ 4294967295) (hk : 0 ≤ k ∧ k ≤ 4294967295) : PgOk p 1 e k ⟨#[]⟩ := by
  unfold RightG at hR
  exact ⟨by omega, by omega, by omega, by omega, he.1, he.2, hk.1, hk.2, by show ((0 : Nat) : Int) + 15 ≤ p; omega⟩
theorem headP_size {p s r : Int} (hR : RightG p s r) (e k : Int) (he : 0 ≤ e ∧ e ≤ 4294967295) (hk : 0 ≤ k ∧ k ≤ 4294967295) : ((headP p e k).size : Int) = p := pageS_size (headOk hR e k he hk)
/-- What 'next' leaves. -/
def NextPost (X : List (Nat × Obj)) (w0 : World) (tb g ib ic h q : Nat) (p s : Int) (r : Dev × Int) (l2 : List (Int × Int)) (k : Nat) (e : Ending) (w' : World) : Prop :=
  e = .returned (.int .i64 r.2) ∧ ∃ v2, TpS X w0 w' tb g ib ic h q p s r.1 v2 l2 k
set_option maxHeartbeats 6400000 in
theorem tnext_yes (t : TpS X w0 W tb g ib ic h q p s d v l o) (hrl : d.row.length < 100000) (hf : 0 < frees l l.length) (ht : (nwst l l.length).2 < 2147483647) (j : Nat) (hj : 1 ≤ j) (hj2 : j ≤ l.length) (hn : ∀ i, 1 ≤ i → i < j → epo l (nth l i) ≠ 0) (hz : epo l (nth l j) = 0) (k : Nat) (hk : nth l j = k) (hkl : k < l.length) (e : Int) (he : (nwst l l.length).2 + 1 = e) :
    Calls Tryz.prog 47 #[.pointer (some ⟨tb, 0, none⟩)] W (NextPost X w0 tb g ib ic h q p s (programD p s (l.length : Nat) d ((k : Int) * s) (headP p e k)) (l.set k (e, 0)) k) := by
  obtain ⟨c0, c1⟩ := t.c2
  have hlen := t.cok.len
  have HO := Lib.hid (copen_yes W h q p s l o t.ch (by omega) (by omega) t.cok.ep0 hf ht j hj hj2 hn hz)
  rw [hk, he] at HO
  have htop := nwst_top l l.length
  have he1 : 1 ≤ e := by omega
  have he2 : e ≤ 2147483647 := by omega
  have hR := t.cok.right
  have hcok : ChOk p s (l.set k (e, 0)) (k : Int) := ok_put t.cok k hkl e 0 (by omega) (by omega) (by omega) (by obtain ⟨r1, r2, r3, r4, r5, r6⟩ := id hR; omega) (k : Int) (Or.inr ⟨rfl, by omega⟩)
  have hl2 : (l.set k (e, 0)).length = l.length := List.length_set
  have HFR := Lib.hid (fun w => frameH e (k : Int) he1 he2 w)
  have HBY := Lib.hid (fun w => headBy hR e (k : Int) (by omega) (by omega) w)
  have hsz : (headP p e (k : Int)).size ≤ 9223372036854775807 := by have := headP_size hR e (k : Int) (by omega) (by omega); unfold RightG at hR; omega
  generalize headP p e (k : Int) = hp at *
  have HPG := Lib.hid (fun w => pageK p s (l.length : Nat) (k : Int) 0 hR (by omega) (by omega) (by omega) (by obtain ⟨r1, r2, r3, r4, r5, r6⟩ := id hR; omega) w)
  have q1 : IntKind.u32.wrap (k : Int) = (k : Int) := IntWalk.u32_in _ (by omega)
  have HT := Lib.hid t
  have HT0 := Lib.hid t
  clear hn hz hf ht hk he htop hj hj2
  generalize l.set k (e, 0) = l2 at *
  go_enter Tryz.func47, Tryz.ntmps47
  go_wp2_with fail
  refine (HO.out).mono ?_
  rintro e1 w1 ⟨rfl, hc1, hm1⟩
  have t1 := HT.out.stepC hc1 hm1 hl2 hcok
  have HC := Lib.hid (fun W' (kk : Kp w1 W') => (t1.keep kk).c2)
  have HG := Lib.hid (fun W' (kk : Kp w1 W') => cgeom_any W' h q p s l2 k (t1.keep kk).ch)
  rw [hl2] at HG
  have HPR := Lib.hid (fun W' (kk : Kp w1 W') pg => fprogram (t1.keep kk).fl.at_ t1.fl.ok pg hp hsz)
  rw [hl2] at HPR
  have hpg0 : (k : Int) * s + 0 = (k : Int) * s := Int.add_zero _
  rw [hpg0] at HPG
  have T1 := Lib.hid t1
  clear hpg0 c0 c1 hc1 hm1 t1 HT HO
  go_wp2_with fail
  refine (HFR.out _).mono ?_
  rintro e2 w2 ⟨rfl, hk2⟩
  have hkA : Kp w1 (w2.alloc (fob 1 e (k : Int) ⟨#[]⟩)) := hk2.alloc _
  have HFB := Lib.hid (Frk w2 1 e (k : Int) ⟨#[]⟩)
  go_wp2_with fail
  have hInh := fun (x v : Value) => (⟨fun h => h _ ((Kp.refl _).drew), fun h _ _ => h⟩ : (∀ Wz9, (fun W' => Kp (w2.alloc (fob 1 e (k : Int) ⟨#[]⟩)) W') Wz9 → x = v) ↔ x = v)
  dsimp only at hInh
  refine wp_region_quietC (C := fun W' => Kp (w2.alloc (fob 1 e (k : Int) ⟨#[]⟩)) W') (by kernel_rfl) (by kernel_rfl) ((Kp.refl _).drew) ?_
  repeat (first | go_big_quiet_step ((intro hW; first | (first | (go_at_call 46; refine (HG.out _ (hkA.trans hW)).mono ?_; rintro e w' ⟨rfl, hk9⟩; exact ⟨rfl, hW.trans hk9⟩) | (go_at_call 45; refine (HBY.out _).mono ?_; rintro e w' ⟨rfl, hk9⟩; exact ⟨rfl, hW.trans hk9⟩)) | (with_reducible rfl) | (obtain ⟨c0, c1⟩ := HC.out _ (hkA.trans hW); obtain ⟨b0, b1, b2, b3⟩ := HFB.out _ hW; (try go_simp); first | done | with_reducible rfl | exact ⟨rfl, rfl⟩))) | quiet_step ((intro hW; first | (first | (go_at_call 46; refine (HG.out _ (hkA.trans hW)).mono ?_; rintro e w' ⟨rfl, hk9⟩; exact ⟨rfl, hW.trans hk9⟩) | (go_at_call 45; refine (HBY.out _).mono ?_; rintro e w' ⟨rfl, hk9⟩; exact ⟨rfl, hW.trans hk9⟩)) | (with_reducible rfl) | (obtain ⟨c0, c1⟩ := HC.out _ (hkA.trans hW); obtain ⟨b0, b1, b2, b3⟩ := HFB.out _ hW; (try go_simp); first | done | with_reducible rfl | exact ⟨rfl, rfl⟩))))
  refine wpQuiet_nil ?_
  intro wq hwq
  clear hInh
  have hkB := hkA.trans hwq
  obtain ⟨c0, c1⟩ := HC.out _ hkB
  clear hkA hwq hk2 HFB HFR HBY
  go_wp2_with fail
  refine (HG.out _ hkB).mono ?_
  rintro e3 w3 ⟨rfl, hk3⟩
  go_wp2_with fail
  refine (HPG.out _).mono ?_
  rintro e4 w4 ⟨rfl, hk4⟩
  have hkC := (hkB.trans hk3).trans hk4
  clear c0 c1
  obtain ⟨c0, c1⟩ := HC.out _ hkC
  go_wp2_with fail
  refine (HPR.out _ hkC ((k : Int) * s)).mono ?_
  rintro e5 w5 ⟨rfl, v2, hf5, hm5⟩
  have hres := (T1.out.keep hkC).stepF (by rw [hl2]; exact hf5) hm5 (by rw [hl2]; exact programD_ok HT0.out.fl.ok _ _ hrl)
  have HRES := Lib.hid hres
  clear hres hf5 hm5
  go_wp2_with fail
  go_ret
  exact ⟨rfl, v2, HRES.out⟩
/-- What 'Append' leaves. -/
def AppPost (X : List (Nat × Obj)) (w0 : World) (tb g ib ic h q : Nat) (p s : Int) (page c : Int) (d2 : Dev) (l2 : List (Int × Int)) (o2 : Int) (e : Ending) (w' : World) : Prop :=
  e = .returned (.tuple #[.int .i64 page, .int .i64 c]) ∧ ∃ v2, TpS X w0 w' tb g ib ic h q p s d2 v2 l2 o2
section
variable {kd a b : Int} {body : ByteArray}
theorem bytes2 {p s r : Int} (hb : body.size ≤ 9223372036854775807) (ha : 0 ≤ a ∧ a ≤ 4294967295) (hb2 : 0 ≤ b ∧ b ≤ 4294967295) (x : ByteArray) (c : Int) (hf : fbS p s r kd a b body = (x, c)) (w : World) :
    Calls Tryz.prog 45 #[geo p s r, frv kd a b body] w fun e w' => e = .returned (.tuple #[.string x, .int .i64 c]) ∧ Kp w w' := by
  have := fbytes_any p s r kd a b body hb ha hb2 w
  rw [hf] at this
  exact this
set_option maxHeartbeats 6400000 in
theorem tapp_bad (t : TpS X w0 W tb g ib ic h q p s d v l o) (hb : body.size ≤ 9223372036854775807) (ha : 0 ≤ a ∧ a ≤ 4294967295) (hb2 : 0 ≤ b ∧ b ≤ 4294967295) (x : ByteArray) (c : Int) (hf : fbS p s (l.length : Nat) kd a b body = (x, c)) (hc : c ≠ 0) :
    Calls Tryz.prog 16 #[.pointer (some ⟨tb, 0, none⟩), frv kd a b body] W (AppPost X w0 tb g ib ic h q p s 0 c d l o) := by
  have HBY := Lib.hid (fun w => bytes2 hb ha hb2 x c hf w)
  have HC := Lib.hid (fun W' (k : Kp W W') => (t.keep k).c2)
  have HRD := Lib.hid (fun W' (k : Kp W W') => tready (t.keep k))
  have HG := Lib.hid (fun W' (kk : Kp W W') => cgeom_any W' h q p s l o (t.keep kk).ch)
  have HFB := Lib.hid (Frk W kd a b body)
  have hcb : (c != 0) = true := by simp [hc]
  clear hf hc
  go_enter Tryz.func16, Tryz.ntmps16
  go_wp2_with fail
  have hk0 := Kp.one W (fob kd a b body)
  refine (HRD.out _ hk0).mono ?_
  rintro e1 w1 ⟨rfl, hk1⟩
  have hkA := hk0.trans hk1
  go_wp2_with fail
  have hInh := fun (x v : Value) => (⟨fun h => h _ ((Kp.refl _).drew), fun h _ _ => h⟩ : (∀ Wz9, (fun W' => Kp w1 W') Wz9 → x = v) ↔ x = v)
  dsimp only at hInh
  refine wp_region_quietC (C := fun W' => Kp w1 W') (by kernel_rfl) (by kernel_rfl) ((Kp.refl _).drew) ?_
  repeat (first | go_big_quiet_step ((intro hW; first | (first | (go_at_call 46; refine (HG.out _ (hkA.trans hW)).mono ?_; rintro e w' ⟨rfl, hk9⟩; exact ⟨rfl, hW.trans hk9⟩) | (go_at_call 45; refine (HBY.out _).mono ?_; rintro e w' ⟨rfl, hk9⟩; exact ⟨rfl, hW.trans hk9⟩)) | (with_reducible rfl) | (obtain ⟨c0, c1⟩ := HC.out _ (hkA.trans hW); obtain ⟨b0, b1, b2, b3⟩ := HFB.out _ (hk1.trans hW); (try go_simp); first | done | with_reducible rfl | exact ⟨rfl, rfl⟩))) | quiet_step ((intro hW; first | (first | (go_at_call 46; refine (HG.out _ (hkA.trans hW)).mono ?_; rintro e w' ⟨rfl, hk9⟩; exact ⟨rfl, hW.trans hk9⟩) | (go_at_call 45; refine (HBY.out _).mono ?_; rintro e w' ⟨rfl, hk9⟩; exact ⟨rfl, hW.trans hk9⟩)) | (with_reducible rfl) | (obtain ⟨c0, c1⟩ := HC.out _ (hkA.trans hW); obtain ⟨b0, b1, b2, b3⟩ := HFB.out _ (hk1.trans hW); (try go_simp); first | done | with_reducible rfl | exact ⟨rfl, rfl⟩))))
  refine wpQuiet_nil ?_
  intro wq hwq
  clear hInh
  have hkB := hkA.trans hwq
  go_wp2_with fail
  go_ret2
  exact ⟨rfl, v, t.keep hkB⟩
set_option maxHeartbeats 6400000 in
theorem tapp_full (t : TpS X w0 W tb g ib ic h q p s d v l o) (hb : body.size ≤ 9223372036854775807) (ha : 0 ≤ a ∧ a ≤ 4294967295) (hb2 : 0 ≤ b ∧ b ≤ 4294967295) (x : ByteArray) (hf : fbS p s (l.length : Nat) kd a b body = (x, 0)) (hl0 : leftF s l o = 0) (hz : frees l l.length = 0 ∨ (0 < frees l l.length ∧ 2147483647 ≤ (nwst l l.length).2)) :
    Calls Tryz.prog 16 #[.pointer (some ⟨tb, 0, none⟩), frv kd a b body] W (AppPost X w0 tb g ib ic h q p s 0 8 d l o) := by
  have HBY := Lib.hid (fun w => bytes2 hb ha hb2 x 0 hf w)
  have HC := Lib.hid (fun W' (k : Kp W W') => (t.keep k).c2)
  have HRD := Lib.hid (fun W' (k : Kp W W') => tready (t.keep k))
  have HG := Lib.hid (fun W' (kk : Kp W W') => cgeom_any W' h q p s l o (t.keep kk).ch)
  have HL := Lib.hid (fun W' (kk : Kp W W') => cleft_any W' h q p s l o (t.keep kk).ch t.cok)
  rw [hl0] at HL
  have HNX := Lib.hid (fun W' (kk : Kp W W') => tnext_no (t.keep kk) hz)
  have HFB := Lib.hid (Frk W kd a b body)
  clear hf hz hl0
  go_enter Tryz.func16, Tryz.ntmps16
  go_wp2_with fail
  have hk0 := Kp.one W (fob kd a b body)
  refine (HRD.out _ hk0).mono ?_
  rintro e1 w1 ⟨rfl, hk1⟩
  have hkA := hk0.trans hk1
  go_wp2_with fail
  have hInh := fun (x v : Value) => (⟨fun h => h _ ((Kp.refl _).drew), fun h _ _ => h⟩ : (∀ Wz9, (fun W' => Kp w1 W') Wz9 → x = v) ↔ x = v)
  dsimp only at hInh
  refine wp_region_quietC (C := fun W' => Kp w1 W') (by kernel_rfl) (by kernel_rfl) ((Kp.refl _).drew) ?_
  repeat (first | go_big_quiet_step ((intro hW; first | (first | (go_at_call 46; refine (HG.out _ (hkA.trans hW)).mono ?_; rintro e w' ⟨rfl, hk9⟩; exact ⟨rfl, hW.trans hk9⟩) | (go_at_call 45; refine (HBY.out _).mono ?_; rintro e w' ⟨rfl, hk9⟩; exact ⟨rfl, hW.trans hk9⟩)) | (with_reducible rfl) | (obtain ⟨c0, c1⟩ := HC.out _ (hkA.trans hW); obtain ⟨b0, b1, b2, b3⟩ := HFB.out _ (hk1.trans hW); (try go_simp); first | done | with_reducible rfl | exact ⟨rfl, rfl⟩))) | quiet_step ((intro hW; first | (first | (go_at_call 46; refine (HG.out _ (hkA.trans hW)).mono ?_; rintro e w' ⟨rfl, hk9⟩; exact ⟨rfl, hW.trans hk9⟩) | (go_at_call 45; refine (HBY.out _).mono ?_; rintro e w' ⟨rfl, hk9⟩; exact ⟨rfl, hW.trans hk9⟩)) | (with_reducible rfl) | (obtain ⟨c0, c1⟩ := HC.out _ (hkA.trans hW); obtain ⟨b0, b1, b2, b3⟩ := HFB.out _ (hk1.trans hW); (try go_simp); first | done | with_reducible rfl | exact ⟨rfl, rfl⟩))))
  refine wpQuiet_nil ?_
  intro wq hwq
  clear hInh
  have hkB := hkA.trans hwq
  obtain ⟨c0, c1⟩ := HC.out _ hkB
  go_wp2_with fail
  refine (HL.out _ hkB).mono ?_
  rintro e2 w2 ⟨rfl, hk2⟩
  have hkC := hkB.trans hk2
  go_wp2_with fail
  refine (HNX.out _ hkC).mono ?_
  rintro e3 w3 ⟨rfl, hk3⟩
  go_wp2_with fail
  go_ret2
  exact ⟨rfl, v, t.keep (hkC.trans hk3)⟩
/-- Where the open region has room. -/
def goD (p s : Int) (n : Nat) (d : Dev) (l : List (Int × Int)) (k : Nat) (x : ByteArray) : Dev × Int := programD p s (n : Nat) d ((k : Int) * s + (uso l k + 1)) x
def goPage (s : Int) (l : List (Int × Int)) (k : Nat) (c : Int) : Int := if c = 0 then (k : Int) * s + (uso l k + 1) else 0
set_option maxHeartbeats 6400000 in
theorem tapp_go (t : TpS X w0 W tb g ib ic h q p s d v l o) (hrl : d.row.length < 100000) (hb : body.size ≤ 9223372036854775807) (ha : 0 ≤ a ∧ a ≤ 4294967295) (hb2 : 0 ≤ b ∧ b ≤ 4294967295) (x : ByteArray) (hxs : x.size ≤ 9223372036854775807) (hf : fbS p s (l.length : Nat) kd a b body = (x, 0)) (k : Nat) (ho : o = k) (hk : k < l.length) (hz : uso l k < s - 1) :
    Calls Tryz.prog 16 #[.pointer (some ⟨tb, 0, none⟩), frv kd a b body] W (AppPost X w0 tb g ib ic h q p s (goPage s l k (goD p s l.length d l k x).2) (goD p s l.length d l k x).2 (goD p s l.length d l k x).1 (l.set k (epo l k, uso l k + 1)) k) := by
  subst ho
  have HBY := Lib.hid (fun w => bytes2 hb ha hb2 x 0 hf w)
  have HC := Lib.hid (fun W' (k : Kp W W') => (t.keep k).c2)
  have HRD := Lib.hid (fun W' (k : Kp W W') => tready (t.keep k))
  have HG := Lib.hid (fun W' (kk : Kp W W') => cgeom_any W' h q p s l k (t.keep kk).ch)
  have HL := Lib.hid (fun W' (kk : Kp W W') => cleft_any W' h q p s l k (t.keep kk).ch t.cok)
  have hlf : leftF s l (k : Int) = s - 1 - uso l k := by unfold leftF; rw [if_neg (by omega)]; simp
  rw [hlf] at HL
  have HTK := Lib.hid (fun W' (kk : Kp W W') => ctake_yes W' h q p s l k (t.keep kk).ch t.cok hk hz)
  have HFB := Lib.hid (Frk W kd a b body)
  have hR := t.cok.right
  have hu0 := t.cok.us0 k
  have hep : 0 < epo l k := by
    rcases t.cok.op with h1 | ⟨m, hm, h1, h2⟩
    · omega
    · have : m = k := by omega
      subst this
      exact h2
  have hcok : ChOk p s (l.set k (epo l k, uso l k + 1)) (k : Int) := ok_put t.cok k hk _ _ (t.cok.ep0 k) (t.cok.ep1 k) (by omega) (by omega) (k : Int) (Or.inr ⟨rfl, hep⟩)
  have hl2 : (l.set k (epo l k, uso l k + 1)).length = l.length := List.length_set
  have HT := Lib.hid t
  have hdl : (s - 1 - uso l k == 0) = false := by simp; omega
  unfold goPage goD
  generalize hpg : (k : Int) * s + (uso l k + 1) = pg at *
  have HPR := Lib.hid (fun W' v' (tt : TpS X w0 W' tb g ib ic h q p s d v' (l.set k (epo l k, uso l k + 1)) k) => fprogram tt.fl.at_ tt.fl.ok pg x hxs)
  rw [hl2] at HPR
  have HOK := Lib.hid (programD_ok t.fl.ok pg x hrl)
  generalize programD p s (l.length : Nat) d pg x = pr at *
  obtain ⟨pd, pc⟩ := pr
  dsimp only at HOK ⊢
  generalize hpv : (if pc = 0 then pg else 0) = pv
  have HPV := Lib.hid hpv
  clear hpv
  generalize l.set k (epo l k, uso l k + 1) = l2 at *
  generalize uso l k = u at *
  clear hf hlf hz hpg hep hu0
  go_enter Tryz.func16, Tryz.ntmps16
  go_wp2_with fail
  have hk0 := Kp.one W (fob kd a b body)
  refine (HRD.out _ hk0).mono ?_
  rintro e1 w1 ⟨rfl, hk1⟩
  have hkA := hk0.trans hk1
  go_wp2_with fail
  have hInh := fun (x v : Value) => (⟨fun h => h _ ((Kp.refl _).drew), fun h _ _ => h⟩ : (∀ Wz9, (fun W' => Kp w1 W') Wz9 → x = v) ↔ x = v)
  dsimp only at hInh
  refine wp_region_quietC (C := fun W' => Kp w1 W') (by kernel_rfl) (by kernel_rfl) ((Kp.refl _).drew) ?_
  repeat (first | go_big_quiet_step ((intro hW; first | (first | (go_at_call 46; refine (HG.out _ (hkA.trans hW)).mono ?_; rintro e w' ⟨rfl, hk9⟩; exact ⟨rfl, hW.trans hk9⟩) | (go_at_call 45; refine (HBY.out _).mono ?_; rintro e w' ⟨rfl, hk9⟩; exact ⟨rfl, hW.trans hk9⟩)) | (with_reducible rfl) | (obtain ⟨c0, c1⟩ := HC.out _ (hkA.trans hW); obtain ⟨b0, b1, b2, b3⟩ := HFB.out _ (hk1.trans hW); (try go_simp); first | done | with_reducible rfl | exact ⟨rfl, rfl⟩))) | quiet_step ((intro hW; first | (first | (go_at_call 46; refine (HG.out _ (hkA.trans hW)).mono ?_; rintro e w' ⟨rfl, hk9⟩; exact ⟨rfl, hW.trans hk9⟩) | (go_at_call 45; refine (HBY.out _).mono ?_; rintro e w' ⟨rfl, hk9⟩; exact ⟨rfl, hW.trans hk9⟩)) | (with_reducible rfl) | (obtain ⟨c0, c1⟩ := HC.out _ (hkA.trans hW); obtain ⟨b0, b1, b2, b3⟩ := HFB.out _ (hk1.trans hW); (try go_simp); first | done | with_reducible rfl | exact ⟨rfl, rfl⟩))))
  refine wpQuiet_nil ?_
  intro wq hwq
  clear hInh
  have hkB := hkA.trans hwq
  obtain ⟨c0, c1⟩ := HC.out _ hkB
  go_wp2_with fail
  refine (HL.out _ hkB).mono ?_
  rintro e2 w2 ⟨rfl, hk2⟩
  have hkC := hkB.trans hk2
  clear c0 c1
  obtain ⟨c0, c1⟩ := HC.out _ hkC
  go_wp2_with fail
  refine (HTK.out _ hkC).mono ?_
  rintro e3 w3 ⟨rfl, hc3, hm3⟩
  have t3 := (HT.out.keep hkC).stepC hc3 hm3 hl2 hcok
  have T3 := Lib.hid t3
  clear c0 c1 hc3 hm3
  obtain ⟨c0, c1⟩ := t3.c2
  clear t3
  go_wp2_with fail
  refine (HPR.out _ _ T3.out).mono ?_
  rintro e4 w4 ⟨rfl, v2, hf4, hm4⟩
  have hres := T3.out.stepF (by rw [hl2]; exact hf4) hm4 (by rw [hl2]; exact HOK.out)
  have HRES := Lib.hid hres
  clear hres hf4 hm4
  dsimp only
  by_cases hpc : pc = 0
  · subst hpc
    go_wp2_with fail
    go_ret2
    have h9 : pv = pg := by have h8 := HPV.out; simp at h8; exact h8.symm
    exact ⟨by rw [h9]; rfl, v2, HRES.out⟩
  · have hb9 : (pc != 0) = true := by simp [hpc]
    go_wp2_with fail
    go_ret2
    have h9 : pv = 0 := HPV.out.symm.trans (if_neg hpc)
    exact ⟨by rw [h9]; rfl, v2, HRES.out⟩
end
end
end Go.Proofs.YtnhogmheedeeiaaGreat
/- The contracts of package tape: Append where a region must be opened; New; a tape that is nil. -/
namespace Go.Proofs.YtnhogmheedeeiaaGreat
open Go.RowKit
set_option linter.unusedVariables false
set_option maxRecDepth 20000

section
variable {X : List (Nat × Obj)} {w0 W : World} {tb g ib ic h q : Nat} {p s : Int} {d : Dev} {v : Value} {l : List (Int × Int)} {o : Int} {kd a b : Int} {body : ByteArray}
/-- What is asked where a region is opened: the k-th, of epoch e. -/
structure CanOpen (s : Int) (l : List (Int × Int)) (o : Int) (k : Nat) (e : Int) : Prop where
  left : leftF s l o = 0
  free : 0 < frees l l.length
  top : (nwst l l.length).2 < 2147483647
  at_ : ∃ j, 1 ≤ j ∧ j ≤ l.length ∧ (∀ i, 1 ≤ i → i < j → epo l (nth l i) ≠ 0) ∧ epo l (nth l j) = 0 ∧ nth l j = k
  lt : k < l.length
  ep : (nwst l l.length).2 + 1 = e
def opnD (p s : Int) (n : Nat) (d : Dev) (k : Nat) (e : Int) : Dev × Int := programD p s (n : Nat) d ((k : Int) * s) (headP p e k)
theorem tnextK (t : TpS X w0 W tb g ib ic h q p s d v l o) (hrl : d.row.length < 100000) (k : Nat) (e : Int) (c : CanOpen s l o k e) :
    Calls Tryz.prog 47 #[.pointer (some ⟨tb, 0, none⟩)] W (NextPost X w0 tb g ib ic h q p s (opnD p s l.length d k e) (l.set k (e, 0)) k) := by
  obtain ⟨j, j1, j2, j3, j4, j5⟩ := c.at_
  exact tnext_yes t hrl c.free c.top j j1 j2 j3 j4 k j5 c.lt e c.ep
set_option maxHeartbeats 6400000 in
theorem tapp_open_bad (t : TpS X w0 W tb g ib ic h q p s d v l o) (hrl : d.row.length < 100000) (hb : body.size ≤ 9223372036854775807) (ha : 0 ≤ a ∧ a ≤ 4294967295) (hb2 : 0 ≤ b ∧ b ≤ 4294967295) (x : ByteArray) (hf : fbS p s (l.length : Nat) kd a b body = (x, 0)) (k : Nat) (e : Int) (c : CanOpen s l o k e) (d1 : Dev) (c1 : Int) (hd : opnD p s l.length d k e = (d1, c1)) (hc1 : c1 ≠ 0) :
    Calls Tryz.prog 16 #[.pointer (some ⟨tb, 0, none⟩), frv kd a b body] W (AppPost X w0 tb g ib ic h q p s 0 c1 d1 (l.set k (e, 0)) k) := by
  have HBY := Lib.hid (fun w => bytes2 hb ha hb2 x 0 hf w)
  have HC := Lib.hid (fun W' (k : Kp W W') => (t.keep k).c2)
  have HRD := Lib.hid (fun W' (k : Kp W W') => tready (t.keep k))
  have HG := Lib.hid (fun W' (kk : Kp W W') => cgeom_any W' h q p s l o (t.keep kk).ch)
  have HL := Lib.hid (fun W' (kk : Kp W W') => cleft_any W' h q p s l o (t.keep kk).ch t.cok)
  rw [c.left] at HL
  have HNX := Lib.hid (fun W' (kk : Kp W W') => tnextK (t.keep kk) hrl k e c)
  rw [hd] at HNX
  have HFB := Lib.hid (Frk W kd a b body)
  have hcb : (c1 != 0) = true := by simp [hc1]
  clear hf c hd hc1
  generalize l.set k (e, 0) = l2 at *
  go_enter Tryz.func16, Tryz.ntmps16
  go_wp2_with fail
  have hk0 := Kp.one W (fob kd a b body)
  refine (HRD.out _ hk0).mono ?_
  rintro e1 w1 ⟨rfl, hk1⟩
  have hkA := hk0.trans hk1
  go_wp2_with fail
  have hInh := fun (x v : Value) => (⟨fun h => h _ ((Kp.refl _).drew), fun h _ _ => h⟩ : (∀ Wz9, (fun W' => Kp w1 W') Wz9 → x = v) ↔ x = v)
  dsimp only at hInh
  refine wp_region_quietC (C := fun W' => Kp w1 W') (by kernel_rfl) (by kernel_rfl) ((Kp.refl _).drew) ?_
  repeat (first | go_big_quiet_step ((intro hW; first | (first | (go_at_call 46; refine (HG.out _ (hkA.trans hW)).mono ?_; rintro e w' ⟨rfl, hk9⟩; exact ⟨rfl, hW.trans hk9⟩) | (go_at_call 45; refine (HBY.out _).mono ?_; rintro e w' ⟨rfl, hk9⟩; exact ⟨rfl, hW.trans hk9⟩)) | (with_reducible rfl) | (obtain ⟨c0, c1⟩ := HC.out _ (hkA.trans hW); obtain ⟨b0, b1, b2, b3⟩ := HFB.out _ (hk1.trans hW); (try go_simp); first | done | with_reducible rfl | exact ⟨rfl, rfl⟩))) | quiet_step ((intro hW; first | (first | (go_at_call 46; refine (HG.out _ (hkA.trans hW)).mono ?_; rintro e w' ⟨rfl, hk9⟩; exact ⟨rfl, hW.trans hk9⟩) | (go_at_call 45; refine (HBY.out _).mono ?_; rintro e w' ⟨rfl, hk9⟩; exact ⟨rfl, hW.trans hk9⟩)) | (with_reducible rfl) | (obtain ⟨c0, c1⟩ := HC.out _ (hkA.trans hW); obtain ⟨b0, b1, b2, b3⟩ := HFB.out _ (hk1.trans hW); (try go_simp); first | done | with_reducible rfl | exact ⟨rfl, rfl⟩))))
  refine wpQuiet_nil ?_
  intro wq hwq
  clear hInh
  have hkB := hkA.trans hwq
  obtain ⟨y0, y1⟩ := HC.out _ hkB
  go_wp2_with fail
  refine (HL.out _ hkB).mono ?_
  rintro e2 w2 ⟨rfl, hk2⟩
  have hkC := hkB.trans hk2
  go_wp2_with fail
  refine (HNX.out _ hkC).mono ?_
  rintro e3 w3 ⟨rfl, v2, t3⟩
  have T3 := Lib.hid t3
  clear t3
  dsimp only
  go_wp2_with fail
  go_ret2
  exact ⟨rfl, v2, T3.out⟩
set_option maxHeartbeats 6400000 in
theorem tapp_open_go (t : TpS X w0 W tb g ib ic h q p s d v l o) (hrl : d.row.length < 99999) (hb : body.size ≤ 9223372036854775807) (ha : 0 ≤ a ∧ a ≤ 4294967295) (hb2 : 0 ≤ b ∧ b ≤ 4294967295) (x : ByteArray) (hxs : x.size ≤ 9223372036854775807) (hf : fbS p s (l.length : Nat) kd a b body = (x, 0)) (k : Nat) (e : Int) (c : CanOpen s l o k e) (d1 : Dev) (hd : opnD p s l.length d k e = (d1, 0)) :
    Calls Tryz.prog 16 #[.pointer (some ⟨tb, 0, none⟩), frv kd a b body] W (AppPost X w0 tb g ib ic h q p s (if (programD p s (l.length : Nat) d1 ((k : Int) * s + 1) x).2 = 0 then (k : Int) * s + 1 else 0) (programD p s (l.length : Nat) d1 ((k : Int) * s + 1) x).2 (programD p s (l.length : Nat) d1 ((k : Int) * s + 1) x).1 (l.set k (e, 1)) k) := by
  have hkl := c.lt
  have htop := nwst_top l l.length
  have he := c.ep
  have he1 : 1 ≤ e := by omega
  have HBY := Lib.hid (fun w => bytes2 hb ha hb2 x 0 hf w)
  have HC := Lib.hid (fun W' (k : Kp W W') => (t.keep k).c2)
  have HRD := Lib.hid (fun W' (k : Kp W W') => tready (t.keep k))
  have HG := Lib.hid (fun W' (kk : Kp W W') => cgeom_any W' h q p s l o (t.keep kk).ch)
  have HL := Lib.hid (fun W' (kk : Kp W W') => cleft_any W' h q p s l o (t.keep kk).ch t.cok)
  rw [c.left] at HL
  have HNX := Lib.hid (fun W' (kk : Kp W W') => tnextK (t.keep kk) (by omega) k e c)
  have hr1 : d1.row.length < 100000 := by
    have h1 := programD_rl (p := p) (s := s) (r := (l.length : Nat)) (d := d) ((k : Int) * s) (headP p e k)
    have h2 : (programD p s (l.length : Nat) d ((k : Int) * s) (headP p e k)).1 = d1 := by
      have : opnD p s l.length d k e = programD p s (l.length : Nat) d ((k : Int) * s) (headP p e k) := rfl
      rw [← this, hd]
    rw [h2] at h1
    omega
  rw [hd] at HNX
  have HFB := Lib.hid (Frk W kd a b body)
  have hR := t.cok.right
  have hl2 : (l.set k (e, 0)).length = l.length := List.length_set
  have hep2 : epo (l.set k (e, 0)) k = e := by rw [epo_set _ _ _ _ hkl, if_pos rfl]
  have hus2 : uso (l.set k (e, 0)) k = 0 := by rw [uso_set _ _ _ _ hkl, if_pos rfl]
  have hset2 : (l.set k (e, 0)).set k (e, 1) = l.set k (e, 1) := List.set_set ..
  have hz : uso (l.set k (e, 0)) k < s - 1 := by rw [hus2]; obtain ⟨r1, r2, r3, r4, r5, r6⟩ := id hR; omega
  have HTK := Lib.hid (fun W' v' (tt : TpS X w0 W' tb g ib ic h q p s d1 v' (l.set k (e, 0)) k) => ctake_yes W' h q p s (l.set k (e, 0)) k tt.ch tt.cok (by rw [hl2]; exact hkl) hz)
  rw [hus2, hep2, show (0 : Int) + 1 = 1 from rfl, hset2] at HTK
  have hcok : ∀ W' v' (tt : TpS X w0 W' tb g ib ic h q p s d1 v' (l.set k (e, 0)) k), ChOk p s (l.set k (e, 1)) (k : Int) := fun W' v' tt => by
    have := ok_put tt.cok k (by rw [hl2]; exact hkl) e 1 (by omega) (by have := tt.cok.ep1 k; rw [hep2] at this; exact this) (by omega) (by obtain ⟨r1, r2, r3, r4, r5, r6⟩ := id hR; omega) (k : Int) (Or.inr ⟨rfl, by omega⟩)
    rw [hset2] at this
    exact this
  have hl3 : (l.set k (e, 1)).length = (l.set k (e, 0)).length := by rw [List.length_set, List.length_set]
  have HSC := Lib.hid (fun W' v' (tt : TpS X w0 W' tb g ib ic h q p s d1 v' (l.set k (e, 0)) k) W'' (a : ChAt W'' h q p s (l.set k (e, 1)) (k : Int)) (m : Mv [h, q] W' W'') => tt.stepC a m hl3 (hcok W' v' tt))
  have hl4 : (l.set k (e, 1)).length = l.length := List.length_set
  generalize hpg : (k : Int) * s + 1 = pg at *
  have HPR := Lib.hid (fun W' v' (tt : TpS X w0 W' tb g ib ic h q p s d1 v' (l.set k (e, 1)) k) => And.intro (programD_ok tt.fl.ok pg x hr1) (fprogram tt.fl.at_ tt.fl.ok pg x hxs))
  rw [hl4] at HPR
  generalize programD p s (l.length : Nat) d1 pg x = pr at *
  obtain ⟨pd, pc⟩ := pr
  dsimp only at HPR ⊢
  generalize hpv : (if pc = 0 then pg else 0) = pv
  have HPV := Lib.hid hpv
  clear hpv
  have HL4 := Lib.hid hl4
  clear hl2 hl3 hep2 hus2 hset2 hz hcok hl4
  generalize l.set k (e, 1) = l3 at *
  generalize l.set k (e, 0) = l2 at *
  clear hf c hd hpg he htop
  go_enter Tryz.func16, Tryz.ntmps16
  go_wp2_with fail
  have hk0 := Kp.one W (fob kd a b body)
  refine (HRD.out _ hk0).mono ?_
  rintro e1 w1 ⟨rfl, hk1⟩
  have hkA := hk0.trans hk1
  go_wp2_with fail
  have hInh := fun (x v : Value) => (⟨fun h => h _ ((Kp.refl _).drew), fun h _ _ => h⟩ : (∀ Wz9, (fun W' => Kp w1 W') Wz9 → x = v) ↔ x = v)
  dsimp only at hInh
  refine wp_region_quietC (C := fun W' => Kp w1 W') (by kernel_rfl) (by kernel_rfl) ((Kp.refl _).drew) ?_
  repeat (first | go_big_quiet_step ((intro hW; first | (first | (go_at_call 46; refine (HG.out _ (hkA.trans hW)).mono ?_; rintro e w' ⟨rfl, hk9⟩; exact ⟨rfl, hW.trans hk9⟩) | (go_at_call 45; refine (HBY.out _).mono ?_; rintro e w' ⟨rfl, hk9⟩; exact ⟨rfl, hW.trans hk9⟩)) | (with_reducible rfl) | (obtain ⟨c0, c1⟩ := HC.out _ (hkA.trans hW); obtain ⟨b0, b1, b2, b3⟩ := HFB.out _ (hk1.trans hW); (try go_simp); first | done | with_reducible rfl | exact ⟨rfl, rfl⟩))) | quiet_step ((intro hW; first | (first | (go_at_call 46; refine (HG.out _ (hkA.trans hW)).mono ?_; rintro e w' ⟨rfl, hk9⟩; exact ⟨rfl, hW.trans hk9⟩) | (go_at_call 45; refine (HBY.out _).mono ?_; rintro e w' ⟨rfl, hk9⟩; exact ⟨rfl, hW.trans hk9⟩)) | (with_reducible rfl) | (obtain ⟨c0, c1⟩ := HC.out _ (hkA.trans hW); obtain ⟨b0, b1, b2, b3⟩ := HFB.out _ (hk1.trans hW); (try go_simp); first | done | with_reducible rfl | exact ⟨rfl, rfl⟩))))
  refine wpQuiet_nil ?_
  intro wq hwq
  clear hInh
  have hkB := hkA.trans hwq
  obtain ⟨y0, y1⟩ := HC.out _ hkB
  go_wp2_with fail
  refine (HL.out _ hkB).mono ?_
  rintro e2 w2 ⟨rfl, hk2⟩
  have hkC := hkB.trans hk2
  go_wp2_with fail
  refine (HNX.out _ hkC).mono ?_
  rintro e3 w3 ⟨rfl, v2, t3⟩
  dsimp only at t3
  have T3 := Lib.hid t3
  clear y0 y1
  obtain ⟨y0, y1⟩ := t3.c2
  clear t3
  dsimp only
  go_wp2_with fail
  refine (HTK.out _ _ T3.out).mono ?_
  rintro e4 w4 ⟨rfl, hc4, hm4⟩
  have t4 := HSC.out _ _ T3.out _ hc4 hm4
  have T4 := Lib.hid t4
  clear y0 y1 hc4 hm4
  obtain ⟨y0, y1⟩ := t4.c2
  clear t4
  go_wp2_with fail
  obtain ⟨hok, hpr⟩ := HPR.out _ _ T4.out
  have HOK := Lib.hid hok
  clear hok
  refine (hpr).mono ?_
  rintro e5 w5 ⟨rfl, v3, hf5, hm5⟩
  have hres := T4.out.stepF (by rw [HL4.out]; exact hf5) hm5 (by rw [HL4.out]; exact HOK.out)
  have HRES := Lib.hid hres
  clear hres hf5 hm5
  dsimp only
  by_cases hpc : pc = 0
  · subst hpc
    go_wp2_with fail
    go_ret2
    have h9 : pv = pg := by have h8 := HPV.out; simp at h8; exact h8.symm
    exact ⟨by rw [h9]; rfl, v3, HRES.out⟩
  · have hb9 : (pc != 0) = true := by simp [hpc]
    go_wp2_with fail
    go_ret2
    have h9 : pv = 0 := HPV.out.symm.trans (if_neg hpc)
    exact ⟨by rw [h9]; rfl, v3, HRES.out⟩
end
end Go.Proofs.YtnhogmheedeeiaaGreat
/- The contract of tape.New; the laws' 'made'. -/
namespace Go.Proofs.YtnhogmheedeeiaaGreat
open Go.RowKit
set_option linter.unusedVariables false
set_option maxRecDepth 20000

section
variable {W : World} {g ib ic h q : Nat} {p s : Int} {d : Dev} {v : Value} {l : List (Int × Int)} {o : Int}
/-- A new tape. -/
def TNewPost (W : World) (g h : Nat) (e : Ending) (w' : World) : Prop :=
  ∃ tb, e = .returned (.pointer (some ⟨tb, 0, none⟩)) ∧ W.heap.size ≤ tb ∧ Bk w' tb 71 [.pointer (some ⟨g, 0, none⟩), .pointer (some ⟨h, 0, none⟩)] ∧ Kp W w'
set_option maxHeartbeats 1600000 in
theorem tapenew_yes (hf : FlAt W g ib ic p s (l.length : Nat) d v) (hc : ChAt W h q p s l o) :
    Calls Tryz.prog 28 #[.pointer (some ⟨g, 0, none⟩), .pointer (some ⟨h, 0, none⟩)] W (TNewPost W g h) := by
  have HC := Lib.hid (fun W' (k : Kp W W') => cgeom_any W' h q p s l o (hc.keep k))
  go_enter Tryz.func28, Tryz.ntmps28
  go_wp2_with fail
  refine (fgeom hf).mono ?_
  rintro e w1 ⟨rfl, hk1⟩
  go_wp2_with fail
  refine (HC.out _ hk1).mono ?_
  rintro e w2 ⟨rfl, hk2⟩
  have hk := hk1.trans hk2
  have hs := hk.size
  go_wp2_with fail
  go_ret
  exact ⟨_, rfl, hs, Bk.new w2 _ [_, _], hk.alloc _⟩
set_option maxHeartbeats 1600000 in
theorem tapenew_no {p2 s2 : Int} {r : Int} (hf : FlAt W g ib ic p s r d v) (hc : ChAt W h q p2 s2 l o) (hne : ¬ (p = p2 ∧ s = s2 ∧ r = (l.length : Int))) :
    Calls Tryz.prog 28 #[.pointer (some ⟨g, 0, none⟩), .pointer (some ⟨h, 0, none⟩)] W fun e w' => e = .returned (.pointer none) ∧ Kp W w' := by
  have HC := Lib.hid (fun W' (k : Kp W W') => cgeom_any W' h q p2 s2 l o (hc.keep k))
  have hcases : (p == p2) = false ∨ ((p == p2) = true ∧ (s == s2) = false) ∨ ((p == p2) = true ∧ (s == s2) = true ∧ (r == (l.length : Int)) = false) := by
    rcases hx : (p == p2) with _ | _
    · exact Or.inl rfl
    · rcases hy : (s == s2) with _ | _
      · exact Or.inr (Or.inl ⟨rfl, rfl⟩)
      · rcases hz : (r == (l.length : Int)) with _ | _
        · exact Or.inr (Or.inr ⟨rfl, rfl, rfl⟩)
        · exact absurd ⟨by simpa using hx, by simpa using hy, by simpa using hz⟩ hne
  clear hne
  rcases hcases with h1 | ⟨h1, h2⟩ | ⟨h1, h2, h3⟩
  all_goals
    go_enter Tryz.func28, Tryz.ntmps28
    go_wp2_with fail
    refine (fgeom hf).mono ?_
    rintro e w1 ⟨rfl, hk1⟩
    go_wp2_with fail
    refine (HC.out _ hk1).mono ?_
    rintro e w2 ⟨rfl, hk2⟩
    go_wp2_with fail
    go_ret
    exact ⟨rfl, hk1.trans hk2⟩
set_option maxHeartbeats 800000 in
theorem tapenew_nil1 (b : Value) (hb : ∃ a, b = .pointer a) (W : World) : Calls Tryz.prog 28 #[.pointer none, b] W fun e w' => e = .returned (.pointer none) ∧ Kp W w' := by
  obtain ⟨a, rfl⟩ := hb
  go_enter Tryz.func28, Tryz.ntmps28
  go_wp2_with fail
  go_ret
  exact ⟨rfl, Kp.refl _⟩
set_option maxHeartbeats 800000 in
theorem tapenew_nil2 (g : Nat) (W : World) : Calls Tryz.prog 28 #[.pointer (some ⟨g, 0, none⟩), .pointer none] W fun e w' => e = .returned (.pointer none) ∧ Kp W w' := by
  go_enter Tryz.func28, Tryz.ntmps28
  go_wp2_with fail
  go_ret
  exact ⟨rfl, Kp.refl _⟩
end
/-- The reference's tape, behind 'made'. -/
structure RtAt (w0 W : World) (rb a ab ac b be bu : Nat) (p s : Int) (d : Dev) (v : Value) (l : List (Int × Int)) (o : Int) : Prop where
  box : Bk W rb 48 [.pointer (some ⟨a, 0, none⟩), .pointer (some ⟨b, 0, none⟩)]
  fl : RfX W a ab ac p s (l.length : Nat) d v
  ch : RcAt W b be bu p s l o
  new : w0.heap.size ≤ rb ∧ (∀ x ∈ foot a ab v, w0.heap.size ≤ x) ∧ w0.heap.size ≤ b ∧ w0.heap.size ≤ be ∧ w0.heap.size ≤ bu
def pairCells (g h tb rb : Nat) : List Value := [.pointer (some ⟨g, 0, none⟩), .pointer (some ⟨h, 0, none⟩), .pointer (some ⟨tb, 0, none⟩), .pointer (some ⟨rb, 0, none⟩)]
def pairOb (g h tb rb : Nat) : Obj := .cells (pairCells g h tb rb).toArray 43 (0, 0)
def MadePost (w : World) (p s : Int) (n : Nat) (e : Ending) (w' : World) : Prop :=
  ∃ pb tb g ib ic h q v rb a ab ac b be bu, e = .returned (.pointer (some ⟨pb, 0, none⟩)) ∧ w.heap.size ≤ pb ∧
    TpS [(pb, pairOb g h tb rb)] w w' tb g ib ic h q p s (newD p s (n : Nat) ⟨#[]⟩) v (List.replicate n (0, 0)) (-1) ∧
    ∃ w3, Kp w w3 ∧ Kp w3 w' ∧ (∀ x ∈ foot g ib v, x < w3.heap.size) ∧ h < w3.heap.size ∧ q < w3.heap.size ∧ tb < w3.heap.size ∧ w3.heap.size ≤ pb ∧
      RtAt w3 w' rb a ab ac b be bu p s (newD p s (n : Nat) ⟨#[]⟩) (.slice none 0 0) (List.replicate n (0, 0)) (-1)
/-! What the operations of 'made' tell. -/
section
variable {w3 : World} {p s : Int} {n : Nat} {gs : List Value}
def RfN (w3 : World) (p s : Int) (n a ab ac : Nat) (W : World) : Prop := RfX W a ab ac p s (n : Nat) (newD p s (n : Nat) ⟨#[]⟩) (.slice none 0 0) ∧ w3.heap.size ≤ a ∧ w3.heap.size ≤ ab
def RcN (w3 : World) (p s : Int) (n b be bu : Nat) (W : World) : Prop := RcAt W b be bu p s (List.replicate n (0, 0)) (-1) ∧ w3.heap.size ≤ b ∧ w3.heap.size ≤ be ∧ w3.heap.size ≤ bu
def RtN (w3 : World) (p s : Int) (n rb : Nat) (W : World) : Prop := ∃ a ab ac b be bu, Bk W rb 48 [.pointer (some ⟨a, 0, none⟩), .pointer (some ⟨b, 0, none⟩)] ∧ RfN w3 p s n a ab ac W ∧ RcN w3 p s n b be bu W ∧ w3.heap.size ≤ rb
def MF4 (w3 : World) (p s : Int) (n : Nat) : Fact := fun v W => ∃ a ab ac, v = .pointer (some ⟨a, 0, none⟩) ∧ RfN w3 p s n a ab ac W
def MF6 (w3 : World) (p s : Int) (n : Nat) : Fact := fun v W => ∃ b be bu, v = .pointer (some ⟨b, 0, none⟩) ∧ RcN w3 p s n b be bu W
def MF7 (w3 : World) (p s : Int) (n : Nat) : Fact := fun v W => ∃ a ab ac b be bu, v = .agg #[.pointer (some ⟨a, 0, none⟩), .pointer (some ⟨b, 0, none⟩)] ∧ RfN w3 p s n a ab ac W ∧ RcN w3 p s n b be bu W
def MF8 (w3 : World) (p s : Int) (n : Nat) : Fact := fun v W => ∃ rb, v = .pointer (some ⟨rb, 0, none⟩) ∧ RtN w3 p s n rb W
def MF9 (w3 : World) (p s : Int) (n g h tb : Nat) : Fact := fun v W => ∃ rb, v = .agg #[.pointer (some ⟨g, 0, none⟩), .pointer (some ⟨h, 0, none⟩), .pointer (some ⟨tb, 0, none⟩), .pointer (some ⟨rb, 0, none⟩)] ∧ RtN w3 p s n rb W
def MF10 (w3 : World) (p s : Int) (n g h tb : Nat) : Fact := fun v W => ∃ pb rb, v = .pointer (some ⟨pb, 0, none⟩) ∧ W.heap[pb]? = some (pairOb g h tb rb) ∧ w3.heap.size ≤ pb ∧ RtN w3 p s n rb W
theorem RfN.keep {a ab ac : Nat} {W W' : World} (h : RfN w3 p s n a ab ac W) (k : Kp W W') : RfN w3 p s n a ab ac W' := ⟨h.1.keep k, h.2⟩
theorem RcN.keep {b be bu : Nat} {W W' : World} (h : RcN w3 p s n b be bu W) (k : Kp W W') : RcN w3 p s n b be bu W' := ⟨h.1.keep k, h.2⟩
theorem RtN.keep {rb : Nat} {W W' : World} (h : RtN w3 p s n rb W) (k : Kp W W') : RtN w3 p s n rb W' := by
  obtain ⟨a, ab, ac, b, be, bu, h1, h2, h3, h4⟩ := h
  exact ⟨a, ab, ac, b, be, bu, h1.keep k, h2.keep k, h3.keep k, h4⟩
theorem MF4.st : Stable Kp (MF4 w3 p s n) := fun v W W' k ⟨a, ab, ac, h1, h2⟩ => ⟨a, ab, ac, h1, h2.keep k⟩
theorem MF6.st : Stable Kp (MF6 w3 p s n) := fun v W W' k ⟨a, ab, ac, h1, h2⟩ => ⟨a, ab, ac, h1, h2.keep k⟩
theorem MF7.st : Stable Kp (MF7 w3 p s n) := fun v W W' k ⟨a, ab, ac, b, be, bu, h1, h2, h3⟩ => ⟨a, ab, ac, b, be, bu, h1, h2.keep k, h3.keep k⟩
theorem MF8.st : Stable Kp (MF8 w3 p s n) := fun v W W' k ⟨rb, h1, h2⟩ => ⟨rb, h1, h2.keep k⟩
theorem MF9.st {g h tb : Nat} : Stable Kp (MF9 w3 p s n g h tb) := fun v W W' k ⟨rb, h1, h2⟩ => ⟨rb, h1, h2.keep k⟩
theorem MF10.st {g h tb : Nat} : Stable Kp (MF10 w3 p s n g h tb) := fun v W W' k ⟨pb, rb, h1, h2, h3, h4⟩ => ⟨pb, rb, h1, (Below.block k pb (Array.getElem?_eq_some_iff.1 h2).1).trans h2, h3, h4.keep k⟩
theorem MF4.mk {a ab ac : Nat} {W : World} (h : RfN w3 p s n a ab ac W) : MF4 w3 p s n (.pointer (some ⟨a, 0, none⟩)) W := ⟨a, ab, ac, rfl, h⟩
theorem MF6.mk {b be bu : Nat} {W : World} (h : RcN w3 p s n b be bu W) : MF6 w3 p s n (.pointer (some ⟨b, 0, none⟩)) W := ⟨b, be, bu, rfl, h⟩
theorem MF7.mk {a ab ac b be bu : Nat} {W : World} (h : RfN w3 p s n a ab ac W) (h2 : RcN w3 p s n b be bu W) : MF7 w3 p s n (.agg #[.pointer (some ⟨a, 0, none⟩), .pointer (some ⟨b, 0, none⟩)]) W := ⟨a, ab, ac, b, be, bu, rfl, h, h2⟩
theorem MF8.mk {a ab ac b be bu : Nat} {W : World} (h : RfN w3 p s n a ab ac W) (h2 : RcN w3 p s n b be bu W) (k : Kp w3 W) : MF8 w3 p s n (.pointer (some ⟨W.heap.size, 0, none⟩)) (W.alloc (.cells #[.pointer (some ⟨a, 0, none⟩), .pointer (some ⟨b, 0, none⟩)] 48)) :=
  ⟨_, rfl, a, ab, ac, b, be, bu, Bk.new W _ [_, _], h.keep (Kp.one _ _), h2.keep (Kp.one _ _), k.size⟩
theorem MF9.mk {g h tb rb : Nat} {W : World} (x : RtN w3 p s n rb W) : MF9 w3 p s n g h tb (.agg #[.pointer (some ⟨g, 0, none⟩), .pointer (some ⟨h, 0, none⟩), .pointer (some ⟨tb, 0, none⟩), .pointer (some ⟨rb, 0, none⟩)]) W := ⟨rb, rfl, x⟩
theorem MF10.mk {g h tb rb : Nat} {W : World} (x : RtN w3 p s n rb W) (k : Kp w3 W) : MF10 w3 p s n g h tb (.pointer (some ⟨W.heap.size, 0, none⟩)) (W.alloc (.cells #[.pointer (some ⟨g, 0, none⟩), .pointer (some ⟨h, 0, none⟩), .pointer (some ⟨tb, 0, none⟩), .pointer (some ⟨rb, 0, none⟩)] 43)) :=
  ⟨_, rb, rfl, heap_alloc_new W _, k.size, x.keep (Kp.one _ _)⟩
end
theorem FlS.base {w0 w1 W : World} {g ib ic : Nat} {p s r : Int} {d : Dev} {v : Value} (h : FlS w1 W g ib ic p s r d v) (k : Kp w0 w1) : FlS w0 W g ib ic p s r d v :=
  ⟨h.at_, h.ok, k.trans h.kp, fun b hb => Nat.le_trans k.size (h.new b hb)⟩
set_option maxHeartbeats 6400000 in
theorem made_any (p s : Int) (n : Nat) (hR : RightG p s n) (w : World) : Calls Tryz.prog 5 #[geo p s n] w (MadePost w p s n) := by
  have HG := Lib.hid (fun (W : World) (k : Kp (w.alloc (gob p s n)) W) => (Gat.new w p s n).keep k)
  have hle : (((⟨#[]⟩ : ByteArray).size : Nat) : Int) ≤ p * s * n := by have := (mul3 hR).2.2.1; show ((0 : Nat) : Int) ≤ _; omega
  have HNF := Lib.hid (fun W => new_S hR ⟨#[]⟩ hle W)
  have HNC := Lib.hid (fun W => cnew_yes p s n hR W)
  have HRF := Lib.hid (fun W => rnewf p s n hR ⟨#[]⟩ hle W)
  have HRC := Lib.hid (fun W => rnew_any p s n hR W)
  have hrl : (List.replicate n ((0 : Int), (0 : Int))).length = n := List.length_replicate
  have HRL := Lib.hid hrl
  have HOK := Lib.hid (repOk p s n hR)
  clear hle hrl
  go_enter Tryz.func5, Tryz.ntmps5
  go_wp2_with fail
  have hk0 := Kp.one w (gob p s n)
  refine (HNF.out _).mono ?_
  rintro e w1 ⟨g, ib, ic, v, rfl, hf1⟩
  obtain ⟨g0, g1, g2⟩ := HG.out _ hf1.kp
  go_wp2_with fail
  refine (HNC.out _).mono ?_
  rintro e w2 ⟨h, q, rfl, hg2, hq2, hc2, hk2⟩
  have hf2 := hf1.keep hk2
  go_wp2_with fail
  refine (tapenew_yes (l := List.replicate n (0, 0)) (by rw [HRL.out]; exact hf2.at_) hc2).mono ?_
  rintro e w3 ⟨tb, rfl, htb, hbt, hk3⟩
  have l1 := hf1.at_.foot_lt
  have hs1 := hk0.size
  have hs2 := (show Kp (w.alloc (gob p s n)) w1 from hf1.kp).size
  have hs3 := hk2.size
  have hs4 := hk3.size
  have lh := hc2.box.lt
  have lq := hc2.row.lt
  have ltb := hbt.lt
  have t3 : TpS [] w w3 tb g ib ic h q p s (newD p s (n : Nat) ⟨#[]⟩) v (List.replicate n (0, 0)) (-1) :=
    ⟨hbt, by rw [HRL.out]; exact (hf2.keep hk3).base hk0, hc2.keep hk3, HOK.out, ⟨by omega, by omega, by omega⟩, ⟨fun hx => by have := l1 _ hx; omega, fun hx => by have := l1 _ hx; omega, fun hx => by have := l1 _ hx; omega, by omega, by omega⟩, fun y hy => by cases hy⟩
  have T3 := Lib.hid t3
  have hkG : Kp (w.alloc (gob p s n)) w3 := (hf1.kp.trans hk2).trans hk3
  have HL : Hid ((∀ x ∈ foot g ib v, x < w3.heap.size) ∧ h < w3.heap.size ∧ q < w3.heap.size ∧ tb < w3.heap.size ∧ w.heap.size ≤ w3.heap.size) := Lib.hid ⟨fun x hx => by have := l1 x hx; omega, by omega, by omega, ltb, by omega⟩
  clear g0 g1 g2 hf1 hf2 hc2 hbt t3 l1 hs1 hs2 hs3 hs4 lh lq ltb hk2 hk3 hg2 hq2 htb
  go_wp2_with fail
  refine wp_region_rel (R := Kp) (C := fun W' => Kp w3 W') (by kernel_rfl) (by kernel_rfl) (Kp.refl _).drew (fun _ _ h k => h.trans k) Kp.refl (fun _ _ _ h k => h.trans k) ?_
  repeat (refine wpRel_step (fun K hK => ?_); apply rel_eq; (case ob => (intro f W hW hd; (obtain ⟨g0, g1, g2⟩ := HG.out _ (hkG.trans hW)); (try simp [deps, factOf, Region.binds] at hd); unfold relOp; go_simp; (first | exact ⟨Kp.refl _, rfl⟩ | exact Kp.refl _ | (refine ⟨Kp.refl _, ?_⟩; fail)))); go_simp; refine hK _ _ ?_; clear hK K)
  refine wpRel_step (fun K hK => ?_)
  apply rel_fact (MF4 w3 p s n) (MF4.st)
  case ob =>
    intro f W hW hd
    skip
    (try simp [deps, factOf, Region.binds] at hd)
    unfold relOp
    go_simp
    (refine ⟨Kp.refl _, ?_⟩; go_at_call 29; refine (HRF.out _).mono ?_; rintro e w' ⟨a, ab, ac, rfl, ha, hab, hx, hk9⟩; exact ⟨_, rfl, hk9, MF4.mk ⟨hx, Nat.le_trans hW.size ha, Nat.le_trans hW.size hab⟩⟩)
  go_simp
  refine hK _ _ ?_
  clear hK K
  repeat (refine wpRel_step (fun K hK => ?_); apply rel_eq; (case ob => (intro f W hW hd; (obtain ⟨g0, g1, g2⟩ := HG.out _ (hkG.trans hW)); (try simp [deps, factOf, Region.binds] at hd); unfold relOp; go_simp; (first | exact ⟨Kp.refl _, rfl⟩ | exact Kp.refl _ | (refine ⟨Kp.refl _, ?_⟩; fail)))); go_simp; refine hK _ _ ?_; clear hK K)
  refine wpRel_step (fun K hK => ?_)
  apply rel_fact (MF6 w3 p s n) (MF6.st)
  case ob =>
    intro f W hW hd
    skip
    (try simp [deps, factOf, Region.binds] at hd)
    unfold relOp
    go_simp
    (refine ⟨Kp.refl _, ?_⟩; go_at_call 30; refine (HRC.out _).mono ?_; rintro e w' ⟨b, be, bu, rfl, ⟨hb1, hb2, hb3⟩, hx, hk9⟩; exact ⟨_, rfl, hk9, MF6.mk ⟨hx, Nat.le_trans hW.size hb1, Nat.le_trans hW.size hb2, Nat.le_trans hW.size hb3⟩⟩)
  go_simp
  refine hK _ _ ?_
  clear hK K
  refine wpRel_step (fun K hK => ?_)
  apply rel_fact (MF7 w3 p s n) (MF7.st)
  case ob =>
    intro f W hW hd
    (simp [deps, factOf, Region.binds] at hd; obtain ⟨⟨a, ab, ac, e4, z1⟩, ⟨b, be, bu, e6, z2⟩⟩ := hd)
    (try simp [deps, factOf, Region.binds] at hd)
    unfold relOp
    go_simp
    exact ⟨Kp.refl _, MF7.mk z1 z2⟩
  go_simp
  refine hK _ _ ?_
  clear hK K
  refine wpRel_step (fun K hK => ?_)
  apply rel_fact (MF8 w3 p s n) (MF8.st)
  case ob =>
    intro f W hW hd
    (simp [deps, factOf, Region.binds] at hd; obtain ⟨a, ab, ac, b, be, bu, e7, z1, z2⟩ := hd)
    (try simp [deps, factOf, Region.binds] at hd)
    unfold relOp
    go_simp
    exact ⟨Kp.one _ _, MF8.mk z1 z2 hW⟩
  go_simp
  refine hK _ _ ?_
  clear hK K
  refine wpRel_step (fun K hK => ?_)
  apply rel_fact (MF9 w3 p s n g h tb) (MF9.st)
  case ob =>
    intro f W hW hd
    (simp [deps, factOf, Region.binds] at hd; obtain ⟨e0, e1, e2, ⟨rb, e8, z1⟩⟩ := hd)
    (try simp [deps, factOf, Region.binds] at hd)
    unfold relOp
    go_simp
    exact ⟨Kp.refl _, MF9.mk z1⟩
  go_simp
  refine hK _ _ ?_
  clear hK K
  refine wpRel_step (fun K hK => ?_)
  apply rel_fact (MF10 w3 p s n g h tb) (MF10.st)
  case ob =>
    intro f W hW hd
    (simp [deps, factOf, Region.binds] at hd; obtain ⟨rb, e9, z1⟩ := hd)
    (try simp [deps, factOf, Region.binds] at hd)
    unfold relOp
    go_simp
    exact ⟨Kp.one _ _, MF10.mk z1 hW⟩
  go_simp
  refine hK _ _ ?_
  clear hK K
  refine wpRel_step (fun K hK => ?_)
  apply rel_fact (MF10 w3 p s n g h tb) (MF10.st)
  case ob =>
    intro f W hW hd
    (simp [deps, factOf, Region.binds] at hd; have hd2 := hd; obtain ⟨pb, rb, e10, z1⟩ := hd; rw [e10] at hd2)
    (try simp [deps, factOf, Region.binds] at hd)
    unfold relOp
    go_simp
    first | exact Kp.refl _ | exact ⟨Kp.refl _, hd2⟩
  go_simp
  refine hK _ _ ?_
  clear hK K
  refine wpRel_nil ?_
  intro f W' hW hall
  obtain ⟨pb, rb, h11, hpb, hpbs, ⟨a, ab, ac, b, be, bu, r1, ⟨r2, r3, r4⟩, ⟨r5, r6, r7, r8⟩, r9⟩⟩ := allF_get hall 11 _ rfl
  rw [Nat.zero_add] at h11
  clear hall
  dsimp only
  rw [h11]
  obtain ⟨y1, y2, y3, y4, y5⟩ := HL.out
  have t4 := T3.out.keep hW
  have hres : MadePost w p s n (.returned (.pointer (some ⟨pb, 0, none⟩))) W' := by
    refine ⟨pb, tb, g, ib, ic, h, q, v, rb, a, ab, ac, b, be, bu, rfl, by omega, ⟨t4.box, t4.fl, t4.ch, t4.cok, t4.new, t4.dj, fun y hy => ?_⟩, w3, T3.out.fl.kp, hW, y1, y2, y3, y4, hpbs, ⟨r1, by rw [HRL.out]; exact r2, r5, r9, fun x hx => ?_, r6, r7, r8⟩⟩
    · have : y = (pb, pairOb g h tb rb) := by simpa using hy
      subst this
      exact ⟨hpb, fun hx => by have := y1 _ hx; omega, by show pb ≠ h; omega, by show pb ≠ q; omega⟩
    · simp [foot, Value.ownBlock] at hx
      rcases hx with rfl | rfl
      · exact r3
      · exact r4
  have HRES := Lib.hid hres
  clear hres t4 y1 y2 y3 y4 y5 r1 r2 r3 r4 r5 r6 r7 r8 r9 hpb hpbs
  go_wp2_with fail
  go_ret
  exact HRES.out
end Go.Proofs.YtnhogmheedeeiaaGreat
/- alive of tape's laws; TapeRefuses. -/
namespace Go.Proofs.YtnhogmheedeeiaaGreat
open Go.RowKit
set_option linter.unusedVariables false
set_option maxRecDepth 20000

def aX : ByteArray := ⟨#[120]⟩
abbrev aL : List (Int × Int) := List.replicate 4 (0, 0)
def aD0 : Dev := newD 32 3 ((4 : Nat) : Int) ⟨#[]⟩
def aD1 : Dev := (opnD 32 3 4 aD0 0 1).1
def aB : ByteArray := pageS 32 2 1 0 aX
def aD2 : Dev := (programD 32 3 ((4 : Nat) : Int) aD1 (((0 : Nat) : Int) * 3 + 1) aB).1
theorem a_can : CanOpen 3 aL (-1) 0 1 := ⟨by decide, by decide, by decide, ⟨1, by omega, by decide, fun i h1 h2 => by omega, by decide, by decide⟩, by decide, by decide⟩
theorem a_1 : opnD 32 3 aL.length aD0 0 1 = (aD1, 0) := by
  have h : (opnD 32 3 4 aD0 0 1).2 = 0 := by kernel_rfl
  exact Prod.ext rfl h
theorem a_2 : (programD 32 3 ((4 : Nat) : Int) aD1 (((0 : Nat) : Int) * 3 + 1) aB).2 = 0 := by kernel_rfl
theorem a_3 : readD 32 3 ((4 : Nat) : Int) aD2 0 = (headP 32 1 0, 0) := by kernel_rfl
theorem aR : RightG 32 3 ((4 : Nat) : Int) := by unfold RightG; omega
theorem a_f : fbS 32 3 ((4 : Nat) : Int) 2 1 0 aX = (aB, 0) := by
  have hz : aX.size = 1 := rfl
  unfold fbS
  rw [if_neg (by omega), if_neg (by omega), if_neg (by rw [hz]; omega)]
  rfl
theorem a_app {X : List (Nat × Obj)} {w W : World} {tb g ib ic h q : Nat} {v : Value} (t : TpS X w W tb g ib ic h q 32 3 aD0 v aL (-1)) :
    Calls Tryz.prog 16 #[.pointer (some ⟨tb, 0, none⟩), frv 2 1 0 aX] W (AppPost X w tb g ib ic h q 32 3 1 0 aD2 (aL.set 0 (1, 1)) (0 : Nat)) := by
  have := tapp_open_go (kd := 2) (a := 1) (b := 0) (body := aX) t (by decide) (by decide) (by omega) (by omega) aB (by decide +kernel) a_f 0 1 a_can aD1 a_1
  have e : (aL.length : Nat) = 4 := rfl
  rw [e, a_2] at this
  exact this
theorem a_read (w : World) : Calls Tryz.prog 32 #[.string (headP 32 1 0)] w fun e w' => e = .returned (.tuple #[frv 1 1 0 ⟨#[]⟩, .int .i64 0]) ∧ Kp w w' := by
  have h := read_back (headOk aR 1 0 (by omega) (by omega))
  exact readR (headP 32 1 0) (by have := headP_size aR 1 0 (by omega) (by omega); omega) _ _ h.1 w
set_option maxHeartbeats 6400000 in
theorem talive (w : World) : Calls Tryz.prog 6 #[] w fun e w' => e = .returned (.bool true) ∧ Kp w w' := by
  have HM := Lib.hid (fun W => (made_any 32 3 4 aR W))
  have HRD := Lib.hid a_read
  go_enter Tryz.func6, Tryz.ntmps6
  go_wp2_with fail
  refine (HM.out _).mono ?_
  rintro e w1 ⟨pb, tb, g, ib, ic, h, q, v, rb, a, ab, ac, b, be, bu, rfl, -, t, -⟩
  have HC := Lib.hid (fun W' d' v' l' o' (tt : TpS [(pb, pairOb g h tb rb)] w W' tb g ib ic h q 32 3 d' v' l' o') => show Bk W' pb 43 (pairCells g h tb rb) from (tt.watch _ (List.mem_singleton.2 rfl)).1)
  have hb0 := HC.out _ _ _ _ _ t
  have p0 := hb0.cell 0
  have p2 := hb0.cell 2
  simp only [pairCells, List.getElem?_cons_succ, List.getElem?_cons_zero] at p0 p2
  go_wp2_with fail
  refine (a_app t).mono ?_
  rintro e w2 ⟨rfl, v2, t2⟩
  clear p0 p2 hb0 t
  have hb0 := HC.out _ _ _ _ _ t2
  have p0 := hb0.cell 0
  simp only [pairCells, List.getElem?_cons_succ, List.getElem?_cons_zero] at p0
  have HR := Lib.hid (fread_any t2.fl.at_ t2.fl.ok 0)
  have hz : ((aL.set 0 (1, 1)).length : Nat) = 4 := rfl
  rw [hz, a_3] at HR
  have hkw := t2.fl.kp
  clear hb0 t2 hz
  generalize headP 32 1 0 = hp at *
  go_wp2_with fail
  refine (HR.out).mono ?_
  rintro e w3 ⟨rfl, hk3⟩
  go_wp2_with fail
  refine (HRD.out _).mono ?_
  rintro e w4 ⟨rfl, hk4⟩
  go_wp2_with fail
  go_ret
  exact ⟨rfl, ((hkw.trans hk3).trans hk4).alloc _⟩
end Go.Proofs.YtnhogmheedeeiaaGreat
/- Tape.Erase. -/
namespace Go.Proofs.YtnhogmheedeeiaaGreat
open Go.RowKit
set_option linter.unusedVariables false
set_option maxRecDepth 20000
section
variable {X : List (Nat × Obj)} {w0 W : World} {tb g ib ic h q : Nat} {p s : Int} {d : Dev} {v : Value} {l : List (Int × Int)} {o : Int}
set_option maxHeartbeats 3200000 in
theorem terase_state (t : TpS X w0 W tb g ib ic h q p s d v l o) (k : Nat) (hk : k < l.length) (hz : epo l k = 0 ∨ (epo l k ≠ 0 ∧ o = k)) :
    Calls Tryz.prog 12 #[.pointer (some ⟨tb, 0, none⟩), .int .i64 k] W fun e w' => e = .returned (.int .i64 7) ∧ Kp W w' := by
  have hlen := t.cok.len
  have HC := Lib.hid (fun W' (kk : Kp W W') => (t.keep kk).c2)
  have HEP := Lib.hid (fun W' (kk : Kp W W') => cepochK W' h q p s l o (t.keep kk).ch (by omega) k hk)
  have HUS := Lib.hid (fun W' (kk : Kp W W') => cused_in W' h q p s l o (t.keep kk).ch (by omega) k hk)
  have HER := Lib.hid (fun W' (kk : Kp W W') => cerase_state W' h q p s l o (t.keep kk).ch (by omega) k hk hz)
  go_enter Tryz.func12, Tryz.ntmps12
  go_wp2_with fail
  refine (tready t).mono ?_
  rintro e w1 ⟨rfl, hk1⟩
  obtain ⟨c0, c1⟩ := HC.out _ hk1
  clear hz
  go_wp2_with fail
  have hInh := fun (x v : Value) => (⟨fun h => h _ (hk1.drew), fun h _ _ => h⟩ : (∀ Wz9, (fun W' => Kp W W') Wz9 → x = v) ↔ x = v)
  dsimp only at hInh
  refine wp_region_quietC (C := fun W' => Kp W W') (by kernel_rfl) (by kernel_rfl) (hk1.drew) ?_
  repeat (first | go_big_quiet_step ((intro hW; first | (first | (go_at_call 37; refine (HEP.out _ hW).mono ?_; rintro e w' ⟨rfl, hk9⟩; exact ⟨rfl, hW.trans hk9⟩) | (go_at_call 38; refine (HUS.out _ hW).mono ?_; rintro e w' ⟨rfl, hk9⟩; exact ⟨rfl, hW.trans hk9⟩)) | (with_reducible rfl) | (obtain ⟨c0, c1⟩ := HC.out _ hW; (try go_simp); first | done | with_reducible rfl | exact ⟨rfl, rfl⟩))) | quiet_step ((intro hW; first | (first | (go_at_call 37; refine (HEP.out _ hW).mono ?_; rintro e w' ⟨rfl, hk9⟩; exact ⟨rfl, hW.trans hk9⟩) | (go_at_call 38; refine (HUS.out _ hW).mono ?_; rintro e w' ⟨rfl, hk9⟩; exact ⟨rfl, hW.trans hk9⟩)) | (with_reducible rfl) | (obtain ⟨c0, c1⟩ := HC.out _ hW; (try go_simp); first | done | with_reducible rfl | exact ⟨rfl, rfl⟩))))
  refine wpQuiet_nil ?_
  intro wq hwq
  clear hInh
  obtain ⟨c0, c1⟩ := HC.out _ hwq
  go_wp2_with fail
  refine (HER.out _ hwq).mono ?_
  rintro e w2 ⟨rfl, hk2⟩
  go_wp2_with fail
  go_ret
  exact ⟨rfl, hwq.trans hk2⟩
set_option maxHeartbeats 3200000 in
theorem terase_go (t : TpS X w0 W tb g ib ic h q p s d v l o) (hrl : d.row.length ≤ 99990) (k : Nat) (hk : k < l.length) (hz : epo l k ≠ 0) (ho : o ≠ k) (d1 : Dev) (hd : eraseD p s (l.length : Nat) d k = (d1, 0)) :
    Calls Tryz.prog 12 #[.pointer (some ⟨tb, 0, none⟩), .int .i64 k] W fun e w' => e = .returned (.int .i64 0) ∧ ∃ v2, TpS X w0 w' tb g ib ic h q p s d1 v2 (l.set k (0, 0)) o := by
  have hlen := t.cok.len
  have hR := t.cok.right
  obtain ⟨r1, r2, r3, r4, r5, r6⟩ := id hR
  have hcok : ChOk p s (l.set k (0, 0)) o := ok_put t.cok k hk 0 0 (by omega) (by omega) (by omega) (by omega) o (Or.inl ⟨rfl, Or.inl ho⟩)
  have hln : (l.set k (0, 0)).length = l.length := List.length_set
  have HC := Lib.hid (fun W' (kk : Kp W W') => (t.keep kk).c2)
  have HEP := Lib.hid (fun W' (kk : Kp W W') => cepochK W' h q p s l o (t.keep kk).ch (by omega) k hk)
  have HUS := Lib.hid (fun W' (kk : Kp W W') => cused_in W' h q p s l o (t.keep kk).ch (by omega) k hk)
  have HER := Lib.hid (fun W' (kk : Kp W W') => cerase_ok W' h q p s l o (t.keep kk).ch (by omega) k hk hz ho)
  have HST := Lib.hid (fun W' (kk : Kp W W') W'' (a : ChAt W'' h q p s (l.set k (0, 0)) o) (b : Mv [h, q] W' W'') => (t.keep kk).stepC a b hln hcok)
  go_enter Tryz.func12, Tryz.ntmps12
  go_wp2_with fail
  refine (tready t).mono ?_
  rintro e w1 ⟨rfl, hk1⟩
  obtain ⟨c0, c1⟩ := HC.out _ hk1
  have HZ := Lib.hid (And.intro hz ho)
  clear hz ho hln
  go_wp2_with fail
  have hInh := fun (x v : Value) => (⟨fun h => h _ (hk1.drew), fun h _ _ => h⟩ : (∀ Wz9, (fun W' => Kp W W') Wz9 → x = v) ↔ x = v)
  dsimp only at hInh
  refine wp_region_quietC (C := fun W' => Kp W W') (by kernel_rfl) (by kernel_rfl) (hk1.drew) ?_
  repeat (first | go_big_quiet_step ((intro hW; first | (first | (go_at_call 37; refine (HEP.out _ hW).mono ?_; rintro e w' ⟨rfl, hk9⟩; exact ⟨rfl, hW.trans hk9⟩) | (go_at_call 38; refine (HUS.out _ hW).mono ?_; rintro e w' ⟨rfl, hk9⟩; exact ⟨rfl, hW.trans hk9⟩)) | (with_reducible rfl) | (obtain ⟨c0, c1⟩ := HC.out _ hW; (try go_simp); first | done | with_reducible rfl | exact ⟨rfl, rfl⟩))) | quiet_step ((intro hW; first | (first | (go_at_call 37; refine (HEP.out _ hW).mono ?_; rintro e w' ⟨rfl, hk9⟩; exact ⟨rfl, hW.trans hk9⟩) | (go_at_call 38; refine (HUS.out _ hW).mono ?_; rintro e w' ⟨rfl, hk9⟩; exact ⟨rfl, hW.trans hk9⟩)) | (with_reducible rfl) | (obtain ⟨c0, c1⟩ := HC.out _ hW; (try go_simp); first | done | with_reducible rfl | exact ⟨rfl, rfl⟩))))
  refine wpQuiet_nil ?_
  intro wq hwq
  clear hInh
  obtain ⟨c0, c1⟩ := HC.out _ hwq
  go_wp2_with fail
  refine (HER.out _ hwq).mono ?_
  rintro e w2 ⟨rfl, ha2, hm2⟩
  have t2 := HST.out _ hwq _ ha2 hm2
  obtain ⟨c0, c1⟩ := t2.c2
  have HFE := ferase t2.fl.at_ t2.fl.ok (k : Int)
  rw [List.length_set, hd] at HFE
  have HFE := Lib.hid HFE
  have hok1 : DevOk p s (l.length : Nat) d1 := by
    have := eraseD_ok t.fl.ok (k : Int) hrl
    rw [hd] at this
    exact this
  have HS2 := Lib.hid (fun W'' v2 (a : FlAt W'' g ib ic p s (l.length : Nat) d1 v2) (b : FlMv w2 W'' g ib v v2) => t2.stepF (W' := W'') (v2 := v2) (d2 := d1) (by rw [List.length_set]; exact a) b (by rw [List.length_set]; exact hok1))
  clear ha2 hm2 t2 hd hok1
  go_wp2_with fail
  refine (HFE.out).mono ?_
  rintro e w3 ⟨rfl, v2, hf2, hm2⟩
  have hres := HS2.out _ _ hf2 hm2
  go_wp2_with fail
  go_ret
  exact ⟨rfl, v2, hres⟩
end
end Go.Proofs.YtnhogmheedeeiaaGreat
/- Tape.Erase: the other cases. -/
namespace Go.Proofs.YtnhogmheedeeiaaGreat
open Go.RowKit
set_option linter.unusedVariables false
set_option maxRecDepth 20000
section
variable {X : List (Nat × Obj)} {w0 W : World} {tb g ib ic h q : Nat} {p s : Int} {d : Dev} {v : Value} {l : List (Int × Int)} {o : Int}
theorem set_back (l : List (Int × Int)) (k : Nat) (hk : k < l.length) : (l.set k (0, 0)).set k (epo l k, uso l k) = l := by
  rw [List.set_set]
  have : (epo l k, uso l k) = l[k] := by rw [← ep_in l k hk, ← us_in l k hk]
  rw [this, List.set_getElem_self]
set_option maxHeartbeats 3200000 in
theorem terase_arg (t : TpS X w0 W tb g ib ic h q p s d v l o) (i : Int) (hi : i < 0 ∨ (l.length : Int) ≤ i) :
    Calls Tryz.prog 12 #[.pointer (some ⟨tb, 0, none⟩), .int .i64 i] W fun e w' => e = .returned (.int .i64 1) ∧ Kp W w' := by
  have HC := Lib.hid (fun W' (kk : Kp W W') => (t.keep kk).c2)
  have HEP := Lib.hid (fun W' (kk : Kp W W') => cepoch_out W' h q p s l o (t.keep kk).ch i hi)
  have HUS := Lib.hid (fun W' (kk : Kp W W') => cused_out W' h q p s l o (t.keep kk).ch i hi)
  have HER := Lib.hid (fun W' (kk : Kp W W') => cerase_arg W' h q p s l o (t.keep kk).ch i hi)
  clear hi
  go_enter Tryz.func12, Tryz.ntmps12
  go_wp2_with fail
  refine (tready t).mono ?_
  rintro e w1 ⟨rfl, hk1⟩
  obtain ⟨c0, c1⟩ := HC.out _ hk1
  go_wp2_with fail
  have hInh := fun (x v : Value) => (⟨fun h => h _ (hk1.drew), fun h _ _ => h⟩ : (∀ Wz9, (fun W' => Kp W W') Wz9 → x = v) ↔ x = v)
  dsimp only at hInh
  refine wp_region_quietC (C := fun W' => Kp W W') (by kernel_rfl) (by kernel_rfl) (hk1.drew) ?_
  repeat (first | go_big_quiet_step ((intro hW; first | (first | (go_at_call 37; refine (HEP.out _ hW).mono ?_; rintro e w' ⟨rfl, hk9⟩; exact ⟨rfl, hW.trans hk9⟩) | (go_at_call 38; refine (HUS.out _ hW).mono ?_; rintro e w' ⟨rfl, hk9⟩; exact ⟨rfl, hW.trans hk9⟩)) | (with_reducible rfl) | (obtain ⟨c0, c1⟩ := HC.out _ hW; (try go_simp); first | done | with_reducible rfl | exact ⟨rfl, rfl⟩))) | quiet_step ((intro hW; first | (first | (go_at_call 37; refine (HEP.out _ hW).mono ?_; rintro e w' ⟨rfl, hk9⟩; exact ⟨rfl, hW.trans hk9⟩) | (go_at_call 38; refine (HUS.out _ hW).mono ?_; rintro e w' ⟨rfl, hk9⟩; exact ⟨rfl, hW.trans hk9⟩)) | (with_reducible rfl) | (obtain ⟨c0, c1⟩ := HC.out _ hW; (try go_simp); first | done | with_reducible rfl | exact ⟨rfl, rfl⟩))))
  refine wpQuiet_nil ?_
  intro wq hwq
  clear hInh
  obtain ⟨c0, c1⟩ := HC.out _ hwq
  go_wp2_with fail
  refine (HER.out _ hwq).mono ?_
  rintro e w2 ⟨rfl, hk2⟩
  go_wp2_with fail
  go_ret
  exact ⟨rfl, hwq.trans hk2⟩
set_option maxHeartbeats 6400000 in
theorem terase_dev (t : TpS X w0 W tb g ib ic h q p s d v l o) (hrl : d.row.length ≤ 99990) (k : Nat) (hk : k < l.length) (hz : epo l k ≠ 0) (ho : o ≠ k) (d1 : Dev) (c1 : Int) (hd : eraseD p s (l.length : Nat) d k = (d1, c1)) (hc1 : c1 ≠ 0) :
    Calls Tryz.prog 12 #[.pointer (some ⟨tb, 0, none⟩), .int .i64 k] W fun e w' => e = .returned (.int .i64 c1) ∧ ∃ v2, TpS X w0 w' tb g ib ic h q p s d1 v2 l o := by
  have hlen := t.cok.len
  have hR := t.cok.right
  obtain ⟨r1, r2, r3, r4, r5, r6⟩ := id hR
  have hcok : ChOk p s (l.set k (0, 0)) o := ok_put t.cok k hk 0 0 (by omega) (by omega) (by omega) (by omega) o (Or.inl ⟨rfl, Or.inl ho⟩)
  have hln : (l.set k (0, 0)).length = l.length := List.length_set
  have HC := Lib.hid (fun W' (kk : Kp W W') => (t.keep kk).c2)
  have HEP := Lib.hid (fun W' (kk : Kp W W') => cepochK W' h q p s l o (t.keep kk).ch (by omega) k hk)
  have HUS := Lib.hid (fun W' (kk : Kp W W') => cused_in W' h q p s l o (t.keep kk).ch (by omega) k hk)
  have HER := Lib.hid (fun W' (kk : Kp W W') => cerase_ok W' h q p s l o (t.keep kk).ch (by omega) k hk hz ho)
  have HST := Lib.hid (fun W' (kk : Kp W W') W'' (a : ChAt W'' h q p s (l.set k (0, 0)) o) (b : Mv [h, q] W' W'') => (t.keep kk).stepC a b hln hcok)
  have h00 := t.cok.ep0 k
  have h01 := t.cok.ep1 k
  have h02 := t.cok.us0 k
  have h03 := t.cok.us1 k
  have HSET : Hid (∀ W' v2, TpS X w0 W' tb g ib ic h q p s d1 v2 (l.set k (0, 0)) o → Calls Tryz.prog 41 #[.pointer (some ⟨h, 0, none⟩), .int .i64 k, .int .u32 (epo l k), .int .i64 (uso l k)] W' fun x w' => x = .returned (.int .i64 0) ∧ TpS X w0 w' tb g ib ic h q p s d1 v2 l o) := Lib.hid (fun W' v2 tt => by
    have h1 := cset_ok W' h q p s (l.set k (0, 0)) o tt.ch tt.cok.right k (by rw [hln]; exact hk) (epo l k) (uso l k) (by omega) h01 h02 h03 (by rw [epo_set _ _ _ _ hk]; simp)
    rw [set_back l k hk] at h1
    exact h1.mono fun e1 w1 ⟨h2, h3, h4⟩ => ⟨h2, tt.stepC h3 h4 hln.symm t.cok⟩)
  have hcb : (c1 != 0) = true := by simp [hc1]
  clear hc1
  go_enter Tryz.func12, Tryz.ntmps12
  go_wp2_with fail
  refine (tready t).mono ?_
  rintro e w1 ⟨rfl, hk1⟩
  obtain ⟨y0, y1⟩ := HC.out _ hk1
  have HZ := Lib.hid (And.intro hz ho)
  clear hz ho hln h00 h01 h02 h03
  generalize epo l k = ep at *
  generalize uso l k = us at *
  go_wp2_with fail
  have hInh := fun (x v : Value) => (⟨fun h => h _ (hk1.drew), fun h _ _ => h⟩ : (∀ Wz9, (fun W' => Kp W W') Wz9 → x = v) ↔ x = v)
  dsimp only at hInh
  refine wp_region_quietC (C := fun W' => Kp W W') (by kernel_rfl) (by kernel_rfl) (hk1.drew) ?_
  repeat (first | go_big_quiet_step ((intro hW; first | (first | (go_at_call 37; refine (HEP.out _ hW).mono ?_; rintro e w' ⟨rfl, hk9⟩; exact ⟨rfl, hW.trans hk9⟩) | (go_at_call 38; refine (HUS.out _ hW).mono ?_; rintro e w' ⟨rfl, hk9⟩; exact ⟨rfl, hW.trans hk9⟩)) | (with_reducible rfl) | (obtain ⟨y0, y1⟩ := HC.out _ hW; (try go_simp); first | done | with_reducible rfl | exact ⟨rfl, rfl⟩))) | quiet_step ((intro hW; first | (first | (go_at_call 37; refine (HEP.out _ hW).mono ?_; rintro e w' ⟨rfl, hk9⟩; exact ⟨rfl, hW.trans hk9⟩) | (go_at_call 38; refine (HUS.out _ hW).mono ?_; rintro e w' ⟨rfl, hk9⟩; exact ⟨rfl, hW.trans hk9⟩)) | (with_reducible rfl) | (obtain ⟨y0, y1⟩ := HC.out _ hW; (try go_simp); first | done | with_reducible rfl | exact ⟨rfl, rfl⟩))))
  refine wpQuiet_nil ?_
  intro wq hwq
  clear hInh
  obtain ⟨y0, y1⟩ := HC.out _ hwq
  go_wp2_with fail
  refine (HER.out _ hwq).mono ?_
  rintro e w2 ⟨rfl, ha2, hm2⟩
  have t2 := HST.out _ hwq _ ha2 hm2
  obtain ⟨y0, y1⟩ := t2.c2
  have HFE := ferase t2.fl.at_ t2.fl.ok (k : Int)
  rw [List.length_set, hd] at HFE
  have HFE := Lib.hid HFE
  have hok1 : DevOk p s (l.length : Nat) d1 := by
    have := eraseD_ok t.fl.ok (k : Int) hrl
    rw [hd] at this
    exact this
  have HS2 := Lib.hid (fun W'' v2 (a : FlAt W'' g ib ic p s (l.length : Nat) d1 v2) (b : FlMv w2 W'' g ib v v2) => t2.stepF (W' := W'') (v2 := v2) (d2 := d1) (by rw [List.length_set]; exact a) b (by rw [List.length_set]; exact hok1))
  clear ha2 hm2 t2 hd hok1
  go_wp2_with fail
  refine (HFE.out).mono ?_
  rintro e w3 ⟨rfl, v2, hf2, hm2⟩
  have t3 := HS2.out _ _ hf2 hm2
  clear y0 y1
  obtain ⟨y0, y1⟩ := t3.c2
  have HS3 := Lib.hid (HSET.out _ _ t3)
  clear t3 hf2 hm2
  go_wp2_with fail
  refine (HS3.out).mono ?_
  rintro e w4 ⟨rfl, t4⟩
  have T4 := Lib.hid t4
  clear t4
  go_wp2_with fail
  go_ret
  exact ⟨rfl, v2, T4.out⟩
end
end Go.Proofs.YtnhogmheedeeiaaGreat
