/- Merged texts: Tape, Tape2, Tape3, Tape4, TapeRun, TapeRun2. -/
import Derived.Test.YtecelmhiffcaeaaGC
import Derived.Test.YtecelmhiffcaeaaGE
import Derived.Test.YtecelmhiffcaeaaGG
import Derived.Test.YtecelmhiffcaeaaGF
import Derived.Test.YtecelmhiffcaeaaGD
import Derived.Test.YtecelmhiffcaeaaGA
set_option linter.unusedSimpArgs false
set_option linter.unusedVariables false
/- Tapes in memory; the contracts of package tape: ready, next, New, Flush. -/
namespace Go.Proofs.Ytecelmhiffcaeaa
open Go.RowKit
set_option linter.unusedVariables false
set_option maxRecDepth 20000

/-- A tape that a law has made, with its device and its account: all of it is new; some other blocks (X) are as they were. -/
structure TpS (X : List (Nat × Obj)) (w0 W : World) (tb g ib ic h q : Nat) (p s : Int) (d : Dev) (v : Value) (l : List (Int × Int)) (o : Int) : Prop where
  box : Bk W tb 91 [.pointer (some ⟨g, 0, none⟩), .pointer (some ⟨h, 0, none⟩)]
  fl : FlS w0 W g ib ic p s (l.length : Nat) d v
  ch : ChAt W h q p s l o
  cok : ChOk p s l o
  new : w0.heap.size ≤ tb ∧ w0.heap.size ≤ h ∧ w0.heap.size ≤ q
  dj : tb ∉ foot g ib v ∧ h ∉ foot g ib v ∧ q ∉ foot g ib v ∧ tb ≠ h ∧ tb ≠ q
  watch : ∀ y ∈ X, W.heap[y.1]? = some y.2 ∧ y.1 ∉ foot g ib v ∧ y.1 ≠ h ∧ y.1 ≠ q
section
variable {X : List (Nat × Obj)} {w0 W W' : World} {tb g ib ic h q : Nat} {p s : Int} {d d2 : Dev} {v v2 : Value} {l l2 : List (Int × Int)} {o o2 : Int}
theorem TpS.keep (t : TpS X w0 W tb g ib ic h q p s d v l o) (k : Kp W W') : TpS X w0 W' tb g ib ic h q p s d v l o :=
  ⟨t.box.keep k, t.fl.keep k, t.ch.keep k, t.cok, t.new, t.dj, fun y hy => by
    obtain ⟨w1, w2⟩ := t.watch y hy
    exact ⟨(Below.block k y.1 (Array.getElem?_eq_some_iff.1 w1).1).trans w1, w2⟩⟩
theorem foot_new2 {W W' : World} {g ib : Nat} {v v1 : Value} (m : FlMv W W' g ib v v1) (x : Nat) (hx : x ∈ foot g ib v1) : x ∈ foot g ib v ∨ W.heap.size ≤ x := by
  simp only [foot, List.mem_cons, Option.mem_toList] at hx ⊢
  rcases hx with rfl | rfl | hx
  · exact Or.inl (Or.inl rfl)
  · exact Or.inl (Or.inr (Or.inl rfl))
  · rcases m.2 x (by simpa using hx) with h1 | h1
    · exact Or.inl (Or.inr (Or.inr (by simpa using h1)))
    · exact Or.inr h1
/-- The device has moved. -/
theorem TpS.stepF (t : TpS X w0 W tb g ib ic h q p s d v l o) (h' : FlAt W' g ib ic p s (l.length : Nat) d2 v2) (m : FlMv W W' g ib v v2) (ok : DevOk p s (l.length : Nat) d2) : TpS X w0 W' tb g ib ic h q p s d2 v2 l o := by
  obtain ⟨n1, n2, n3, n4, n5⟩ := t.dj
  have no : ∀ x, x ∉ foot g ib v → x < W.heap.size → x ∉ foot g ib v2 := fun x hx hl hy => by
    rcases foot_new2 m x hy with h1 | h1
    · exact hx h1
    · omega
  have hb := t.box
  have hc := t.ch
  refine ⟨hb.mv m.1 n1, t.fl.step h' m ok, hc.mv m.1 n2 n3, t.cok, t.new, ⟨no tb n1 hb.lt, no h n2 hc.box.lt, no q n3 hc.row.lt, n4, n5⟩, fun y hy => ?_⟩
  obtain ⟨w1, w2, w3, w4⟩ := t.watch y hy
  have hlt := (Array.getElem?_eq_some_iff.1 w1).1
  exact ⟨(m.1.block y.1 hlt w2).trans w1, no y.1 w2 hlt, w3, w4⟩
/-- The account has moved. -/
theorem TpS.stepC (t : TpS X w0 W tb g ib ic h q p s d v l o) (h' : ChAt W' h q p s l2 o2) (m : Mv [h, q] W W') (hl : l2.length = l.length) (ok : ChOk p s l2 o2) : TpS X w0 W' tb g ib ic h q p s d v l2 o2 := by
  obtain ⟨n1, n2, n3, n4, n5⟩ := t.dj
  have hf : ∀ x ∈ foot g ib v, x ∉ [h, q] := fun x hx hy => by
    simp at hy
    rcases hy with rfl | rfl
    · exact n2 hx
    · exact n3 hx
  have hkp := Mv.kp t.fl.kp (fun b hb => by simp at hb; have := t.new; rcases hb with rfl | rfl <;> omega) m
  refine ⟨t.box.mv m (by simp; exact ⟨n4, n5⟩), ?_, h', ok, t.new, t.dj, fun y hy => ?_⟩
  · rw [hl]
    exact ⟨t.fl.at_.mv m hf, t.fl.ok, hkp, t.fl.new⟩
  · obtain ⟨w1, w2, w3, w4⟩ := t.watch y hy
    exact ⟨(m.block y.1 (Array.getElem?_eq_some_iff.1 w1).1 (by simp; exact ⟨w3, w4⟩)).trans w1, w2, w3, w4⟩
theorem TpS.c2 (t : TpS X w0 W tb g ib ic h q p s d v l o) : W.cell? ⟨tb, 0, none⟩ = some (.pointer (some ⟨g, 0, none⟩)) ∧ W.cell? ⟨tb, 1, none⟩ = some (.pointer (some ⟨h, 0, none⟩)) := by
  have hb := t.box
  exact ⟨hb.cell 0, hb.cell 1⟩
set_option maxHeartbeats 400000 in
theorem tready (t : TpS X w0 W tb g ib ic h q p s d v l o) : Calls Try.prog 48 #[.pointer (some ⟨tb, 0, none⟩)] W fun e w' => e = .returned (.bool true) ∧ Kp W w' := by
  obtain ⟨c0, c1⟩ := t.c2
  go_enter Try.func48, Try.ntmps48
  go_wp2_with fail
  go_ret
  exact ⟨rfl, Kp.refl _⟩
set_option maxHeartbeats 400000 in
theorem tready_nil (W : World) : Calls Try.prog 48 #[.pointer none] W fun e w' => e = .returned (.bool false) ∧ Kp W w' := by
  go_enter Try.func48, Try.ntmps48
  go_wp2_with fail
  go_ret
  exact ⟨rfl, Kp.refl _⟩
theorem flush_ok (t : TpS X w0 W tb g ib ic h q p s d v l o) : DevOk p s (l.length : Nat) (flushD p d).1 := flushD_ok t.fl.ok
set_option maxHeartbeats 800000 in
theorem tflush (t : TpS X w0 W tb g ib ic h q p s d v l o) : Calls Try.prog 25 #[.pointer (some ⟨tb, 0, none⟩)] W fun e w' => e = .returned (.int .i64 (flushD p d).2) ∧ ∃ v2, TpS X w0 w' tb g ib ic h q p s (flushD p d).1 v2 l o := by
  have HC := Lib.hid (fun W' (k : Kp W W') => (t.keep k).c2)
  have HF := Lib.hid (fun W' (k : Kp W W') => fflush (t.keep k).fl.at_ t.fl.ok)
  have HS := Lib.hid (fun W' (k : Kp W W') W'' v2 a b => (t.keep k).stepF (W' := W'') (v2 := v2) (d2 := (flushD p d).1) a b (flush_ok t))
  generalize flushD p d = fd at *
  obtain ⟨fd, fc⟩ := fd
  go_enter Try.func25, Try.ntmps25
  go_wp2_with fail
  refine (tready t).mono ?_
  rintro e w1 ⟨rfl, hk1⟩
  obtain ⟨c0, c1⟩ := HC.out _ hk1
  go_wp2_with fail
  refine (HF.out _ hk1).mono ?_
  rintro e w2 ⟨rfl, v2, hf2, hm2⟩
  have hres := HS.out _ hk1 _ _ hf2 hm2
  go_wp2_with fail
  go_ret
  exact ⟨rfl, v2, hres⟩
end
theorem head_bytes {p s r : Int} (hR : RightG p s r) (e k : Int) : fbS p s r 1 e k ⟨#[]⟩ = (pageS p 1 e k ⟨#[]⟩, 0) := by
  unfold RightG at hR
  unfold fbS
  rw [if_neg (by omega), if_neg (by omega), if_neg (by show ¬ (p - 15 < ((0 : Nat) : Int)); omega)]
section
variable {X : List (Nat × Obj)} {w0 W : World} {tb g ib ic h q : Nat} {p s : Int} {d : Dev} {v : Value} {l : List (Int × Int)} {o : Int}
set_option maxHeartbeats 3200000 in
theorem tnext_no (t : TpS X w0 W tb g ib ic h q p s d v l o) (hz : frees l l.length = 0 ∨ (0 < frees l l.length ∧ 2147483647 ≤ (nwst l l.length).2)) :
    Calls Try.prog 51 #[.pointer (some ⟨tb, 0, none⟩)] W fun e w' => e = .returned (.int .i64 8) ∧ Kp W w' := by
  obtain ⟨c0, c1⟩ := t.c2
  have hlen := t.cok.len
  have HO := Lib.hid (copen_no W h q p s l o t.ch (by omega) t.cok.ep0 hz)
  clear hz
  go_enter Try.func51, Try.ntmps51
  go_wp2_with fail
  refine (HO.out).mono ?_
  rintro e w1 ⟨rfl, hk1⟩
  go_wp2_with fail
  go_ret
  exact ⟨rfl, hk1⟩
theorem frameH (e k : Int) (h1 : 1 ≤ e) (h2 : e ≤ 2147483647) (w : World) :
    Calls Try.prog 74 #[.iface 84 (.agg #[.int .u32 e, .int .u32 k])] w fun x w' => x = .returned (.tuple #[frv 1 e k ⟨#[]⟩, .int .i64 0]) ∧ Kp w w' := by
  have H := frame_easy (some (.head e k)) trivial (by show (1 : Int) ≤ 2; omega) w
  have he : ofP 1 e k ⟨#[]⟩ = some (.head e k) := by
    unfold ofP
    rw [if_pos ⟨h1, h2⟩, if_pos ⟨rfl, by decide +kernel⟩]
  have hv : frameV (fkOf (some (.head e k))) (faOf (some (.head e k))) (fbOf (some (.head e k))) (fsOf (some (.head e k))) = .tuple #[frv 1 e k ⟨#[]⟩, .int .i64 0] := by
    show frameV 1 e k ⟨#[]⟩ = _
    unfold frameV
    rw [he]
  rw [hv] at H
  exact H
/-- The page of a head. -/
def headP (p e k : Int) : ByteArray := pageS p 1 e k ⟨#[]⟩
theorem headBy {p s r : Int} (hR : RightG p s r) (e k : Int) (he : 0 ≤ e ∧ e ≤ 4294967295) (hk : 0 ≤ k ∧ k ≤ 4294967295) (w : World) :
    Calls Try.prog 49 #[geo p s r, frv 1 e k ⟨#[]⟩] w fun x w' => x = .returned (.tuple #[.string (headP p e k), .int .i64 0]) ∧ Kp w w' := by
  have := fbytes_any p s r 1 e k ⟨#[]⟩ (by decide) he hk w
  rw [head_bytes hR] at this
  exact this
theorem headOk {p s r : Int} (hR : RightG p s r) (e k : Int) (he : 0 ≤ e ∧ e ≤ 4294967295) (hk : 0 ≤ k ∧ k ≤ 4294967295) : PgOk p 1 e k ⟨#[]⟩ := by
  unfold RightG at hR
  exact ⟨by omega, by omega, by omega, by omega, he.1, he.2, hk.1, hk.2, by show ((0 : Nat) : Int) + 15 ≤ p; omega⟩
theorem headP_size {p s r : Int} (hR : RightG p s r) (e k : Int) (he : 0 ≤ e ∧ e ≤ 4294967295) (hk : 0 ≤ k ∧ k ≤ 4294967295) : ((headP p e k).size : Int) = p := pageS_size (headOk hR e k he hk)
/-- What 'next' leaves. -/
def NextPost (X : List (Nat × Obj)) (w0 : World) (tb g ib ic h q : Nat) (p s : Int) (r : Dev × Int) (l2 : List (Int × Int)) (k : Nat) (e : Ending) (w' : World) : Prop :=
  e = .returned (.int .i64 r.2) ∧ ∃ v2, TpS X w0 w' tb g ib ic h q p s r.1 v2 l2 k
set_option maxHeartbeats 6400000 in
theorem tnext_yes (t : TpS X w0 W tb g ib ic h q p s d v l o) (hrl : d.row.length < 100000) (hf : 0 < frees l l.length) (ht : (nwst l l.length).2 < 2147483647) (j : Nat) (hj : 1 ≤ j) (hj2 : j ≤ l.length) (hn : ∀ i, 1 ≤ i → i < j → epo l (nth l i) ≠ 0) (hz : epo l (nth l j) = 0) (k : Nat) (hk : nth l j = k) (hkl : k < l.length) (e : Int) (he : (nwst l l.length).2 + 1 = e) :
    Calls Try.prog 51 #[.pointer (some ⟨tb, 0, none⟩)] W (NextPost X w0 tb g ib ic h q p s (programD p s (l.length : Nat) d ((k : Int) * s) (headP p e k)) (l.set k (e, 0)) k) := by
  obtain ⟨c0, c1⟩ := t.c2
  have hlen := t.cok.len
  have HO := Lib.hid (copen_yes W h q p s l o t.ch (by omega) (by omega) t.cok.ep0 hf ht j hj hj2 hn hz)
  rw [hk, he] at HO
  have htop := nwst_top l l.length
  have he1 : 1 ≤ e := by omega
  have he2 : e ≤ 2147483647 := by omega
  have hR := t.cok.right
  have hcok : ChOk p s (l.set k (e, 0)) (k : Int) := ok_put t.cok k hkl e 0 (by omega) (by omega) (by omega) (by obtain ⟨r1, r2, r3, r4, r5, r6⟩ := id hR; omega) (k : Int) (Or.inr ⟨rfl, by omega⟩)
  have hl2 : (l.set k (e, 0)).length = l.length := List.length_set
  have HFR := Lib.hid (fun w => frameH e (k : Int) he1 he2 w)
  have HBY := Lib.hid (fun w => headBy hR e (k : Int) (by omega) (by omega) w)
  have hsz : (headP p e (k : Int)).size ≤ 9223372036854775807 := by have := headP_size hR e (k : Int) (by omega) (by omega); unfold RightG at hR; omega
  generalize headP p e (k : Int) = hp at *
  have HPG := Lib.hid (fun w => pageK p s (l.length : Nat) (k : Int) 0 hR (by omega) (by omega) (by omega) (by obtain ⟨r1, r2, r3, r4, r5, r6⟩ := id hR; omega) w)
  have q1 : IntKind.u32.wrap (k : Int) = (k : Int) := IntWalk.u32_in _ (by omega)
  have HT := Lib.hid t
  have HT0 := Lib.hid t
  clear hn hz hf ht hk he htop hj hj2
  generalize l.set k (e, 0) = l2 at *
  go_enter Try.func51, Try.ntmps51
  go_wp2_with fail
  refine (HO.out).mono ?_
  rintro e1 w1 ⟨rfl, hc1, hm1⟩
  have t1 := HT.out.stepC hc1 hm1 hl2 hcok
  have HC := Lib.hid (fun W' (kk : Kp w1 W') => (t1.keep kk).c2)
  have HG := Lib.hid (fun W' (kk : Kp w1 W') => cgeom_any W' h q p s l2 k (t1.keep kk).ch)
  rw [hl2] at HG
  have HPR := Lib.hid (fun W' (kk : Kp w1 W') pg => fprogram (t1.keep kk).fl.at_ t1.fl.ok pg hp hsz)
  rw [hl2] at HPR
  have hpg0 : (k : Int) * s + 0 = (k : Int) * s := Int.add_zero _
  rw [hpg0] at HPG
  have T1 := Lib.hid t1
  clear hpg0 c0 c1 hc1 hm1 t1 HT HO
  go_wp2_with fail
  refine (HFR.out _).mono ?_
  rintro e2 w2 ⟨rfl, hk2⟩
  have hkA : Kp w1 (w2.alloc (fob 1 e (k : Int) ⟨#[]⟩)) := hk2.alloc _
  have HFB := Lib.hid (Frk w2 1 e (k : Int) ⟨#[]⟩)
  go_wp2_with fail
  have hInh := fun (x v : Value) => (⟨fun h => h _ ((Kp.refl _).drew), fun h _ _ => h⟩ : (∀ Wz9, (fun W' => Kp (w2.alloc (fob 1 e (k : Int) ⟨#[]⟩)) W') Wz9 → x = v) ↔ x = v)
  dsimp only at hInh
  refine wp_region_quietC (C := fun W' => Kp (w2.alloc (fob 1 e (k : Int) ⟨#[]⟩)) W') (by kernel_rfl) (by kernel_rfl) ((Kp.refl _).drew) ?_
  repeat (first | go_big_quiet_step ((intro hW; first | (first | (go_at_call 47; refine (HG.out _ (hkA.trans hW)).mono ?_; rintro e w' ⟨rfl, hk9⟩; exact ⟨rfl, hW.trans hk9⟩) | (go_at_call 49; refine (HBY.out _).mono ?_; rintro e w' ⟨rfl, hk9⟩; exact ⟨rfl, hW.trans hk9⟩)) | (with_reducible rfl) | (obtain ⟨c0, c1⟩ := HC.out _ (hkA.trans hW); obtain ⟨b0, b1, b2, b3⟩ := HFB.out _ hW; (try go_simp); first | done | with_reducible rfl | exact ⟨rfl, rfl⟩))) | quiet_step ((intro hW; first | (first | (go_at_call 47; refine (HG.out _ (hkA.trans hW)).mono ?_; rintro e w' ⟨rfl, hk9⟩; exact ⟨rfl, hW.trans hk9⟩) | (go_at_call 49; refine (HBY.out _).mono ?_; rintro e w' ⟨rfl, hk9⟩; exact ⟨rfl, hW.trans hk9⟩)) | (with_reducible rfl) | (obtain ⟨c0, c1⟩ := HC.out _ (hkA.trans hW); obtain ⟨b0, b1, b2, b3⟩ := HFB.out _ hW; (try go_simp); first | done | with_reducible rfl | exact ⟨rfl, rfl⟩))))
  refine wpQuiet_nil ?_
  intro wq hwq
  clear hInh
  have hkB := hkA.trans hwq
  obtain ⟨c0, c1⟩ := HC.out _ hkB
  clear hkA hwq hk2 HFB HFR HBY
  go_wp2_with fail
  refine (HG.out _ hkB).mono ?_
  rintro e3 w3 ⟨rfl, hk3⟩
  go_wp2_with fail
  refine (HPG.out _).mono ?_
  rintro e4 w4 ⟨rfl, hk4⟩
  have hkC := (hkB.trans hk3).trans hk4
  clear c0 c1
  obtain ⟨c0, c1⟩ := HC.out _ hkC
  go_wp2_with fail
  refine (HPR.out _ hkC ((k : Int) * s)).mono ?_
  rintro e5 w5 ⟨rfl, v2, hf5, hm5⟩
  have hres := (T1.out.keep hkC).stepF (by rw [hl2]; exact hf5) hm5 (by rw [hl2]; exact programD_ok HT0.out.fl.ok _ _ hrl)
  have HRES := Lib.hid hres
  clear hres hf5 hm5
  go_wp2_with fail
  go_ret
  exact ⟨rfl, v2, HRES.out⟩
/-- What 'Append' leaves. -/
def AppPost (X : List (Nat × Obj)) (w0 : World) (tb g ib ic h q : Nat) (p s : Int) (page c : Int) (d2 : Dev) (l2 : List (Int × Int)) (o2 : Int) (e : Ending) (w' : World) : Prop :=
  e = .returned (.tuple #[.int .i64 page, .int .i64 c]) ∧ ∃ v2, TpS X w0 w' tb g ib ic h q p s d2 v2 l2 o2
section
variable {kd a b : Int} {body : ByteArray}
theorem bytes2 {p s r : Int} (hb : body.size ≤ 9223372036854775807) (ha : 0 ≤ a ∧ a ≤ 4294967295) (hb2 : 0 ≤ b ∧ b ≤ 4294967295) (x : ByteArray) (c : Int) (hf : fbS p s r kd a b body = (x, c)) (w : World) :
    Calls Try.prog 49 #[geo p s r, frv kd a b body] w fun e w' => e = .returned (.tuple #[.string x, .int .i64 c]) ∧ Kp w w' := by
  have := fbytes_any p s r kd a b body hb ha hb2 w
  rw [hf] at this
  exact this
set_option maxHeartbeats 6400000 in
theorem tapp_bad (t : TpS X w0 W tb g ib ic h q p s d v l o) (hb : body.size ≤ 9223372036854775807) (ha : 0 ≤ a ∧ a ≤ 4294967295) (hb2 : 0 ≤ b ∧ b ≤ 4294967295) (x : ByteArray) (c : Int) (hf : fbS p s (l.length : Nat) kd a b body = (x, c)) (hc : c ≠ 0) :
    Calls Try.prog 24 #[.pointer (some ⟨tb, 0, none⟩), frv kd a b body] W (AppPost X w0 tb g ib ic h q p s 0 c d l o) := by
  have HBY := Lib.hid (fun w => bytes2 hb ha hb2 x c hf w)
  have HC := Lib.hid (fun W' (k : Kp W W') => (t.keep k).c2)
  have HRD := Lib.hid (fun W' (k : Kp W W') => tready (t.keep k))
  have HG := Lib.hid (fun W' (kk : Kp W W') => cgeom_any W' h q p s l o (t.keep kk).ch)
  have HFB := Lib.hid (Frk W kd a b body)
  have hcb : (c != 0) = true := by simp [hc]
  clear hf hc
  go_enter Try.func24, Try.ntmps24
  go_wp2_with fail
  have hk0 := Kp.one W (fob kd a b body)
  refine (HRD.out _ hk0).mono ?_
  rintro e1 w1 ⟨rfl, hk1⟩
  have hkA := hk0.trans hk1
  go_wp2_with fail
  have hInh := fun (x v : Value) => (⟨fun h => h _ ((Kp.refl _).drew), fun h _ _ => h⟩ : (∀ Wz9, (fun W' => Kp w1 W') Wz9 → x = v) ↔ x = v)
  dsimp only at hInh
  refine wp_region_quietC (C := fun W' => Kp w1 W') (by kernel_rfl) (by kernel_rfl) ((Kp.refl _).drew) ?_
  repeat (first | go_big_quiet_step ((intro hW; first | (first | (go_at_call 47; refine (HG.out _ (hkA.trans hW)).mono ?_; rintro e w' ⟨rfl, hk9⟩; exact ⟨rfl, hW.trans hk9⟩) | (go_at_call 49; refine (HBY.out _).mono ?_; rintro e w' ⟨rfl, hk9⟩; exact ⟨rfl, hW.trans hk9⟩)) | (with_reducible rfl) | (obtain ⟨c0, c1⟩ := HC.out _ (hkA.trans hW); obtain ⟨b0, b1, b2, b3⟩ := HFB.out _ (hk1.trans hW); (try go_simp); first | done | with_reducible rfl | exact ⟨rfl, rfl⟩))) | quiet_step ((intro hW; first | (first | (go_at_call 47; refine (HG.out _ (hkA.trans hW)).mono ?_; rintro e w' ⟨rfl, hk9⟩; exact ⟨rfl, hW.trans hk9⟩) | (go_at_call 49; refine (HBY.out _).mono ?_; rintro e w' ⟨rfl, hk9⟩; exact ⟨rfl, hW.trans hk9⟩)) | (with_reducible rfl) | (obtain ⟨c0, c1⟩ := HC.out _ (hkA.trans hW); obtain ⟨b0, b1, b2, b3⟩ := HFB.out _ (hk1.trans hW); (try go_simp); first | done | with_reducible rfl | exact ⟨rfl, rfl⟩))))
  refine wpQuiet_nil ?_
  intro wq hwq
  clear hInh
  have hkB := hkA.trans hwq
  go_wp2_with fail
  go_ret2
  exact ⟨rfl, v, t.keep hkB⟩
set_option maxHeartbeats 6400000 in
theorem tapp_full (t : TpS X w0 W tb g ib ic h q p s d v l o) (hb : body.size ≤ 9223372036854775807) (ha : 0 ≤ a ∧ a ≤ 4294967295) (hb2 : 0 ≤ b ∧ b ≤ 4294967295) (x : ByteArray) (hf : fbS p s (l.length : Nat) kd a b body = (x, 0)) (hl0 : leftF s l o = 0) (hz : frees l l.length = 0 ∨ (0 < frees l l.length ∧ 2147483647 ≤ (nwst l l.length).2)) :
    Calls Try.prog 24 #[.pointer (some ⟨tb, 0, none⟩), frv kd a b body] W (AppPost X w0 tb g ib ic h q p s 0 8 d l o) := by
  have HBY := Lib.hid (fun w => bytes2 hb ha hb2 x 0 hf w)
  have HC := Lib.hid (fun W' (k : Kp W W') => (t.keep k).c2)
  have HRD := Lib.hid (fun W' (k : Kp W W') => tready (t.keep k))
  have HG := Lib.hid (fun W' (kk : Kp W W') => cgeom_any W' h q p s l o (t.keep kk).ch)
  have HL := Lib.hid (fun W' (kk : Kp W W') => cleft_any W' h q p s l o (t.keep kk).ch t.cok)
  rw [hl0] at HL
  have HNX := Lib.hid (fun W' (kk : Kp W W') => tnext_no (t.keep kk) hz)
  have HFB := Lib.hid (Frk W kd a b body)
  clear hf hz hl0
  go_enter Try.func24, Try.ntmps24
  go_wp2_with fail
  have hk0 := Kp.one W (fob kd a b body)
  refine (HRD.out _ hk0).mono ?_
  rintro e1 w1 ⟨rfl, hk1⟩
  have hkA := hk0.trans hk1
  go_wp2_with fail
  have hInh := fun (x v : Value) => (⟨fun h => h _ ((Kp.refl _).drew), fun h _ _ => h⟩ : (∀ Wz9, (fun W' => Kp w1 W') Wz9 → x = v) ↔ x = v)
  dsimp only at hInh
  refine wp_region_quietC (C := fun W' => Kp w1 W') (by kernel_rfl) (by kernel_rfl) ((Kp.refl _).drew) ?_
  repeat (first | go_big_quiet_step ((intro hW; first | (first | (go_at_call 47; refine (HG.out _ (hkA.trans hW)).mono ?_; rintro e w' ⟨rfl, hk9⟩; exact ⟨rfl, hW.trans hk9⟩) | (go_at_call 49; refine (HBY.out _).mono ?_; rintro e w' ⟨rfl, hk9⟩; exact ⟨rfl, hW.trans hk9⟩)) | (with_reducible rfl) | (obtain ⟨c0, c1⟩ := HC.out _ (hkA.trans hW); obtain ⟨b0, b1, b2, b3⟩ := HFB.out _ (hk1.trans hW); (try go_simp); first | done | with_reducible rfl | exact ⟨rfl, rfl⟩))) | quiet_step ((intro hW; first | (first | (go_at_call 47; refine (HG.out _ (hkA.trans hW)).mono ?_; rintro e w' ⟨rfl, hk9⟩; exact ⟨rfl, hW.trans hk9⟩) | (go_at_call 49; refine (HBY.out _).mono ?_; rintro e w' ⟨rfl, hk9⟩; exact ⟨rfl, hW.trans hk9⟩)) | (with_reducible rfl) | (obtain ⟨c0, c1⟩ := HC.out _ (hkA.trans hW); obtain ⟨b0, b1, b2, b3⟩ := HFB.out _ (hk1.trans hW); (try go_simp); first | done | with_reducible rfl | exact ⟨rfl, rfl⟩))))
  refine wpQuiet_nil ?_
  intro wq hwq
  clear hInh
  have hkB := hkA.trans hwq
  obtain ⟨c0, c1⟩ := HC.out _ hkB
  go_wp2_with fail
  refine (HL.out _ hkB).mono ?_
  rintro e2 w2 ⟨rfl, hk2⟩
  have hkC := hkB.trans hk2
  go_wp2_with fail
  refine (HNX.out _ hkC).mono ?_
  rintro e3 w3 ⟨rfl, hk3⟩
  go_wp2_with fail
  go_ret2
  exact ⟨rfl, v, t.keep (hkC.trans hk3)⟩
/-- Where the open region has room. -/
def goD (p s : Int) (n : Nat) (d : Dev) (l : List (Int × Int)) (k : Nat) (x : ByteArray) : Dev × Int := programD p s (n : Nat) d ((k : Int) * s + (uso l k + 1)) x
def goPage (s : Int) (l : List (Int × Int)) (k : Nat) (c : Int) : Int := if c = 0 then (k : Int) * s + (uso l k + 1) else 0
set_option maxHeartbeats 6400000 in
theorem tapp_go (t : TpS X w0 W tb g ib ic h q p s d v l o) (hrl : d.row.length < 100000) (hb : body.size ≤ 9223372036854775807) (ha : 0 ≤ a ∧ a ≤ 4294967295) (hb2 : 0 ≤ b ∧ b ≤ 4294967295) (x : ByteArray) (hxs : x.size ≤ 9223372036854775807) (hf : fbS p s (l.length : Nat) kd a b body = (x, 0)) (k : Nat) (ho : o = k) (hk : k < l.length) (hz : uso l k < s - 1) :
    Calls Try.prog 24 #[.pointer (some ⟨tb, 0, none⟩), frv kd a b body] W (AppPost X w0 tb g ib ic h q p s (goPage s l k (goD p s l.length d l k x).2) (goD p s l.length d l k x).2 (goD p s l.length d l k x).1 (l.set k (epo l k, uso l k + 1)) k) := by
  subst ho
  have HBY := Lib.hid (fun w => bytes2 hb ha hb2 x 0 hf w)
  have HC := Lib.hid (fun W' (k : Kp W W') => (t.keep k).c2)
  have HRD := Lib.hid (fun W' (k : Kp W W') => tready (t.keep k))
  have HG := Lib.hid (fun W' (kk : Kp W W') => cgeom_any W' h q p s l k (t.keep kk).ch)
  have HL := Lib.hid (fun W' (kk : Kp W W') => cleft_any W' h q p s l k (t.keep kk).ch t.cok)
  have hlf : leftF s l (k : Int) = s - 1 - uso l k := by unfold leftF; rw [if_neg (by omega)]; simp
  rw [hlf] at HL
  have HTK := Lib.hid (fun W' (kk : Kp W W') => ctake_yes W' h q p s l k (t.keep kk).ch t.cok hk hz)
  have HFB := Lib.hid (Frk W kd a b body)
  have hR := t.cok.right
  have hu0 := t.cok.us0 k
  have hep : 0 < epo l k := by
    rcases t.cok.op with h1 | ⟨m, hm, h1, h2⟩
    · omega
    · have : m = k := by omega
      subst this
      exact h2
  have hcok : ChOk p s (l.set k (epo l k, uso l k + 1)) (k : Int) := ok_put t.cok k hk _ _ (t.cok.ep0 k) (t.cok.ep1 k) (by omega) (by omega) (k : Int) (Or.inr ⟨rfl, hep⟩)
  have hl2 : (l.set k (epo l k, uso l k + 1)).length = l.length := List.length_set
  have HT := Lib.hid t
  have hdl : (s - 1 - uso l k == 0) = false := by simp; omega
  unfold goPage goD
  generalize hpg : (k : Int) * s + (uso l k + 1) = pg at *
  have HPR := Lib.hid (fun W' v' (tt : TpS X w0 W' tb g ib ic h q p s d v' (l.set k (epo l k, uso l k + 1)) k) => fprogram tt.fl.at_ tt.fl.ok pg x hxs)
  rw [hl2] at HPR
  have HOK := Lib.hid (programD_ok t.fl.ok pg x hrl)
  generalize programD p s (l.length : Nat) d pg x = pr at *
  obtain ⟨pd, pc⟩ := pr
  dsimp only at HOK ⊢
  generalize hpv : (if pc = 0 then pg else 0) = pv
  have HPV := Lib.hid hpv
  clear hpv
  generalize l.set k (epo l k, uso l k + 1) = l2 at *
  generalize uso l k = u at *
  clear hf hlf hz hpg hep hu0
  go_enter Try.func24, Try.ntmps24
  go_wp2_with fail
  have hk0 := Kp.one W (fob kd a b body)
  refine (HRD.out _ hk0).mono ?_
  rintro e1 w1 ⟨rfl, hk1⟩
  have hkA := hk0.trans hk1
  go_wp2_with fail
  have hInh := fun (x v : Value) => (⟨fun h => h _ ((Kp.refl _).drew), fun h _ _ => h⟩ : (∀ Wz9, (fun W' => Kp w1 W') Wz9 → x = v) ↔ x = v)
  dsimp only at hInh
  refine wp_region_quietC (C := fun W' => Kp w1 W') (by kernel_rfl) (by kernel_rfl) ((Kp.refl _).drew) ?_
  repeat (first | go_big_quiet_step ((intro hW; first | (first | (go_at_call 47; refine (HG.out _ (hkA.trans hW)).mono ?_; rintro e w' ⟨rfl, hk9⟩; exact ⟨rfl, hW.trans hk9⟩) | (go_at_call 49; refine (HBY.out _).mono ?_; rintro e w' ⟨rfl, hk9⟩; exact ⟨rfl, hW.trans hk9⟩)) | (with_reducible rfl) | (obtain ⟨c0, c1⟩ := HC.out _ (hkA.trans hW); obtain ⟨b0, b1, b2, b3⟩ := HFB.out _ (hk1.trans hW); (try go_simp); first | done | with_reducible rfl | exact ⟨rfl, rfl⟩))) | quiet_step ((intro hW; first | (first | (go_at_call 47; refine (HG.out _ (hkA.trans hW)).mono ?_; rintro e w' ⟨rfl, hk9⟩; exact ⟨rfl, hW.trans hk9⟩) | (go_at_call 49; refine (HBY.out _).mono ?_; rintro e w' ⟨rfl, hk9⟩; exact ⟨rfl, hW.trans hk9⟩)) | (with_reducible rfl) | (obtain ⟨c0, c1⟩ := HC.out _ (hkA.trans hW); obtain ⟨b0, b1, b2, b3⟩ := HFB.out _ (hk1.trans hW); (try go_simp); first | done | with_reducible rfl | exact ⟨rfl, rfl⟩))))
  refine wpQuiet_nil ?_
  intro wq hwq
  clear hInh
  have hkB := hkA.trans hwq
  obtain ⟨c0, c1⟩ := HC.out _ hkB
  go_wp2_with fail
  refine (HL.out _ hkB).mono ?_
  rintro e2 w2 ⟨rfl, hk2⟩
  have hkC := hkB.trans hk2
  clear c0 c1
  obtain ⟨c0, c1⟩ := HC.out _ hkC
  go_wp2_with fail
  refine (HTK.out _ hkC).mono ?_
  rintro e3 w3 ⟨rfl, hc3, hm3⟩
  have t3 := (HT.out.keep hkC).stepC hc3 hm3 hl2 hcok
  have T3 := Lib.hid t3
  clear c0 c1 hc3 hm3
  obtain ⟨c0, c1⟩ := t3.c2
  clear t3
  go_wp2_with fail
  refine (HPR.out _ _ T3.out).mono ?_
  rintro e4 w4 ⟨rfl, v2, hf4, hm4⟩
  have hres := T3.out.stepF (by rw [hl2]; exact hf4) hm4 (by rw [hl2]; exact HOK.out)
  have HRES := Lib.hid hres
  clear hres hf4 hm4
  dsimp only
  by_cases hpc : pc = 0
  · subst hpc
    go_wp2_with fail
    go_ret2
    have h9 : pv = pg := by have h8 := HPV.out; simp at h8; exact h8.symm
    exact ⟨by rw [h9]; rfl, v2, HRES.out⟩
  · have hb9 : (pc != 0) = true := by simp [hpc]
    go_wp2_with fail
    go_ret2
    have h9 : pv = 0 := HPV.out.symm.trans (if_neg hpc)
    exact ⟨by rw [h9]; rfl, v2, HRES.out⟩
end
end
end Go.Proofs.Ytecelmhiffcaeaa
/- The contracts of package tape: Append where a region must be opened; New; a tape that is nil. -/
namespace Go.Proofs.Ytecelmhiffcaeaa
open Go.RowKit
set_option linter.unusedVariables false
set_option maxRecDepth 20000

section
variable {X : List (Nat × Obj)} {w0 W : World} {tb g ib ic h q : Nat} {p s : Int} {d : Dev} {v : Value} {l : List (Int × Int)} {o : Int} {kd a b : Int} {body : ByteArray}
/-- What is asked where a region is opened: the k-th, of epoch e. -/
structure CanOpen (s : Int) (l : List (Int × Int)) (o : Int) (k : Nat) (e : Int) : Prop where
  left : leftF s l o = 0
  free : 0 < frees l l.length
  top : (nwst l l.length).2 < 2147483647
  at_ : ∃ j, 1 ≤ j ∧ j ≤ l.length ∧ (∀ i, 1 ≤ i → i < j → epo l (nth l i) ≠ 0) ∧ epo l (nth l j) = 0 ∧ nth l j = k
  lt : k < l.length
  ep : (nwst l l.length).2 + 1 = e
def opnD (p s : Int) (n : Nat) (d : Dev) (k : Nat) (e : Int) : Dev × Int := programD p s (n : Nat) d ((k : Int) * s) (headP p e k)
theorem tnextK (t : TpS X w0 W tb g ib ic h q p s d v l o) (hrl : d.row.length < 100000) (k : Nat) (e : Int) (c : CanOpen s l o k e) :
    Calls Try.prog 51 #[.pointer (some ⟨tb, 0, none⟩)] W (NextPost X w0 tb g ib ic h q p s (opnD p s l.length d k e) (l.set k (e, 0)) k) := by
  obtain ⟨j, j1, j2, j3, j4, j5⟩ := c.at_
  exact tnext_yes t hrl c.free c.top j j1 j2 j3 j4 k j5 c.lt e c.ep
set_option maxHeartbeats 6400000 in
theorem tapp_open_bad (t : TpS X w0 W tb g ib ic h q p s d v l o) (hrl : d.row.length < 100000) (hb : body.size ≤ 9223372036854775807) (ha : 0 ≤ a ∧ a ≤ 4294967295) (hb2 : 0 ≤ b ∧ b ≤ 4294967295) (x : ByteArray) (hf : fbS p s (l.length : Nat) kd a b body = (x, 0)) (k : Nat) (e : Int) (c : CanOpen s l o k e) (d1 : Dev) (c1 : Int) (hd : opnD p s l.length d k e = (d1, c1)) (hc1 : c1 ≠ 0) :
    Calls Try.prog 24 #[.pointer (some ⟨tb, 0, none⟩), frv kd a b body] W (AppPost X w0 tb g ib ic h q p s 0 c1 d1 (l.set k (e, 0)) k) := by
  have HBY := Lib.hid (fun w => bytes2 hb ha hb2 x 0 hf w)
  have HC := Lib.hid (fun W' (k : Kp W W') => (t.keep k).c2)
  have HRD := Lib.hid (fun W' (k : Kp W W') => tready (t.keep k))
  have HG := Lib.hid (fun W' (kk : Kp W W') => cgeom_any W' h q p s l o (t.keep kk).ch)
  have HL := Lib.hid (fun W' (kk : Kp W W') => cleft_any W' h q p s l o (t.keep kk).ch t.cok)
  rw [c.left] at HL
  have HNX := Lib.hid (fun W' (kk : Kp W W') => tnextK (t.keep kk) hrl k e c)
  rw [hd] at HNX
  have HFB := Lib.hid (Frk W kd a b body)
  have hcb : (c1 != 0) = true := by simp [hc1]
  clear hf c hd hc1
  generalize l.set k (e, 0) = l2 at *
  go_enter Try.func24, Try.ntmps24
  go_wp2_with fail
  have hk0 := Kp.one W (fob kd a b body)
  refine (HRD.out _ hk0).mono ?_
  rintro e1 w1 ⟨rfl, hk1⟩
  have hkA := hk0.trans hk1
  go_wp2_with fail
  have hInh := fun (x v : Value) => (⟨fun h => h _ ((Kp.refl _).drew), fun h _ _ => h⟩ : (∀ Wz9, (fun W' => Kp w1 W') Wz9 → x = v) ↔ x = v)
  dsimp only at hInh
  refine wp_region_quietC (C := fun W' => Kp w1 W') (by kernel_rfl) (by kernel_rfl) ((Kp.refl _).drew) ?_
  repeat (first | go_big_quiet_step ((intro hW; first | (first | (go_at_call 47; refine (HG.out _ (hkA.trans hW)).mono ?_; rintro e w' ⟨rfl, hk9⟩; exact ⟨rfl, hW.trans hk9⟩) | (go_at_call 49; refine (HBY.out _).mono ?_; rintro e w' ⟨rfl, hk9⟩; exact ⟨rfl, hW.trans hk9⟩)) | (with_reducible rfl) | (obtain ⟨c0, c1⟩ := HC.out _ (hkA.trans hW); obtain ⟨b0, b1, b2, b3⟩ := HFB.out _ (hk1.trans hW); (try go_simp); first | done | with_reducible rfl | exact ⟨rfl, rfl⟩))) | quiet_step ((intro hW; first | (first | (go_at_call 47; refine (HG.out _ (hkA.trans hW)).mono ?_; rintro e w' ⟨rfl, hk9⟩; exact ⟨rfl, hW.trans hk9⟩) | (go_at_call 49; refine (HBY.out _).mono ?_; rintro e w' ⟨rfl, hk9⟩; exact ⟨rfl, hW.trans hk9⟩)) | (with_reducible rfl) | (obtain ⟨c0, c1⟩ := HC.out _ (hkA.trans hW); obtain ⟨b0, b1, b2, b3⟩ := HFB.out _ (hk1.trans hW); (try go_simp); first | done | with_reducible rfl | exact ⟨rfl, rfl⟩))))
  refine wpQuiet_nil ?_
  intro wq hwq
  clear hInh
  have hkB := hkA.trans hwq
  obtain ⟨y0, y1⟩ := HC.out _ hkB
  go_wp2_with fail
  refine (HL.out _ hkB).mono ?_
  rintro e2 w2 ⟨rfl, hk2⟩
  have hkC := hkB.trans hk2
  go_wp2_with fail
  refine (HNX.out _ hkC).mono ?_
  rintro e3 w3 ⟨rfl, v2, t3⟩
  have T3 := Lib.hid t3
  clear t3
  dsimp only
  go_wp2_with fail
  go_ret2
  exact ⟨rfl, v2, T3.out⟩
set_option maxHeartbeats 6400000 in
theorem tapp_open_go (t : TpS X w0 W tb g ib ic h q p s d v l o) (hrl : d.row.length < 99999) (hb : body.size ≤ 9223372036854775807) (ha : 0 ≤ a ∧ a ≤ 4294967295) (hb2 : 0 ≤ b ∧ b ≤ 4294967295) (x : ByteArray) (hxs : x.size ≤ 9223372036854775807) (hf : fbS p s (l.length : Nat) kd a b body = (x, 0)) (k : Nat) (e : Int) (c : CanOpen s l o k e) (d1 : Dev) (hd : opnD p s l.length d k e = (d1, 0)) :
    Calls Try.prog 24 #[.pointer (some ⟨tb, 0, none⟩), frv kd a b body] W (AppPost X w0 tb g ib ic h q p s (if (programD p s (l.length : Nat) d1 ((k : Int) * s + 1) x).2 = 0 then (k : Int) * s + 1 else 0) (programD p s (l.length : Nat) d1 ((k : Int) * s + 1) x).2 (programD p s (l.length : Nat) d1 ((k : Int) * s + 1) x).1 (l.set k (e, 1)) k) := by
  have hkl := c.lt
  have htop := nwst_top l l.length
  have he := c.ep
  have he1 : 1 ≤ e := by omega
  have HBY := Lib.hid (fun w => bytes2 hb ha hb2 x 0 hf w)
  have HC := Lib.hid (fun W' (k : Kp W W') => (t.keep k).c2)
  have HRD := Lib.hid (fun W' (k : Kp W W') => tready (t.keep k))
  have HG := Lib.hid (fun W' (kk : Kp W W') => cgeom_any W' h q p s l o (t.keep kk).ch)
  have HL := Lib.hid (fun W' (kk : Kp W W') => cleft_any W' h q p s l o (t.keep kk).ch t.cok)
  rw [c.left] at HL
  have HNX := Lib.hid (fun W' (kk : Kp W W') => tnextK (t.keep kk) (by omega) k e c)
  have hr1 : d1.row.length < 100000 := by
    have h1 := programD_rl (p := p) (s := s) (r := (l.length : Nat)) (d := d) ((k : Int) * s) (headP p e k)
    have h2 : (programD p s (l.length : Nat) d ((k : Int) * s) (headP p e k)).1 = d1 := by
      have : opnD p s l.length d k e = programD p s (l.length : Nat) d ((k : Int) * s) (headP p e k) := rfl
      rw [← this, hd]
    rw [h2] at h1
    omega
  rw [hd] at HNX
  have HFB := Lib.hid (Frk W kd a b body)
  have hR := t.cok.right
  have hl2 : (l.set k (e, 0)).length = l.length := List.length_set
  have hep2 : epo (l.set k (e, 0)) k = e := by rw [epo_set _ _ _ _ hkl, if_pos rfl]
  have hus2 : uso (l.set k (e, 0)) k = 0 := by rw [uso_set _ _ _ _ hkl, if_pos rfl]
  have hset2 : (l.set k (e, 0)).set k (e, 1) = l.set k (e, 1) := List.set_set ..
  have hz : uso (l.set k (e, 0)) k < s - 1 := by rw [hus2]; obtain ⟨r1, r2, r3, r4, r5, r6⟩ := id hR; omega
  have HTK := Lib.hid (fun W' v' (tt : TpS X w0 W' tb g ib ic h q p s d1 v' (l.set k (e, 0)) k) => ctake_yes W' h q p s (l.set k (e, 0)) k tt.ch tt.cok (by rw [hl2]; exact hkl) hz)
  rw [hus2, hep2, show (0 : Int) + 1 = 1 from rfl, hset2] at HTK
  have hcok : ∀ W' v' (tt : TpS X w0 W' tb g ib ic h q p s d1 v' (l.set k (e, 0)) k), ChOk p s (l.set k (e, 1)) (k : Int) := fun W' v' tt => by
    have := ok_put tt.cok k (by rw [hl2]; exact hkl) e 1 (by omega) (by have := tt.cok.ep1 k; rw [hep2] at this; exact this) (by omega) (by obtain ⟨r1, r2, r3, r4, r5, r6⟩ := id hR; omega) (k : Int) (Or.inr ⟨rfl, by omega⟩)
    rw [hset2] at this
    exact this
  have hl3 : (l.set k (e, 1)).length = (l.set k (e, 0)).length := by rw [List.length_set, List.length_set]
  have HSC := Lib.hid (fun W' v' (tt : TpS X w0 W' tb g ib ic h q p s d1 v' (l.set k (e, 0)) k) W'' (a : ChAt W'' h q p s (l.set k (e, 1)) (k : Int)) (m : Mv [h, q] W' W'') => tt.stepC a m hl3 (hcok W' v' tt))
  have hl4 : (l.set k (e, 1)).length = l.length := List.length_set
  generalize hpg : (k : Int) * s + 1 = pg at *
  have HPR := Lib.hid (fun W' v' (tt : TpS X w0 W' tb g ib ic h q p s d1 v' (l.set k (e, 1)) k) => And.intro (programD_ok tt.fl.ok pg x hr1) (fprogram tt.fl.at_ tt.fl.ok pg x hxs))
  rw [hl4] at HPR
  generalize programD p s (l.length : Nat) d1 pg x = pr at *
  obtain ⟨pd, pc⟩ := pr
  dsimp only at HPR ⊢
  generalize hpv : (if pc = 0 then pg else 0) = pv
  have HPV := Lib.hid hpv
  clear hpv
  have HL4 := Lib.hid hl4
  clear hl2 hl3 hep2 hus2 hset2 hz hcok hl4
  generalize l.set k (e, 1) = l3 at *
  generalize l.set k (e, 0) = l2 at *
  clear hf c hd hpg he htop
  go_enter Try.func24, Try.ntmps24
  go_wp2_with fail
  have hk0 := Kp.one W (fob kd a b body)
  refine (HRD.out _ hk0).mono ?_
  rintro e1 w1 ⟨rfl, hk1⟩
  have hkA := hk0.trans hk1
  go_wp2_with fail
  have hInh := fun (x v : Value) => (⟨fun h => h _ ((Kp.refl _).drew), fun h _ _ => h⟩ : (∀ Wz9, (fun W' => Kp w1 W') Wz9 → x = v) ↔ x = v)
  dsimp only at hInh
  refine wp_region_quietC (C := fun W' => Kp w1 W') (by kernel_rfl) (by kernel_rfl) ((Kp.refl _).drew) ?_
  repeat (first | go_big_quiet_step ((intro hW; first | (first | (go_at_call 47; refine (HG.out _ (hkA.trans hW)).mono ?_; rintro e w' ⟨rfl, hk9⟩; exact ⟨rfl, hW.trans hk9⟩) | (go_at_call 49; refine (HBY.out _).mono ?_; rintro e w' ⟨rfl, hk9⟩; exact ⟨rfl, hW.trans hk9⟩)) | (with_reducible rfl) | (obtain ⟨c0, c1⟩ := HC.out _ (hkA.trans hW); obtain ⟨b0, b1, b2, b3⟩ := HFB.out _ (hk1.trans hW); (try go_simp); first | done | with_reducible rfl | exact ⟨rfl, rfl⟩))) | quiet_step ((intro hW; first | (first | (go_at_call 47; refine (HG.out _ (hkA.trans hW)).mono ?_; rintro e w' ⟨rfl, hk9⟩; exact ⟨rfl, hW.trans hk9⟩) | (go_at_call 49; refine (HBY.out _).mono ?_; rintro e w' ⟨rfl, hk9⟩; exact ⟨rfl, hW.trans hk9⟩)) | (with_reducible rfl) | (obtain ⟨c0, c1⟩ := HC.out _ (hkA.trans hW); obtain ⟨b0, b1, b2, b3⟩ := HFB.out _ (hk1.trans hW); (try go_simp); first | done | with_reducible rfl | exact ⟨rfl, rfl⟩))))
  refine wpQuiet_nil ?_
  intro wq hwq
  clear hInh
  have hkB := hkA.trans hwq
  obtain ⟨y0, y1⟩ := HC.out _ hkB
  go_wp2_with fail
  refine (HL.out _ hkB).mono ?_
  rintro e2 w2 ⟨rfl, hk2⟩
  have hkC := hkB.trans hk2
  go_wp2_with fail
  refine (HNX.out _ hkC).mono ?_
  rintro e3 w3 ⟨rfl, v2, t3⟩
  dsimp only at t3
  have T3 := Lib.hid t3
  clear y0 y1
  obtain ⟨y0, y1⟩ := t3.c2
  clear t3
  dsimp only
  go_wp2_with fail
  refine (HTK.out _ _ T3.out).mono ?_
  rintro e4 w4 ⟨rfl, hc4, hm4⟩
  have t4 := HSC.out _ _ T3.out _ hc4 hm4
  have T4 := Lib.hid t4
  clear y0 y1 hc4 hm4
  obtain ⟨y0, y1⟩ := t4.c2
  clear t4
  go_wp2_with fail
  obtain ⟨hok, hpr⟩ := HPR.out _ _ T4.out
  have HOK := Lib.hid hok
  clear hok
  refine (hpr).mono ?_
  rintro e5 w5 ⟨rfl, v3, hf5, hm5⟩
  have hres := T4.out.stepF (by rw [HL4.out]; exact hf5) hm5 (by rw [HL4.out]; exact HOK.out)
  have HRES := Lib.hid hres
  clear hres hf5 hm5
  dsimp only
  by_cases hpc : pc = 0
  · subst hpc
    go_wp2_with fail
    go_ret2
    have h9 : pv = pg := by have h8 := HPV.out; simp at h8; exact h8.symm
    exact ⟨by rw [h9]; rfl, v3, HRES.out⟩
  · have hb9 : (pc != 0) = true := by simp [hpc]
    go_wp2_with fail
    go_ret2
    have h9 : pv = 0 := HPV.out.symm.trans (if_neg hpc)
    exact ⟨by rw [h9]; rfl, v3, HRES.out⟩
end
end Go.Proofs.Ytecelmhiffcaeaa
/- The contract of tape.New; the laws' 'made'. -/
namespace Go.Proofs.Ytecelmhiffcaeaa
open Go.RowKit
set_option linter.unusedVariables false
set_option maxRecDepth 20000

section
variable {W : World} {g ib ic h q : Nat} {p s : Int} {d : Dev} {v : Value} {l : List (Int × Int)} {o : Int}
/-- A new tape. -/
def TNewPost (W : World) (g h : Nat) (e : Ending) (w' : World) : Prop :=
  ∃ tb, e = .returned (.pointer (some ⟨tb, 0, none⟩)) ∧ W.heap.size ≤ tb ∧ Bk w' tb 91 [.pointer (some ⟨g, 0, none⟩), .pointer (some ⟨h, 0, none⟩)] ∧ Kp W w'
set_option maxHeartbeats 1600000 in
theorem tapenew_yes (hf : FlAt W g ib ic p s (l.length : Nat) d v) (hc : ChAt W h q p s l o) :
    Calls Try.prog 21 #[.pointer (some ⟨g, 0, none⟩), .pointer (some ⟨h, 0, none⟩)] W (TNewPost W g h) := by
  have HC := Lib.hid (fun W' (k : Kp W W') => cgeom_any W' h q p s l o (hc.keep k))
  go_enter Try.func21, Try.ntmps21
  go_wp2_with fail
  refine (fgeom hf).mono ?_
  rintro e w1 ⟨rfl, hk1⟩
  go_wp2_with fail
  refine (HC.out _ hk1).mono ?_
  rintro e w2 ⟨rfl, hk2⟩
  have hk := hk1.trans hk2
  have hs := hk.size
  go_wp2_with fail
  go_ret
  exact ⟨_, rfl, hs, Bk.new w2 _ [_, _], hk.alloc _⟩
set_option maxHeartbeats 1600000 in
theorem tapenew_no {p2 s2 : Int} {r : Int} (hf : FlAt W g ib ic p s r d v) (hc : ChAt W h q p2 s2 l o) (hne : ¬ (p = p2 ∧ s = s2 ∧ r = (l.length : Int))) :
    Calls Try.prog 21 #[.pointer (some ⟨g, 0, none⟩), .pointer (some ⟨h, 0, none⟩)] W fun e w' => e = .returned (.pointer none) ∧ Kp W w' := by
  have HC := Lib.hid (fun W' (k : Kp W W') => cgeom_any W' h q p2 s2 l o (hc.keep k))
  have hcases : (p == p2) = false ∨ ((p == p2) = true ∧ (s == s2) = false) ∨ ((p == p2) = true ∧ (s == s2) = true ∧ (r == (l.length : Int)) = false) := by
    rcases hx : (p == p2) with _ | _
    · exact Or.inl rfl
    · rcases hy : (s == s2) with _ | _
      · exact Or.inr (Or.inl ⟨rfl, rfl⟩)
      · rcases hz : (r == (l.length : Int)) with _ | _
        · exact Or.inr (Or.inr ⟨rfl, rfl, rfl⟩)
        · exact absurd ⟨by simpa using hx, by simpa using hy, by simpa using hz⟩ hne
  clear hne
  rcases hcases with h1 | ⟨h1, h2⟩ | ⟨h1, h2, h3⟩
  all_goals
    go_enter Try.func21, Try.ntmps21
    go_wp2_with fail
    refine (fgeom hf).mono ?_
    rintro e w1 ⟨rfl, hk1⟩
    go_wp2_with fail
    refine (HC.out _ hk1).mono ?_
    rintro e w2 ⟨rfl, hk2⟩
    go_wp2_with fail
    go_ret
    exact ⟨rfl, hk1.trans hk2⟩
set_option maxHeartbeats 800000 in
theorem tapenew_nil1 (b : Value) (hb : ∃ a, b = .pointer a) (W : World) : Calls Try.prog 21 #[.pointer none, b] W fun e w' => e = .returned (.pointer none) ∧ Kp W w' := by
  obtain ⟨a, rfl⟩ := hb
  go_enter Try.func21, Try.ntmps21
  go_wp2_with fail
  go_ret
  exact ⟨rfl, Kp.refl _⟩
set_option maxHeartbeats 800000 in
theorem tapenew_nil2 (g : Nat) (W : World) : Calls Try.prog 21 #[.pointer (some ⟨g, 0, none⟩), .pointer none] W fun e w' => e = .returned (.pointer none) ∧ Kp W w' := by
  go_enter Try.func21, Try.ntmps21
  go_wp2_with fail
  go_ret
  exact ⟨rfl, Kp.refl _⟩
end
def pairCells (g h tb rb : Nat) : List Value := [.pointer (some ⟨g, 0, none⟩), .pointer (some ⟨h, 0, none⟩), .pointer (some ⟨tb, 0, none⟩), .pointer (some ⟨rb, 0, none⟩)]
/-! What the operations of 'made' tell. -/
section
variable {w3 : World} {p s : Int} {n : Nat} {gs : List Value}
def RfN (w3 : World) (p s : Int) (n a ab ac : Nat) (W : World) : Prop := RfX W a ab ac p s (n : Nat) (newD p s (n : Nat) ⟨#[]⟩) (.slice none 0 0) ∧ w3.heap.size ≤ a ∧ w3.heap.size ≤ ab
def MF4 (w3 : World) (p s : Int) (n : Nat) : Fact := fun v W => ∃ a ab ac, v = .pointer (some ⟨a, 0, none⟩) ∧ RfN w3 p s n a ab ac W
theorem RfN.keep {a ab ac : Nat} {W W' : World} (h : RfN w3 p s n a ab ac W) (k : Kp W W') : RfN w3 p s n a ab ac W' := ⟨h.1.keep k, h.2⟩
theorem MF4.st : Stable Kp (MF4 w3 p s n) := fun v W W' k ⟨a, ab, ac, h1, h2⟩ => ⟨a, ab, ac, h1, h2.keep k⟩
theorem MF4.mk {a ab ac : Nat} {W : World} (h : RfN w3 p s n a ab ac W) : MF4 w3 p s n (.pointer (some ⟨a, 0, none⟩)) W := ⟨a, ab, ac, rfl, h⟩
end
theorem FlS.base {w0 w1 W : World} {g ib ic : Nat} {p s r : Int} {d : Dev} {v : Value} (h : FlS w1 W g ib ic p s r d v) (k : Kp w0 w1) : FlS w0 W g ib ic p s r d v :=
  ⟨h.at_, h.ok, k.trans h.kp, fun b hb => Nat.le_trans k.size (h.new b hb)⟩
end Go.Proofs.Ytecelmhiffcaeaa
/- alive of tape's laws; TapeRefuses. -/
namespace Go.Proofs.Ytecelmhiffcaeaa
open Go.RowKit
set_option linter.unusedVariables false
set_option maxRecDepth 20000

def aX : ByteArray := ⟨#[120]⟩
abbrev aL : List (Int × Int) := List.replicate 4 (0, 0)
def aD0 : Dev := newD 32 3 ((4 : Nat) : Int) ⟨#[]⟩
def aD1 : Dev := (opnD 32 3 4 aD0 0 1).1
def aB : ByteArray := pageS 32 2 1 0 aX
def aD2 : Dev := (programD 32 3 ((4 : Nat) : Int) aD1 (((0 : Nat) : Int) * 3 + 1) aB).1
theorem a_can : CanOpen 3 aL (-1) 0 1 := ⟨by decide, by decide, by decide, ⟨1, by omega, by decide, fun i h1 h2 => by omega, by decide, by decide⟩, by decide, by decide⟩
theorem a_1 : opnD 32 3 aL.length aD0 0 1 = (aD1, 0) := by
  have h : (opnD 32 3 4 aD0 0 1).2 = 0 := by kernel_rfl
  exact Prod.ext rfl h
theorem a_2 : (programD 32 3 ((4 : Nat) : Int) aD1 (((0 : Nat) : Int) * 3 + 1) aB).2 = 0 := by kernel_rfl
theorem a_3 : readD 32 3 ((4 : Nat) : Int) aD2 0 = (headP 32 1 0, 0) := by kernel_rfl
theorem aR : RightG 32 3 ((4 : Nat) : Int) := by unfold RightG; omega
theorem a_f : fbS 32 3 ((4 : Nat) : Int) 2 1 0 aX = (aB, 0) := by
  have hz : aX.size = 1 := rfl
  unfold fbS
  rw [if_neg (by omega), if_neg (by omega), if_neg (by rw [hz]; omega)]
  rfl
theorem a_app {X : List (Nat × Obj)} {w W : World} {tb g ib ic h q : Nat} {v : Value} (t : TpS X w W tb g ib ic h q 32 3 aD0 v aL (-1)) :
    Calls Try.prog 24 #[.pointer (some ⟨tb, 0, none⟩), frv 2 1 0 aX] W (AppPost X w tb g ib ic h q 32 3 1 0 aD2 (aL.set 0 (1, 1)) (0 : Nat)) := by
  have := tapp_open_go (kd := 2) (a := 1) (b := 0) (body := aX) t (by decide) (by decide) (by omega) (by omega) aB (by decide +kernel) a_f 0 1 a_can aD1 a_1
  have e : (aL.length : Nat) = 4 := rfl
  rw [e, a_2] at this
  exact this
theorem a_read (w : World) : Calls Try.prog 66 #[.string (headP 32 1 0)] w fun e w' => e = .returned (.tuple #[frv 1 1 0 ⟨#[]⟩, .int .i64 0]) ∧ Kp w w' := by
  have h := read_back (headOk aR 1 0 (by omega) (by omega))
  exact readR (headP 32 1 0) (by have := headP_size aR 1 0 (by omega) (by omega); omega) _ _ h.1 w
end Go.Proofs.Ytecelmhiffcaeaa
/- The plain law of a tape over a blank device: what stands there behind each Append. -/
namespace Go.Proofs.Ytecelmhiffcaeaa
open Go.RowKit
set_option linter.unusedVariables false
set_option maxRecDepth 20000

/-- The account when c regions are taken, of which the last one has u frames. -/
def RL (n m c u : Nat) : List (Int × Int) := (List.range n).map fun k => if k + 1 < c then ((k : Int) + 1, (m : Int)) else if k + 1 = c then ((c : Int), (u : Int)) else (0, 0)
theorem RL_len (n m c u : Nat) : (RL n m c u).length = n := by simp [RL]
theorem RL_get (n m c u k : Nat) (h : k < n) : (RL n m c u).getD k (0, 0) = if k + 1 < c then ((k : Int) + 1, (m : Int)) else if k + 1 = c then ((c : Int), (u : Int)) else (0, 0) := by
  unfold RL
  rw [List.getD_eq_getElem?_getD, List.getElem?_map, List.getElem?_range h]
  rfl
theorem RL_epo (n m c u k : Nat) (h : k < n) : epo (RL n m c u) k = if k < c then (k : Int) + 1 else 0 := by
  unfold epo
  rw [RL_get _ _ _ _ _ h]
  split
  · rw [if_pos (by omega)]
  · split
    · rw [if_pos (by omega)]; omega
    · rw [if_neg (by omega)]
theorem RL_uso (n m c u : Nat) (hc : 1 ≤ c) (h : c ≤ n) : uso (RL n m c u) (c - 1) = u := by
  unfold uso
  rw [RL_get _ _ _ _ _ (by omega), if_neg (by omega), if_pos (by omega)]
theorem RL_zero (n m u : Nat) : RL n m 0 u = List.replicate n (0, 0) := by
  apply List.ext_getElem
  · rw [RL_len, List.length_replicate]
  · intro i h1 h2
    simp [RL]
theorem RL_set (n m c u x : Nat) (hc : 1 ≤ c) (h : c ≤ n) : (RL n m c u).set (c - 1) ((c : Int), (x : Int)) = RL n m c x := by
  apply List.ext_getElem
  · rw [List.length_set, RL_len, RL_len]
  · intro i h1 h2
    rw [List.getElem_set]
    simp only [RL, List.getElem_map, List.getElem_range]
    by_cases e : c - 1 = i
    · rw [if_pos e, if_neg (by omega), if_pos (by omega)]
    · rw [if_neg e]
      by_cases e2 : i + 1 < c
      · rw [if_pos e2, if_pos e2]
      · rw [if_neg e2, if_neg e2, if_neg (by omega), if_neg (by omega)]
theorem RL_opn (n m c : Nat) (h : c < n) : (RL n m c m).set c (((c : Int) + 1), 1) = RL n m (c + 1) 1 := by
  apply List.ext_getElem
  · rw [List.length_set, RL_len, RL_len]
  · intro i h1 h2
    rw [List.getElem_set]
    simp only [RL, List.getElem_map, List.getElem_range]
    by_cases e : c = i
    · rw [if_pos e, if_neg (by omega), if_pos (by omega)]
      simp
    · rw [if_neg e]
      by_cases e2 : i + 1 < c
      · rw [if_pos e2, if_pos (by omega)]
      · rw [if_neg e2]
        by_cases e3 : i + 1 = c
        · rw [if_pos e3, if_pos (by omega)]
          congr 1
          omega
        · rw [if_neg e3, if_neg (by omega), if_neg (by omega)]
theorem RL_nwst (n m c u : Nat) : ∀ k, k ≤ n → nwst (RL n m c u) k = (((min k c : Nat) : Int) - 1, ((min k c : Nat) : Int))
  | 0, _ => by simp [nwst]
  | k + 1, h => by
    have ih := RL_nwst n m c u k (by omega)
    unfold nwst
    rw [ih, RL_epo _ _ _ _ _ (by omega)]
    by_cases e : k < c
    · rw [if_pos e, if_pos (by simp only; omega)]
      simp only [Prod.mk.injEq]
      omega
    · rw [if_neg e, if_neg (by simp only; omega)]
      simp only [Prod.mk.injEq]
      omega
theorem frees_pos (l : List (Int × Int)) (k : Nat) (hz : epo l k = 0) : ∀ j, k < j → 0 < frees l j
  | 0, h => by omega
  | j + 1, h => by
    unfold frees
    by_cases e : k = j
    · subst e
      rw [if_pos hz]
      omega
    · have := frees_pos l k hz j (by omega)
      omega
theorem RL_can (s : Int) (n m c : Nat) (h : c < n) (hn : n ≤ 12) (hs : s = (m : Int) + 1) : CanOpen s (RL n m c m) ((c : Int) - 1) c ((c : Int) + 1) := by
  have hw := RL_nwst n m c m n (Nat.le_refl _)
  have hmin : min n c = c := by omega
  rw [hmin] at hw
  have hlen := RL_len n m c m
  refine ⟨?_, ?_, ?_, ⟨1, Nat.le_refl _, by omega, fun i h1 h2 => by omega, ?_, ?_⟩, by omega, ?_⟩
  · unfold leftF
    by_cases hc : c = 0
    · rw [if_pos (by omega)]
    · rw [if_neg (by omega), show ((c : Int) - 1).toNat = c - 1 by omega, RL_uso _ _ _ _ (by omega) (by omega)]
      omega
  · rw [hlen]
    exact frees_pos _ c (by rw [RL_epo _ _ _ _ _ h, if_neg (by omega)]) n h
  · rw [hlen, hw]
    simp only
    omega
  · have : nth (RL n m c m) 1 = c := by
      unfold nth
      rw [hlen, hw]
      simp only
      rw [show (c : Int) - 1 + ((1 : Nat) : Int) = (c : Int) by omega, Int.emod_eq_of_lt (by omega) (by omega)]
      omega
    rw [this, RL_epo _ _ _ _ _ h, if_neg (by omega)]
  · unfold nth
    rw [hlen, hw]
    simp only
    rw [show (c : Int) - 1 + ((1 : Nat) : Int) = (c : Int) by omega, Int.emod_eq_of_lt (by omega) (by omega)]
    omega
  · rw [hlen, hw]
/-! The device: pages 0, 1, .. are written one behind the other; page j has the bytes B j. -/
def runRow (B : Nat → ByteArray) (k : Nat) : Rw := (List.range k).map fun (j : Nat) => ((j : Int), B j)
theorem runRow_succ (B : Nat → ByteArray) (k : Nat) : runRow B (k + 1) = runRow B k ++ [((k : Int), B k)] := by
  unfold runRow
  rw [List.range_succ, List.map_append]
  rfl
theorem runRow_len (B : Nat → ByteArray) (k : Nat) : (runRow B k).length = k := by simp [runRow]
theorem runRow_pend (B : Nat → ByteArray) (pg : Nat) : ∀ k, pend (runRow B k) (pg : Int) = if pg < k then some (B pg) else none
  | 0 => by rw [if_neg (by omega)]; rfl
  | k + 1 => by
    rw [runRow_succ, pend_snoc, runRow_pend B pg k]
    by_cases e : k = pg
    · subst e
      rw [if_pos rfl, if_pos (by omega)]
    · rw [if_neg (by omega)]
      by_cases e2 : pg < k
      · rw [if_pos e2, if_pos (by omega)]
      · rw [if_neg e2, if_neg (by omega)]
/-- How much a fuse has left. -/
def fzLeft (fz : Option Nat) (k : Nat) : Int := match fz with | none => 0 | some N => (N : Int) - k
def runDev (p s n : Int) (B : Nat → ByteArray) (k : Nat) (fz : Option Nat) : Dev := ⟨(newD p s n ⟨#[]⟩).img, runRow B k, false, fz.isSome, fzLeft fz k⟩
def blownDev (p s n : Int) (B : Nat → ByteArray) (k : Nat) : Dev := ⟨(newD p s n ⟨#[]⟩).img, runRow B k, true, false, 0⟩
theorem run_new (p s n : Int) (B : Nat → ByteArray) : newD p s n ⟨#[]⟩ = runDev p s n B 0 none := by
  have e1 : (newD p s n ⟨#[]⟩).row = (runDev p s n B 0 none).row := rfl
  have e2 : (newD p s n ⟨#[]⟩).left = (runDev p s n B 0 none).left := rfl
  rfl
theorem run_fuse (p s n : Int) (B : Nat → ByteArray) (N : Nat) : fuseD (newD p s n ⟨#[]⟩) (N : Int) = runDev p s n B 0 (some N) := by
  have e : decide ((0 : Int) ≤ (N : Int)) = true := by simp
  unfold fuseD runDev
  rw [e]
  have e2 : fzLeft (some N) 0 = (N : Int) := by show (N : Int) - ((0 : Nat) : Int) = N; omega
  rw [e2]
  rfl
section
variable {p s n : Int} {B : Nat → ByteArray} {k : Nat} {fz : Option Nat}
theorem run_prog0 (hR : RightG p s n) (hk : (k : Int) < s * n) (hb : ((B k).size : Int) = p) :
    programD p s n (runDev p s n B k fz) (k : Int) (B k) = ((countD ⟨(newD p s n ⟨#[]⟩).img, runRow B (k + 1), false, fz.isSome, fzLeft fz k⟩).1, if (countD ⟨(newD p s n ⟨#[]⟩).img, runRow B (k + 1), false, fz.isSome, fzLeft fz k⟩).2 = true then 6 else 0) := by
  have h := program_fresh (p := p) (s := s) (r := n) (d := runDev p s n B k fz) (k : Int) (B k) rfl (by omega) hk hb (by
    show pend (runRow B k) _ = none
    rw [runRow_pend, if_neg (by omega)]) (new_img_page p s n hR (k : Int) (by omega) hk)
  have e : runRow B k ++ [((k : Int), B k)] = runRow B (k + 1) := (runRow_succ B k).symm
  have hd : (⟨(runDev p s n B k fz).img, (runDev p s n B k fz).row ++ [((k : Int), B k)], (runDev p s n B k fz).down, (runDev p s n B k fz).set, (runDev p s n B k fz).left⟩ : Dev) = ⟨(newD p s n ⟨#[]⟩).img, runRow B (k + 1), false, fz.isSome, fzLeft fz k⟩ := by
    rw [← e]
    rfl
  rw [hd] at h
  exact h
theorem run_prog (hR : RightG p s n) (hk : (k : Int) < s * n) (hb : ((B k).size : Int) = p) (hf : ∀ N, fz = some N → k < N) :
    programD p s n (runDev p s n B k fz) (k : Int) (B k) = (runDev p s n B (k + 1) fz, 0) := by
  rw [run_prog0 hR hk hb]
  cases fz with
  | none =>
    have e : countD ⟨(newD p s n ⟨#[]⟩).img, runRow B (k + 1), false, (none : Option Nat).isSome, fzLeft none k⟩ = (runDev p s n B (k + 1) none, false) := by
      unfold countD
      exact if_pos rfl
    rw [e]
    rfl
  | some N =>
    have hN := hf N rfl
    have e : countD ⟨(newD p s n ⟨#[]⟩).img, runRow B (k + 1), false, (some N : Option Nat).isSome, fzLeft (some N) k⟩ = (runDev p s n B (k + 1) (some N), false) := by
      unfold countD
      rw [if_neg (by simp), if_neg (by show ¬ ((N : Int) - k = 0); omega)]
      unfold runDev
      congr 2
      show (N : Int) - k - 1 = (N : Int) - ((k + 1 : Nat) : Int)
      omega
    rw [e]
    rfl
theorem run_blow (hR : RightG p s n) (hk : (k : Int) < s * n) (hb : ((B k).size : Int) = p) :
    programD p s n (runDev p s n B k (some k)) (k : Int) (B k) = (blownDev p s n B (k + 1), 6) := by
  rw [run_prog0 hR hk hb]
  have e : countD ⟨(newD p s n ⟨#[]⟩).img, runRow B (k + 1), false, (some k : Option Nat).isSome, fzLeft (some k) k⟩ = (blownDev p s n B (k + 1), true) := by
    have e0 : fzLeft (some k) k = 0 := by show (k : Int) - k = 0; omega
    rw [e0]
    unfold countD
    rw [if_neg (by simp), if_pos rfl]
    rfl
  rw [e]
  rfl
theorem run_read (hR : RightG p s n) (pg : Nat) (hk : (pg : Int) < s * n) (h : pg < k) : readD p s n (runDev p s n B k fz) (pg : Int) = (B pg, 0) := by
  unfold readD
  rw [if_neg (by simp [runDev]), if_neg (by omega)]
  unfold heldD
  show ((pend (runRow B k) (pg : Int)).getD _, _) = _
  rw [runRow_pend, if_pos h]
  rfl
end
end Go.Proofs.Ytecelmhiffcaeaa
/- Append on a tape over a blank device: page by page. -/
namespace Go.Proofs.Ytecelmhiffcaeaa
open Go.RowKit
set_option linter.unusedVariables false
set_option maxRecDepth 20000

section
variable {X : List (Nat × Obj)} {w0 W : World} {tb g ib ic h q : Nat} {p s : Int} {v : Value} {n m c u k : Nat} {B : Nat → ByteArray} {fz : Option Nat} {kd a b : Int} {body : ByteArray}
theorem run_rl : (runDev p s (n : Nat) B k fz).row.length = k := runRow_len B k
theorem slot_in (hs : s = (m : Int) + 1) (hc : 1 ≤ c) (hcn : c ≤ n) (hu : u ≤ m) : (((c - 1) * (m + 1) + u : Nat) : Int) < s * (n : Nat) := by
  have h1 : (c - 1) * (m + 1) + (m + 1) ≤ n * (m + 1) := by
    rw [← Nat.succ_mul]
    exact Nat.mul_le_mul_right _ (by omega)
  rw [hs]
  have h2 : ((m : Int) + 1) * (n : Int) = ((n * (m + 1) : Nat) : Int) := by rw [Int.mul_comm]; simp
  rw [h2]
  omega
theorem slot_c (hs : s = (m : Int) + 1) (c : Nat) (x : Nat) : (c : Int) * s + (x : Int) = ((c * (m + 1) + x : Nat) : Int) := by rw [hs]; simp
/-- The open region has room. -/
theorem trun_go (hs : s = (m : Int) + 1) (t : TpS X w0 W tb g ib ic h q p s (runDev p s (n : Nat) B k fz) v (RL n m c u) ((c : Int) - 1)) (hc : 1 ≤ c) (hcn : c ≤ n) (hu : u < m) (hk : k = (c - 1) * (m + 1) + (u + 1)) (hkb : k < 1000)
    (hb : body.size ≤ 9223372036854775807) (ha : 0 ≤ a ∧ a ≤ 4294967295) (hb2 : 0 ≤ b ∧ b ≤ 4294967295) (hf : fbS p s (n : Nat) kd a b body = (B k, 0)) (hB : ((B k).size : Int) = p) (d2 : Dev) (cd : Int)
    (hpr : programD p s (n : Nat) (runDev p s (n : Nat) B k fz) (k : Int) (B k) = (d2, cd)) :
    Calls Try.prog 24 #[.pointer (some ⟨tb, 0, none⟩), frv kd a b body] W (AppPost X w0 tb g ib ic h q p s (if cd = 0 then (k : Int) else 0) cd d2 (RL n m c (u + 1)) ((c : Int) - 1)) := by
  have hlen := RL_len n m c u
  have hR := t.cok.right
  have hus := RL_uso n m c u hc hcn
  have hep : epo (RL n m c u) (c - 1) = (c : Int) := by rw [RL_epo _ _ _ _ _ (by omega), if_pos (by omega)]; omega
  have ho : (c : Int) - 1 = ((c - 1 : Nat) : Int) := by omega
  have hpg : ((c - 1 : Nat) : Int) * s + (uso (RL n m c u) (c - 1) + 1) = (k : Int) := by
    rw [hus, hk]
    have := slot_c hs (c - 1) (u + 1)
    push_cast at this ⊢
    omega
  have H := tapp_go (o := (c : Int) - 1) t (by rw [run_rl]; omega) hb ha hb2 (B k) (by unfold RightG at hR; omega) (by rw [hlen]; exact hf) (c - 1) ho (by rw [hlen]; omega) (by rw [hus]; omega)
  unfold goPage goD at H
  rw [hpg, hlen, hpr, hep, hus, show (u : Int) + 1 = ((u + 1 : Nat) : Int) by omega, RL_set _ _ _ _ _ hc hcn, ← ho] at H
  exact H
/-- A region is opened; its head blows a fuse. -/
theorem trun_opn1 (hs : s = (m : Int) + 1) (t : TpS X w0 W tb g ib ic h q p s (runDev p s (n : Nat) B k fz) v (RL n m c m) ((c : Int) - 1)) (hcn : c < n) (hk : k = c * (m + 1)) (hkb : k < 1000)
    (hb : body.size ≤ 9223372036854775807) (ha : 0 ≤ a ∧ a ≤ 4294967295) (hb2 : 0 ≤ b ∧ b ≤ 4294967295) (x : ByteArray) (hf : fbS p s (n : Nat) kd a b body = (x, 0)) (hH : B k = headP p ((c : Int) + 1) c) (d1 : Dev) (cd : Int) (hcd : cd ≠ 0)
    (hpr : programD p s (n : Nat) (runDev p s (n : Nat) B k fz) (k : Int) (B k) = (d1, cd)) :
    Calls Try.prog 24 #[.pointer (some ⟨tb, 0, none⟩), frv kd a b body] W (AppPost X w0 tb g ib ic h q p s 0 cd d1 ((RL n m c m).set c ((c : Int) + 1, 0)) (c : Nat)) := by
  have hlen := RL_len n m c m
  have hl := t.cok.len
  have hcan := RL_can s n m c hcn (by omega) hs
  have hpg : (c : Int) * s = (k : Int) := by have := slot_c hs c 0; rw [hk]; push_cast at this ⊢; omega
  have hod : opnD p s (RL n m c m).length (runDev p s (n : Nat) B k fz) c ((c : Int) + 1) = (d1, cd) := by
    unfold opnD
    rw [hlen, hpg, ← hH]
    exact hpr
  exact tapp_open_bad t (by rw [run_rl]; omega) hb ha hb2 x (by rw [hlen]; exact hf) c ((c : Int) + 1) hcan d1 cd hod hcd
/-- A region is opened. -/
theorem trun_opn2 (hs : s = (m : Int) + 1) (t : TpS X w0 W tb g ib ic h q p s (runDev p s (n : Nat) B k fz) v (RL n m c m) ((c : Int) - 1)) (hcn : c < n) (hk : k = c * (m + 1)) (hkb : k < 1000)
    (hb : body.size ≤ 9223372036854775807) (ha : 0 ≤ a ∧ a ≤ 4294967295) (hb2 : 0 ≤ b ∧ b ≤ 4294967295) (hf : fbS p s (n : Nat) kd a b body = (B (k + 1), 0)) (hB : ((B (k + 1)).size : Int) = p) (hH : B k = headP p ((c : Int) + 1) c) (d2 : Dev) (cd : Int)
    (hpr : programD p s (n : Nat) (runDev p s (n : Nat) B k fz) (k : Int) (B k) = (runDev p s (n : Nat) B (k + 1) fz, 0))
    (hpr2 : programD p s (n : Nat) (runDev p s (n : Nat) B (k + 1) fz) ((k + 1 : Nat) : Int) (B (k + 1)) = (d2, cd)) :
    Calls Try.prog 24 #[.pointer (some ⟨tb, 0, none⟩), frv kd a b body] W (AppPost X w0 tb g ib ic h q p s (if cd = 0 then ((k + 1 : Nat) : Int) else 0) cd d2 (RL n m (c + 1) 1) (c : Nat)) := by
  have hlen := RL_len n m c m
  have hl := t.cok.len
  have hR := t.cok.right
  have hcan := RL_can s n m c hcn (by omega) hs
  have hpg : (c : Int) * s = (k : Int) := by have := slot_c hs c 0; rw [hk]; push_cast at this ⊢; omega
  have hod : opnD p s (RL n m c m).length (runDev p s (n : Nat) B k fz) c ((c : Int) + 1) = (runDev p s (n : Nat) B (k + 1) fz, 0) := by
    unfold opnD
    rw [hlen, hpg, ← hH]
    exact hpr
  have H := tapp_open_go t (by rw [run_rl]; omega) hb ha hb2 (B (k + 1)) (by unfold RightG at hR; omega) (by rw [hlen]; exact hf) c ((c : Int) + 1) hcan _ hod
  rw [hlen, hpg, show (k : Int) + 1 = ((k + 1 : Nat) : Int) by omega, hpr2, RL_opn _ _ _ hcn] at H
  exact H
end
end Go.Proofs.Ytecelmhiffcaeaa
