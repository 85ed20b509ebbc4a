/- Merged texts: RTape, RTape2, RTape3, RTape4, Rel4, Rel5, TpBoth, TpMade. -/
import Derived.Test.YtnhogmheedeeiaaGreatGH
import Derived.Test.YtnhogmheedeeiaaGreatGD
import Derived.Test.YtnhogmheedeeiaaGreatGA
import Derived.Deep.DeepCutAuto
import Derived.Deep.CutBlock
set_option linter.unusedSimpArgs false
set_option linter.unusedVariables false
/- The reference's tape in memory; the program's tape beside it. -/
namespace Go.Proofs.YtnhogmheedeeiaaGreat
open Go.RowKit
set_option linter.unusedVariables false
set_option maxRecDepth 20000
/-- The blocks of the reference's tape. -/
def rbl (rb a ab b be bu : Nat) (v : Value) : List Nat := rb :: b :: be :: bu :: foot a ab v
/-- The reference's tape: its struct, its device (it stands for d), its account. -/
structure RT (w0 W : World) (rb a ab ac b be bu : Nat) (p s : Int) (d : Dev) (v : Value) (l : List (Int × Int)) (o : Int) : Prop where
  box : Bk W rb 48 [.pointer (some ⟨a, 0, none⟩), .pointer (some ⟨b, 0, none⟩)]
  fl : ∃ d', RfX W a ab ac p s (l.length : Nat) d' v ∧ DRel d d'
  ok : DevOk p s (l.length : Nat) d
  ch : RcAt W b be bu p s l o
  cok : ChOk p s l o
  new : ∀ x ∈ rbl rb a ab b be bu v, w0.heap.size ≤ x
  dj : (rb ≠ b ∧ rb ≠ be ∧ rb ≠ bu ∧ rb ∉ foot a ab v) ∧ b ∉ foot a ab v ∧ be ∉ foot a ab v ∧ bu ∉ foot a ab v
  kp : Kp w0 W
/-- What a call on it does to memory. -/
def RtMv (W W' : World) (rb a ab b be bu : Nat) (v v' : Value) : Prop := Mv (rbl rb a ab b be bu v) W W' ∧ (∀ k, v'.ownBlock = some k → v.ownBlock = some k ∨ W.heap.size ≤ k)
section
variable {w0 W W' W'' : World} {rb a ab ac b be bu : Nat} {p s : Int} {d d2 : Dev} {v v2 v3 : Value} {l l2 : List (Int × Int)} {o o2 : Int}
theorem RT.keep (t : RT w0 W rb a ab ac b be bu p s d v l o) (k : Kp W W') : RT w0 W' rb a ab ac b be bu p s d v l o := by
  obtain ⟨d', h1, h2⟩ := t.fl
  exact ⟨t.box.keep k, ⟨d', h1.keep k, h2⟩, t.ok, t.ch.keep k, t.cok, t.new, t.dj, t.kp.trans k⟩
theorem RtMv.refl (W : World) (v : Value) : RtMv W W rb a ab b be bu v v := ⟨Mv.refl _, fun k h => Or.inl h⟩
theorem RtMv.of (k : Kp W W') (v : Value) : RtMv W W' rb a ab b be bu v v := ⟨Mv.of k, fun k h => Or.inl h⟩
theorem rbl_new (m : RtMv W W' rb a ab b be bu v v2) (x : Nat) (hx : x ∈ rbl rb a ab b be bu v2) : x ∈ rbl rb a ab b be bu v ∨ W.heap.size ≤ x := by
  simp only [rbl, foot, List.mem_cons, Option.mem_toList] at hx ⊢
  rcases hx with h | h | h | h | h | h | h
  · exact Or.inl (Or.inl h)
  · exact Or.inl (Or.inr (Or.inl h))
  · exact Or.inl (Or.inr (Or.inr (Or.inl h)))
  · exact Or.inl (Or.inr (Or.inr (Or.inr (Or.inl h))))
  · exact Or.inl (Or.inr (Or.inr (Or.inr (Or.inr (Or.inl h)))))
  · exact Or.inl (Or.inr (Or.inr (Or.inr (Or.inr (Or.inr (Or.inl h))))))
  · rcases m.2 x (by simpa using h) with h1 | h1
    · exact Or.inl (Or.inr (Or.inr (Or.inr (Or.inr (Or.inr (Or.inr (by simpa using h1)))))))
    · exact Or.inr h1
theorem RtMv.trans (m : RtMv W W' rb a ab b be bu v v2) (m2 : RtMv W' W'' rb a ab b be bu v2 v3) : RtMv W W'' rb a ab b be bu v v3 := by
  have hs := m.1.size
  refine ⟨⟨m2.1.os.trans m.1.os, m2.1.tape.trans m.1.tape, m2.1.output.trans m.1.output, Nat.le_trans m.1.size m2.1.size, fun x hx hn => ?_⟩, fun k hk => ?_⟩
  · have h2 : x ∉ rbl rb a ab b be bu v2 := fun hm => by
      rcases rbl_new m x hm with h1 | h1
      · exact hn h1
      · omega
    exact (m2.1.block x (by omega) h2).trans (m.1.block x hx hn)
  · rcases m2.2 k hk with h1 | h1
    · exact m.2 k h1
    · exact Or.inr (by omega)
theorem RtMv.kp (m : RtMv W W' rb a ab b be bu v v2) (k : Kp W' W'') : RtMv W W'' rb a ab b be bu v v2 := ⟨m.1.trans (Mv.of k), m.2⟩
/-- A tape whose blocks are as they were. -/
theorem RT.same (t : RT w0 W rb a ab ac b be bu p s d v l o) (hk : Kp w0 W') (h : ∀ x ∈ rbl rb a ab b be bu v, W'.heap[x]? = W.heap[x]?) : RT w0 W' rb a ab ac b be bu p s d v l o := by
  have e1 := h rb (by simp [rbl])
  have e2 := h b (by simp [rbl])
  have e3 := h be (by simp [rbl])
  have e4 := h bu (by simp [rbl])
  have e5 := h a (by simp [rbl, foot])
  have e6 := h ab (by simp [rbl, foot])
  obtain ⟨d', f, hr⟩ := t.fl
  have hch := t.ch
  refine ⟨e1.trans t.box, ⟨d', ⟨e5.trans f.box, f.img.same e6, ?_, f.ne, f.capok, f.vne⟩, hr⟩, t.ok, ⟨e2.trans hch.box, e3.trans hch.er, e4.trans hch.ur, hch.ge, hch.gu, hch.eu⟩, t.cok, t.new, t.dj, hk⟩
  rcases f.own with ⟨hl, h1 | ⟨q, cap, cur, g1, g2, g3, g4⟩⟩
  · exact ⟨hl, Or.inl h1⟩
  · exact ⟨hl, Or.inr ⟨q, cap, cur, g1, g2, (h q (by rw [g1]; simp [rbl, foot, Value.ownBlock])).trans g3, g4⟩⟩
theorem RT.lt (t : RT w0 W rb a ab ac b be bu p s d v l o) : ∀ x ∈ rbl rb a ab b be bu v, x < W.heap.size := by
  intro x hx
  obtain ⟨d', f, hr⟩ := t.fl
  have hch := t.ch
  have hb := t.box
  simp only [rbl, List.mem_cons] at hx
  rcases hx with rfl | rfl | rfl | rfl | hx
  · exact hb.lt
  · exact hch.box.lt
  · exact hch.er.lt
  · exact hch.ur.lt
  · exact f.foot_lt x hx
/-- The device has moved. -/
theorem RT.stepF (t : RT w0 W rb a ab ac b be bu p s d v l o) {d2' : Dev} (h' : RfX W' a ab ac p s (l.length : Nat) d2' v2) (hr : DRel d2 d2') (m : FlMv W W' a ab v v2) (ok : DevOk p s (l.length : Nat) d2) : RT w0 W' rb a ab ac b be bu p s d2 v2 l o ∧ RtMv W W' rb a ab b be bu v v2 := by
  obtain ⟨⟨n1, n2, n3, n4⟩, n5, n6, n7⟩ := t.dj
  have hlt := t.lt
  have hb := t.box
  have hc := t.ch
  have no : ∀ x, x ∉ foot a ab v → x < W.heap.size → x ∉ foot a ab v2 := fun x hx hl hy => by
    rcases foot_new2 m x hy with h1 | h1
    · exact hx h1
    · omega
  have mv : RtMv W W' rb a ab b be bu v v2 := ⟨m.1.sub (fun x hx => by simp [rbl]; exact Or.inr (Or.inr (Or.inr (Or.inr hx)))), m.2⟩
  refine ⟨⟨hb.mv m.1 n4, ⟨d2', h', hr⟩, ok, hc.mv m.1 n5 n6 n7, t.cok, fun x hx => ?_, ⟨⟨n1, n2, n3, no rb n4 (hlt rb (by simp [rbl]))⟩, no b n5 (hlt b (by simp [rbl])), no be n6 (hlt be (by simp [rbl])), no bu n7 (hlt bu (by simp [rbl]))⟩, Mv.kp t.kp t.new mv.1⟩, mv⟩
  rcases rbl_new mv x hx with h1 | h1
  · exact t.new x h1
  · exact Nat.le_trans t.kp.size h1
/-- The account has moved. -/
theorem RT.stepC (t : RT w0 W rb a ab ac b be bu p s d v l o) (h' : RcAt W' b be bu p s l2 o2) (m : Mv [b, be, bu] W W') (hl : l2.length = l.length) (ok : ChOk p s l2 o2) : RT w0 W' rb a ab ac b be bu p s d v l2 o2 ∧ RtMv W W' rb a ab b be bu v v := by
  obtain ⟨⟨n1, n2, n3, n4⟩, n5, n6, n7⟩ := t.dj
  obtain ⟨d', f, hr⟩ := t.fl
  have hb := t.box
  have hf : ∀ x ∈ foot a ab v, x ∉ [b, be, bu] := fun x hx hy => by
    simp at hy
    rcases hy with rfl | rfl | rfl
    · exact n5 hx
    · exact n6 hx
    · exact n7 hx
  have mv : RtMv W W' rb a ab b be bu v v := ⟨m.sub (fun x hx => by simp [rbl] at hx ⊢; rcases hx with h | h | h <;> simp [h]), fun k h => Or.inl h⟩
  exact ⟨⟨hb.mv m (by simp; exact ⟨n1, n2, n3⟩), ⟨d', by rw [hl]; exact f.mv m hf, hr⟩, by rw [hl]; exact t.ok, h', ok, t.new, t.dj, Mv.kp t.kp t.new mv.1⟩, mv⟩
end
/-! Both tapes. -/
/-- What is watched: these blocks as they are. -/
def wl (W : World) (xs : List Nat) : List (Nat × Obj) := xs.filterMap fun x => (W.heap[x]?).map fun ob => (x, ob)
theorem wl_mem {W : World} {xs : List Nat} {x : Nat} {ob : Obj} (h : x ∈ xs) (ho : W.heap[x]? = some ob) : (x, ob) ∈ wl W xs := by
  unfold wl
  exact List.mem_filterMap.2 ⟨x, h, by rw [ho]; rfl⟩
theorem wl_of {W : World} {xs : List Nat} {y : Nat × Obj} (h : y ∈ wl W xs) : y.1 ∈ xs ∧ W.heap[y.1]? = some y.2 := by
  unfold wl at h
  obtain ⟨x, h1, h2⟩ := List.mem_filterMap.1 h
  rcases ho : W.heap[x]? with _ | ob
  · rw [ho] at h2
    cases h2
  · rw [ho] at h2
    injection h2 with h2
    subst h2
    exact ⟨h1, ho⟩
structure TP (w0 W : World) (pb tb g ib ic h q rb a ab ac b be bu : Nat) (p s : Int) (d d2 : Dev) (v v2 : Value) (l l2 : List (Int × Int)) (o o2 : Int) : Prop where
  tp : TpS [(pb, pairOb g h tb rb)] w0 W tb g ib ic h q p s d v l o
  rt : RT w0 W rb a ab ac b be bu p s d2 v2 l2 o2
  dj : ∀ x ∈ rbl rb a ab b be bu v2, x ∉ foot g ib v ∧ x ≠ h ∧ x ≠ q ∧ x ≠ tb ∧ x ≠ pb
section
variable {w0 W W' : World} {pb tb g ib ic h q rb a ab ac b be bu : Nat} {p s : Int} {d d2 d3 : Dev} {v v2 v3 : Value} {l l2 l3 : List (Int × Int)} {o o2 o3 : Int}
theorem TP.keep (t : TP w0 W pb tb g ib ic h q rb a ab ac b be bu p s d d2 v v2 l l2 o o2) (k : Kp W W') : TP w0 W' pb tb g ib ic h q rb a ab ac b be bu p s d d2 v v2 l l2 o o2 := ⟨t.tp.keep k, t.rt.keep k, t.dj⟩
/-- The program's tape, the reference's blocks watched. -/
theorem TP.toP (t : TP w0 W pb tb g ib ic h q rb a ab ac b be bu p s d d2 v v2 l l2 o o2) : TpS ((pb, pairOb g h tb rb) :: wl W (rbl rb a ab b be bu v2)) w0 W tb g ib ic h q p s d v l o := by
  have tt := t.tp
  refine ⟨tt.box, tt.fl, tt.ch, tt.cok, tt.new, tt.dj, fun y hy => ?_⟩
  rcases List.mem_cons.1 hy with rfl | hy
  · exact tt.watch _ (List.mem_singleton.2 rfl)
  · obtain ⟨h1, h2⟩ := wl_of hy
    obtain ⟨k1, k2, k3, k4, k5⟩ := t.dj _ h1
    exact ⟨h2, k1, k2, k3⟩
theorem TP.stepP (t : TP w0 W pb tb g ib ic h q rb a ab ac b be bu p s d d2 v v2 l l2 o o2) (t' : TpS ((pb, pairOb g h tb rb) :: wl W (rbl rb a ab b be bu v2)) w0 W' tb g ib ic h q p s d3 v3 l3 o3) : TP w0 W' pb tb g ib ic h q rb a ab ac b be bu p s d3 d2 v3 v2 l3 l2 o3 o2 := by
  have hw : ∀ x ∈ rbl rb a ab b be bu v2, W'.heap[x]? = W.heap[x]? ∧ x ∉ foot g ib v3 ∧ x ≠ h ∧ x ≠ q := fun x hx => by
    have hlt := t.rt.lt x hx
    have ho : W.heap[x]? = some W.heap[x] := Array.getElem?_eq_getElem hlt
    obtain ⟨k1, k2, k3, k4⟩ := t'.watch _ (List.mem_cons_of_mem _ (wl_mem hx ho))
    exact ⟨k1.trans ho.symm, k2, k3, k4⟩
  refine ⟨⟨t'.box, t'.fl, t'.ch, t'.cok, t'.new, t'.dj, fun y hy => ?_⟩, t.rt.same t'.fl.kp (fun x hx => (hw x hx).1), fun x hx => ?_⟩
  · have : y = (pb, pairOb g h tb rb) := List.mem_singleton.1 hy
    subst this
    exact t'.watch _ (List.mem_cons_self ..)
  · obtain ⟨k1, k2, k3, k4, k5⟩ := t.dj x hx
    obtain ⟨-, m1, m2, m3⟩ := hw x hx
    exact ⟨m1, m2, m3, k4, k5⟩
theorem TP.stepR (t : TP w0 W pb tb g ib ic h q rb a ab ac b be bu p s d d2 v v2 l l2 o o2) (r' : RT w0 W' rb a ab ac b be bu p s d3 v3 l3 o3) (m : RtMv W W' rb a ab b be bu v2 v3) : TP w0 W' pb tb g ib ic h q rb a ab ac b be bu p s d d3 v v3 l l3 o o3 := by
  have tt := t.tp
  have hbox := tt.box
  have hch := tt.ch
  have hfl := tt.fl.at_.foot_lt
  have hpb := tt.watch _ (List.mem_singleton.2 rfl)
  have hplt : pb < W.heap.size := (Array.getElem?_eq_some_iff.1 hpb.1).1
  have n1 : tb ∉ rbl rb a ab b be bu v2 := fun hx => (t.dj _ hx).2.2.2.1 rfl
  have n2 : h ∉ rbl rb a ab b be bu v2 := fun hx => (t.dj _ hx).2.1 rfl
  have n3 : q ∉ rbl rb a ab b be bu v2 := fun hx => (t.dj _ hx).2.2.1 rfl
  have n4 : pb ∉ rbl rb a ab b be bu v2 := fun hx => (t.dj _ hx).2.2.2.2 rfl
  have n5 : ∀ x ∈ foot g ib v, x ∉ rbl rb a ab b be bu v2 := fun x hx hy => (t.dj _ hy).1 hx
  have hkp := Mv.kp tt.fl.kp (fun x hx => t.rt.new x hx) m.1
  refine ⟨⟨hbox.mv m.1 n1, ⟨tt.fl.at_.mv m.1 n5, tt.fl.ok, hkp, tt.fl.new⟩, hch.mv m.1 n2 n3, tt.cok, tt.new, tt.dj, fun y hy => ?_⟩, r', fun x hx => ?_⟩
  · have : y = (pb, pairOb g h tb rb) := List.mem_singleton.1 hy
    subst this
    exact ⟨(m.1.block pb hplt n4).trans hpb.1, hpb.2⟩
  · rcases rbl_new m x hx with h1 | h1
    · exact t.dj x h1
    · have l1 := hch.box.lt
      have l2 := hch.row.lt
      have l3 := hbox.lt
      exact ⟨fun hy => by have := hfl x hy; omega, by omega, by omega, by omega, by omega⟩
end
end Go.Proofs.YtnhogmheedeeiaaGreat
/- The contracts of the reference's tape: Append. -/
namespace Go.Proofs.YtnhogmheedeeiaaGreat
open Go.RowKit
set_option linter.unusedVariables false
set_option maxRecDepth 20000
/-- Worlds ahead of a call that moves memory, and behind it. -/
def StD (A B : World → Prop) (b : Bool) (W : World) : Prop := (b = false → A W) ∧ (b = true → B W)
theorem StD.keep {A B : World → Prop} (hA : ∀ W W', A W → Kp W W' → A W') (hB : ∀ W W', B W → Kp W W' → B W') (b : Bool) (W W' : World) (h : StD A B b W) (k : Kp W W') : StD A B b W' := ⟨fun e => hA _ _ (h.1 e) k, fun e => hB _ _ (h.2 e) k⟩
section
variable {w0 W W' : World} {rb a ab ac b be bu : Nat} {p s : Int} {d : Dev} {v : Value} {l : List (Int × Int)} {o : Int}
theorem RT.cs (t : RT w0 W rb a ab ac b be bu p s d v l o) : W.cell? ⟨rb, 0, none⟩ = some (.pointer (some ⟨a, 0, none⟩)) ∧ W.cell? ⟨rb, 1, none⟩ = some (.pointer (some ⟨b, 0, none⟩)) ∧ W.cell? ⟨a, 0, none⟩ = some (.int .i64 p) ∧ W.cell? ⟨a, 1, none⟩ = some (.int .i64 s) ∧ W.cell? ⟨a, 2, none⟩ = some (.int .i64 (l.length : Nat)) := by
  have hb := t.box
  obtain ⟨d', f, -⟩ := t.fl
  obtain ⟨c0, c1, c2, -⟩ := f.c8
  exact ⟨hb.cell 0, hb.cell 1, c0, c1, c2⟩
/-- What a call of the device leaves. -/
def RdPost (w0 W : World) (rb a ab ac b be bu : Nat) (p s : Int) (v : Value) (l : List (Int × Int)) (o : Int) (r : Dev × Int) (e : Ending) (w' : World) : Prop :=
  e = .returned (.int .i64 r.2) ∧ ∃ v2, RT w0 w' rb a ab ac b be bu p s r.1 v2 l o ∧ RtMv W w' rb a ab b be bu v v2
theorem rt_prog (t : RT w0 W rb a ab ac b be bu p s d v l o) (hrl : d.row.length < 100000) (page : Int) (x : ByteArray) (hx : x.size ≤ 9223372036854775807) :
    Calls Tryz.prog 52 #[.pointer (some ⟨a, 0, none⟩), .int .i64 page, .string x] W (RdPost w0 W rb a ab ac b be bu p s v l o (programD p s (l.length : Nat) d page x)) := by
  obtain ⟨d', f, hr⟩ := t.fl
  refine (rprog_R f hr t.ok page x hx).mono ?_
  rintro e w' ⟨h1, v2, d2, h2, h3, h4⟩
  obtain ⟨a1, a2⟩ := t.stepF h2 h3 h4 (programD_ok t.ok page x hrl)
  exact ⟨h1, v2, a1, a2⟩
theorem rt_flush (t : RT w0 W rb a ab ac b be bu p s d v l o) :
    Calls Tryz.prog 11 #[.pointer (some ⟨a, 0, none⟩)] W (RdPost w0 W rb a ab ac b be bu p s v l o (flushD p d)) := by
  obtain ⟨d', f, hr⟩ := t.fl
  refine (rflush_R f hr t.ok).mono ?_
  rintro e w' ⟨h1, v2, d2, h2, h3, h4⟩
  obtain ⟨a1, a2⟩ := t.stepF h2 h3 h4 (flushD_ok t.ok)
  exact ⟨h1, v2, a1, a2⟩
theorem rt_ferase (t : RT w0 W rb a ab ac b be bu p s d v l o) (hrl : d.row.length ≤ 99990) (region : Int) :
    Calls Tryz.prog 43 #[.pointer (some ⟨a, 0, none⟩), .int .i64 region] W (RdPost w0 W rb a ab ac b be bu p s v l o (eraseD p s (l.length : Nat) d region)) := by
  obtain ⟨d', f, hr⟩ := t.fl
  refine (rerase_R f hr t.ok region).mono ?_
  rintro e w' ⟨h1, v2, d2, h2, h3, h4⟩
  obtain ⟨a1, a2⟩ := t.stepF h2 h3 h4 (eraseD_ok t.ok region hrl)
  exact ⟨h1, v2, a1, a2⟩
theorem rt_fuse (t : RT w0 W rb a ab ac b be bu p s d v l o) (n : Int) (hn : n ≤ 9223372036854775807) :
    Calls Tryz.prog 15 #[.pointer (some ⟨a, 0, none⟩), .int .i64 n] W fun e w' => e = .returned (.tuple #[]) ∧ RT w0 w' rb a ab ac b be bu p s (fuseD d n) v l o ∧ RtMv W w' rb a ab b be bu v v := by
  obtain ⟨d', f, hr⟩ := t.fl
  refine (rfuse f n).mono ?_
  rintro e w' ⟨h1, h2, h3⟩
  exact ⟨h1, t.stepF h2 (rel_fuse hr n hn) h3 (fuseD_ok t.ok n hn)⟩
/-- What 'Append' of the reference leaves. -/
def RAppPost (w0 W : World) (rb a ab ac b be bu : Nat) (p s : Int) (v : Value) (page c : Int) (d2 : Dev) (l2 : List (Int × Int)) (o2 : Int) (e : Ending) (w' : World) : Prop :=
  e = .returned (.tuple #[.int .i64 page, .int .i64 c]) ∧ ∃ v2, RT w0 w' rb a ab ac b be bu p s d2 v2 l2 o2 ∧ RtMv W w' rb a ab b be bu v v2
theorem rby2 {p s r kd fa fb : Int} {body : ByteArray} (hb : body.size ≤ 9223372036854775807) (ha : 0 ≤ fa ∧ fa ≤ 4294967295) (hb2 : 0 ≤ fb ∧ fb ≤ 4294967295) (x : ByteArray) (c : Int) (hf : fbS p s r kd fa fb body = (x, c)) (w : World) :
    Calls Tryz.prog 50 #[geo p s r, frv kd fa fb body] w fun e w' => e = .returned (.tuple #[.string x, .int .i64 c]) ∧ Kp w w' := by
  have := rfbytes_any p s r kd fa fb body hb ha hb2 w
  rw [hf] at this
  exact this
variable {kd fa fb : Int} {body : ByteArray}
set_option maxHeartbeats 3200000 in
theorem rapp_bad (t : RT w0 W rb a ab ac b be bu p s d v l o) (hb : body.size ≤ 9223372036854775807) (ha : 0 ≤ fa ∧ fa ≤ 4294967295) (hb2 : 0 ≤ fb ∧ fb ≤ 4294967295) (x : ByteArray) (c : Int) (hf : fbS p s (l.length : Nat) kd fa fb body = (x, c)) (hc : c ≠ 0) :
    Calls Tryz.prog 17 #[.pointer (some ⟨rb, 0, none⟩), frv kd fa fb body] W (RAppPost w0 W rb a ab ac b be bu p s v 0 c d l o) := by
  have HBY := Lib.hid (fun w => rby2 hb ha hb2 x c hf w)
  have HC := Lib.hid (fun W' (k : Kp W W') => (t.keep k).cs)
  have HFB := Lib.hid (Frk W kd fa fb body)
  have hcb : (c != 0) = true := by simp [hc]
  clear hf hc
  go_enter Tryz.func17, Tryz.ntmps17
  go_wp2_with fail
  have hk0 := Kp.one W (fob kd fa fb body)
  have hInh := fun (x v : Value) => (⟨fun h => h _ ((Kp.refl _).drew), fun h _ _ => h⟩ : (∀ Wz9, (fun W' => Kp (W.alloc (fob kd fa fb body)) W') Wz9 → x = v) ↔ x = v)
  dsimp only at hInh
  refine wp_region_quietC (C := fun W' => Kp (W.alloc (fob kd fa fb body)) W') (by kernel_rfl) (by kernel_rfl) ((Kp.refl _).drew) ?_
  repeat (first | go_big_quiet_step ((intro hW; first | (go_at_call 50; refine (HBY.out _).mono ?_; rintro e w' ⟨rfl, hk9⟩; exact ⟨rfl, hW.trans hk9⟩) | (with_reducible rfl) | (obtain ⟨c0, c1, g0, g1, g2⟩ := HC.out _ (hk0.trans hW); obtain ⟨b0, b1, b2, b3⟩ := HFB.out _ hW; (try go_simp); first | done | with_reducible rfl | exact ⟨rfl, rfl⟩))) | quiet_step ((intro hW; first | (go_at_call 50; refine (HBY.out _).mono ?_; rintro e w' ⟨rfl, hk9⟩; exact ⟨rfl, hW.trans hk9⟩) | (with_reducible rfl) | (obtain ⟨c0, c1, g0, g1, g2⟩ := HC.out _ (hk0.trans hW); obtain ⟨b0, b1, b2, b3⟩ := HFB.out _ hW; (try go_simp); first | done | with_reducible rfl | exact ⟨rfl, rfl⟩))))
  refine wpQuiet_nil ?_
  intro wq hwq
  clear hInh
  have hkB := hk0.trans hwq
  go_wp2_with fail
  go_ret2
  exact ⟨rfl, v, t.keep hkB, RtMv.of hkB v⟩
set_option maxHeartbeats 3200000 in
theorem rapp_full (t : RT w0 W rb a ab ac b be bu p s d v l o) (hb : body.size ≤ 9223372036854775807) (ha : 0 ≤ fa ∧ fa ≤ 4294967295) (hb2 : 0 ≤ fb ∧ fb ≤ 4294967295) (x : ByteArray) (hf : fbS p s (l.length : Nat) kd fa fb body = (x, 0)) (hl0 : leftF s l o = 0) (hz : frees l l.length = 0 ∨ (0 < frees l l.length ∧ 2147483647 ≤ (nwst l l.length).2)) :
    Calls Tryz.prog 17 #[.pointer (some ⟨rb, 0, none⟩), frv kd fa fb body] W (RAppPost w0 W rb a ab ac b be bu p s v 0 8 d l o) := by
  have HBY := Lib.hid (fun w => rby2 hb ha hb2 x 0 hf w)
  have HC := Lib.hid (fun W' (k : Kp W W') => (t.keep k).cs)
  have HL := Lib.hid (fun W' (kk : Kp W W') => rleft_any W' b be bu p s l o (t.keep kk).ch t.cok)
  rw [hl0] at HL
  have HNX := Lib.hid (fun W' (kk : Kp W W') => ropen_no W' b be bu p s l o (t.keep kk).ch t.cok hz)
  have HFB := Lib.hid (Frk W kd fa fb body)
  clear hf hz hl0
  go_enter Tryz.func17, Tryz.ntmps17
  go_wp2_with fail
  have hk0 := Kp.one W (fob kd fa fb body)
  have hInh := fun (x v : Value) => (⟨fun h => h _ ((Kp.refl _).drew), fun h _ _ => h⟩ : (∀ Wz9, (fun W' => Kp (W.alloc (fob kd fa fb body)) W') Wz9 → x = v) ↔ x = v)
  dsimp only at hInh
  refine wp_region_quietC (C := fun W' => Kp (W.alloc (fob kd fa fb body)) W') (by kernel_rfl) (by kernel_rfl) ((Kp.refl _).drew) ?_
  repeat (first | go_big_quiet_step ((intro hW; first | (go_at_call 50; refine (HBY.out _).mono ?_; rintro e w' ⟨rfl, hk9⟩; exact ⟨rfl, hW.trans hk9⟩) | (with_reducible rfl) | (obtain ⟨c0, c1, g0, g1, g2⟩ := HC.out _ (hk0.trans hW); obtain ⟨b0, b1, b2, b3⟩ := HFB.out _ hW; (try go_simp); first | done | with_reducible rfl | exact ⟨rfl, rfl⟩))) | quiet_step ((intro hW; first | (go_at_call 50; refine (HBY.out _).mono ?_; rintro e w' ⟨rfl, hk9⟩; exact ⟨rfl, hW.trans hk9⟩) | (with_reducible rfl) | (obtain ⟨c0, c1, g0, g1, g2⟩ := HC.out _ (hk0.trans hW); obtain ⟨b0, b1, b2, b3⟩ := HFB.out _ hW; (try go_simp); first | done | with_reducible rfl | exact ⟨rfl, rfl⟩))))
  refine wpQuiet_nil ?_
  intro wq hwq
  clear hInh
  have hkB := hk0.trans hwq
  obtain ⟨c0, c1, g0, g1, g2⟩ := HC.out _ hkB
  go_wp2_with fail
  refine (HL.out _ hkB).mono ?_
  rintro e2 w2 ⟨rfl, hk2⟩
  have hkC := hkB.trans hk2
  clear c0 c1 g0 g1 g2
  obtain ⟨c0, c1, g0, g1, g2⟩ := HC.out _ hkC
  go_wp2_with fail
  refine (HNX.out _ hkC).mono ?_
  rintro e3 w3 ⟨rfl, hk3⟩
  have hkD := hkC.trans hk3
  go_wp2_with fail
  go_ret2
  exact ⟨rfl, v, t.keep hkD, RtMv.of hkD v⟩
set_option maxHeartbeats 6400000 in
theorem rapp_go (t : RT w0 W rb a ab ac b be bu p s d v l o) (hrl : d.row.length < 100000) (hb : body.size ≤ 9223372036854775807) (ha : 0 ≤ fa ∧ fa ≤ 4294967295) (hb2 : 0 ≤ fb ∧ fb ≤ 4294967295) (x : ByteArray) (hxs : x.size ≤ 9223372036854775807) (hf : fbS p s (l.length : Nat) kd fa fb body = (x, 0)) (k : Nat) (ho : o = k) (hk : k < l.length) (hz : uso l k < s - 1) :
    Calls Tryz.prog 17 #[.pointer (some ⟨rb, 0, none⟩), frv kd fa fb body] W (RAppPost w0 W rb a ab ac b be bu p s v (goPage s l k (goD p s l.length d l k x).2) (goD p s l.length d l k x).2 (goD p s l.length d l k x).1 (l.set k (epo l k, uso l k + 1)) k) := by
  subst ho
  have HBY := Lib.hid (fun w => rby2 hb ha hb2 x 0 hf w)
  have HC := Lib.hid (fun W' (k : Kp W W') => (t.keep k).cs)
  have HL := Lib.hid (fun W' (kk : Kp W W') => rleft_any W' b be bu p s l k (t.keep kk).ch t.cok)
  have hlf : leftF s l (k : Int) = s - 1 - uso l k := by unfold leftF; rw [if_neg (by omega)]; simp
  rw [hlf] at HL
  have HTK := Lib.hid (fun W' (kk : Kp W W') => rtake_yes W' b be bu p s l k (t.keep kk).ch t.cok hk hz)
  have HFB := Lib.hid (Frk W kd fa fb body)
  have hu0 := t.cok.us0 k
  have hep : 0 < epo l k := by
    rcases t.cok.op with h1 | ⟨m, hm, h1, h2⟩
    · omega
    · have : m = k := by omega
      subst this
      exact h2
  have hcok : ChOk p s (l.set k (epo l k, uso l k + 1)) (k : Int) := ok_put t.cok k hk _ _ (t.cok.ep0 k) (t.cok.ep1 k) (by omega) (by omega) (k : Int) (Or.inr ⟨rfl, hep⟩)
  have hl2 : (l.set k (epo l k, uso l k + 1)).length = l.length := List.length_set
  have HST := Lib.hid (fun W' (kk : Kp W W') W'' (h1 : RcAt W'' b be bu p s (l.set k (epo l k, uso l k + 1)) k) (m : Mv [b, be, bu] W' W'') => (t.keep kk).stepC h1 m hl2 hcok)
  have hdl : (s - 1 - uso l k == 0) = false := by simp; omega
  unfold goPage goD
  generalize hpg : (k : Int) * s + (uso l k + 1) = pg at *
  have HPR := Lib.hid (fun W' (tt : RT w0 W' rb a ab ac b be bu p s d v (l.set k (epo l k, uso l k + 1)) k) => rt_prog tt hrl pg x hxs)
  rw [hl2] at HPR
  generalize programD p s (l.length : Nat) d pg x = pr at *
  obtain ⟨pd, pc⟩ := pr
  unfold RdPost at HPR
  dsimp only at HPR ⊢
  generalize hpv : (if pc = 0 then pg else 0) = pv
  have HPV := Lib.hid hpv
  clear hpv
  generalize l.set k (epo l k, uso l k + 1) = l2 at *
  generalize uso l k = u at *
  clear hf hlf hz hpg hep hu0 hl2
  go_enter Tryz.func17, Tryz.ntmps17
  go_wp2_with fail
  have hk0 := Kp.one W (fob kd fa fb body)
  have hInh := fun (x v : Value) => (⟨fun h => h _ ((Kp.refl _).drew), fun h _ _ => h⟩ : (∀ Wz9, (fun W' => Kp (W.alloc (fob kd fa fb body)) W') Wz9 → x = v) ↔ x = v)
  dsimp only at hInh
  refine wp_region_quietC (C := fun W' => Kp (W.alloc (fob kd fa fb body)) W') (by kernel_rfl) (by kernel_rfl) ((Kp.refl _).drew) ?_
  repeat (first | go_big_quiet_step ((intro hW; first | (go_at_call 50; refine (HBY.out _).mono ?_; rintro e w' ⟨rfl, hk9⟩; exact ⟨rfl, hW.trans hk9⟩) | (with_reducible rfl) | (obtain ⟨c0, c1, g0, g1, g2⟩ := HC.out _ (hk0.trans hW); obtain ⟨b0, b1, b2, b3⟩ := HFB.out _ hW; (try go_simp); first | done | with_reducible rfl | exact ⟨rfl, rfl⟩))) | quiet_step ((intro hW; first | (go_at_call 50; refine (HBY.out _).mono ?_; rintro e w' ⟨rfl, hk9⟩; exact ⟨rfl, hW.trans hk9⟩) | (with_reducible rfl) | (obtain ⟨c0, c1, g0, g1, g2⟩ := HC.out _ (hk0.trans hW); obtain ⟨b0, b1, b2, b3⟩ := HFB.out _ hW; (try go_simp); first | done | with_reducible rfl | exact ⟨rfl, rfl⟩))))
  refine wpQuiet_nil ?_
  intro wq hwq
  clear hInh
  have hkB := hk0.trans hwq
  obtain ⟨c0, c1, g0, g1, g2⟩ := HC.out _ hkB
  go_wp2_with fail
  refine (HL.out _ hkB).mono ?_
  rintro e2 w2 ⟨rfl, hk2⟩
  have hkC := hkB.trans hk2
  clear c0 c1 g0 g1 g2
  obtain ⟨c0, c1, g0, g1, g2⟩ := HC.out _ hkC
  go_wp2_with fail
  refine (HTK.out _ hkC).mono ?_
  rintro e3 w3 ⟨rfl, hr3, hm3⟩
  obtain ⟨t3, m3⟩ := HST.out _ hkC _ hr3 hm3
  have T3 := Lib.hid t3
  have M3 := Lib.hid m3
  clear hr3 hm3 m3 c0 c1 g0 g1 g2
  obtain ⟨c0, c1, g0, g1, g2⟩ := t3.cs
  have HP3 := Lib.hid (HPR.out _ t3)
  clear t3
  go_wp2_with fail
  refine (HP3.out).mono ?_
  rintro e4 w4 ⟨rfl, v4, t4, m4⟩
  have hm := ((RtMv.of hkC v).trans M3.out).trans m4
  have T4 := Lib.hid (show RT w0 w4 rb a ab ac b be bu p s pd v4 l2 k ∧ RtMv W w4 rb a ab b be bu v v4 from ⟨t4, hm⟩)
  clear t4 m4 hm
  by_cases hpc : pc = 0
  · subst hpc
    have := HPV.out
    rw [if_pos rfl] at this
    subst this
    go_wp2_with fail
    go_ret2
    exact ⟨rfl, v4, T4.out⟩
  · have hcb : (pc != 0) = true := by simp [hpc]
    have := HPV.out
    rw [if_neg hpc] at this
    subst this
    clear hpc
    go_wp2_with fail
    go_ret2
    exact ⟨rfl, v4, T4.out⟩
end
end Go.Proofs.YtnhogmheedeeiaaGreat
/- The contracts of the reference's tape: Append where a region is opened. -/
namespace Go.Proofs.YtnhogmheedeeiaaGreat
open Go.RowKit
set_option linter.unusedVariables false
set_option maxRecDepth 20000
section
variable {w0 W W' : World} {rb a ab ac b be bu : Nat} {p s : Int} {d : Dev} {v : Value} {l : List (Int × Int)} {o : Int} {kd fa fb : Int} {body : ByteArray}
/-- The worlds ahead of the head's Program, and behind it. -/
def OpA (w0 Wi : World) (rb a ab ac b be bu : Nat) (p s : Int) (d : Dev) (v : Value) (l : List (Int × Int)) (k : Nat) (W : World) : Prop := RT w0 W rb a ab ac b be bu p s d v l k ∧ RtMv Wi W rb a ab b be bu v v
def OpB (w0 Wi : World) (rb a ab ac b be bu : Nat) (p s : Int) (d : Dev) (v : Value) (l : List (Int × Int)) (k : Nat) (W : World) : Prop := ∃ v2, RT w0 W rb a ab ac b be bu p s d v2 l k ∧ RtMv Wi W rb a ab b be bu v v2
set_option maxHeartbeats 12800000 in
theorem rapp_open (t : RT w0 W rb a ab ac b be bu p s d v l o) (hrl : d.row.length < 99999) (hb : body.size ≤ 9223372036854775807) (ha : 0 ≤ fa ∧ fa ≤ 4294967295) (hb2 : 0 ≤ fb ∧ fb ≤ 4294967295) (x : ByteArray) (hxs : x.size ≤ 9223372036854775807) (hf : fbS p s (l.length : Nat) kd fa fb body = (x, 0)) (k : Nat) (e : Int) (c : CanOpen s l o k e) (d1 : Dev) (c1 : Int) (hd : opnD p s l.length d k e = (d1, c1)) (hrl1 : d1.row.length < 100000) :
    Calls Tryz.prog 17 #[.pointer (some ⟨rb, 0, none⟩), frv kd fa fb body] W fun e' w' =>
      (c1 ≠ 0 → RAppPost w0 W rb a ab ac b be bu p s v 0 c1 d1 (l.set k (e, 0)) k e' w') ∧
      (c1 = 0 → RAppPost w0 W rb a ab ac b be bu p s v (if (programD p s (l.length : Nat) d1 ((k : Int) * s + 1) x).2 = 0 then (k : Int) * s + 1 else 0) (programD p s (l.length : Nat) d1 ((k : Int) * s + 1) x).2 (programD p s (l.length : Nat) d1 ((k : Int) * s + 1) x).1 (l.set k (e, 1)) k e' w') := by
  have HBY := Lib.hid (fun w => rby2 hb ha hb2 x 0 hf w)
  have HC := Lib.hid (fun W' (k : Kp W W') => (t.keep k).cs)
  have HL := Lib.hid (fun W' (kk : Kp W W') => rleft_any W' b be bu p s l o (t.keep kk).ch t.cok)
  rw [c.left] at HL
  have HFB := Lib.hid (Frk W kd fa fb body)
  have hlen := t.cok.len
  have hR := t.cok.right
  obtain ⟨r1, r2, r3, r4, r5, r6⟩ := id hR
  have hkl := c.lt
  have htop := nwst_top l l.length
  have hep := c.ep
  have hetop := c.top
  have he1 : 1 ≤ e := by omega
  have he2 : e ≤ 2147483647 := by omega
  have HOP : Hid (∀ W' (kk : Kp W W'), Calls Tryz.prog 51 #[.pointer (some ⟨b, 0, none⟩)] W' fun e1 w' => e1 = .returned (.tuple #[.int .i64 (k : Nat), .int .u32 e, .bool true]) ∧ RcAt w' b be bu p s (l.set k (e, 0)) (k : Nat) ∧ Mv [b, be, bu] W' w') := Lib.hid (fun W' kk => by
    obtain ⟨j, j1, j2, j3, j4, j5⟩ := c.at_
    have := ropen_yes W' b be bu p s l o (t.keep kk).ch t.cok c.free c.top j j1 j2 j3 j4
    rw [j5, hep] at this
    exact this)
  have hcok : ChOk p s (l.set k (e, 0)) (k : Int) := ok_put t.cok k hkl e 0 (by omega) (by omega) (by omega) (by omega) (k : Int) (Or.inr ⟨rfl, by omega⟩)
  have hl2 : (l.set k (e, 0)).length = l.length := List.length_set
  have HST := Lib.hid (fun W' (kk : Kp W W') W'' (h1 : RcAt W'' b be bu p s (l.set k (e, 0)) k) (m : Mv [b, be, bu] W' W'') => (t.keep kk).stepC h1 m hl2 hcok)
  have HH := Lib.hid (fun w => rby2 (kd := 1) (fa := e) (fb := (k : Int)) (body := ⟨#[]⟩) (p := p) (s := s) (r := (l.length : Nat)) (by decide) ⟨by omega, by omega⟩ ⟨by omega, by omega⟩ (headP p e k) 0 (head_bytes hR e k) w)
  have hhs : (headP p e (k : Int)).size ≤ 9223372036854775807 := by have := headP_size hR e (k : Int) (by omega) (by omega); omega
  unfold opnD at hd
  have HPR : Hid (∀ W', OpA w0 W rb a ab ac b be bu p s d v (l.set k (e, 0)) k W' → Calls Tryz.prog 52 #[.pointer (some ⟨a, 0, none⟩), .int .i64 ((k : Int) * s), .string (headP p e k)] W' fun e1 w' => e1 = .returned (.int .i64 c1) ∧ OpB w0 W rb a ab ac b be bu p s d1 v (l.set k (e, 0)) k w') := Lib.hid (fun W' ⟨tt, mm⟩ => by
    have := rt_prog tt (by omega) ((k : Int) * s) (headP p e k) hhs
    rw [hl2, hd] at this
    exact this.mono fun e1 w1 ⟨h1, v2, h2, h3⟩ => ⟨h1, v2, h2, mm.trans h3⟩)
  generalize headP p e (k : Int) = hp at *
  -- behind the head
  have hep2 : epo (l.set k (e, 0)) k = e := by rw [epo_set _ _ _ _ hkl]; simp
  have hus2 : uso (l.set k (e, 0)) k = 0 := by rw [uso_set _ _ _ _ hkl]; simp
  have HTK : Hid (∀ W' v2, RT w0 W' rb a ab ac b be bu p s d1 v2 (l.set k (e, 0)) k → Calls Tryz.prog 53 #[.pointer (some ⟨b, 0, none⟩)] W' fun e1 w' => e1 = .returned (.tuple #[.int .i64 ((k : Int) * s + 1), .bool true]) ∧ RT w0 w' rb a ab ac b be bu p s d1 v2 (l.set k (e, 1)) k ∧ RtMv W' w' rb a ab b be bu v2 v2) := Lib.hid (fun W' v2 tt => by
    have h1 := rtake_yes W' b be bu p s (l.set k (e, 0)) k tt.ch tt.cok (by rw [hl2]; exact hkl) (by rw [hus2]; omega)
    rw [hep2, hus2, List.set_set, Int.zero_add] at h1
    have hcok3 : ChOk p s (l.set k (e, 1)) (k : Int) := ok_put t.cok k hkl e 1 (by omega) (by omega) (by omega) (by omega) (k : Int) (Or.inr ⟨rfl, by omega⟩)
    exact h1.mono fun e1 w1 ⟨h2, h3, h4⟩ => ⟨h2, tt.stepC h3 h4 (by rw [List.length_set, List.length_set]) hcok3⟩)
  have hl3 : (l.set k (e, 1)).length = l.length := List.length_set
  have HP2 := Lib.hid (fun W' v2 (tt : RT w0 W' rb a ab ac b be bu p s d1 v2 (l.set k (e, 1)) k) => rt_prog tt hrl1 ((k : Int) * s + 1) x hxs)
  rw [hl3] at HP2
  generalize programD p s (l.length : Nat) d1 ((k : Int) * s + 1) x = pr at *
  obtain ⟨pd, pc⟩ := pr
  unfold RdPost at HP2
  dsimp only at HP2 ⊢
  have hks : (k : Int) * s ≤ 12 * 10 := Int.mul_le_mul (by omega) r4 (by omega) (by omega)
  have hks0 : 0 ≤ (k : Int) * s := Int.mul_nonneg (by omega) (by omega)
  have q1 : IntKind.i64.wrap ((k : Int) * s) = (k : Int) * s := IntWalk.i64_in _ (by omega)
  have q2 : IntKind.u32.wrap (k : Int) = (k : Int) := IntWalk.u32_in _ (by omega)
  generalize hpv : (if pc = 0 then (k : Int) * s + 1 else 0) = pv
  have HPV := Lib.hid hpv
  have HCS : Hid (∀ W' d' v', RT w0 W' rb a ab ac b be bu p s d' v' (l.set k (e, 0)) k → W'.cell? ⟨rb, 0, none⟩ = some (.pointer (some ⟨a, 0, none⟩)) ∧ W'.cell? ⟨rb, 1, none⟩ = some (.pointer (some ⟨b, 0, none⟩)) ∧ W'.cell? ⟨a, 0, none⟩ = some (.int .i64 p) ∧ W'.cell? ⟨a, 1, none⟩ = some (.int .i64 s) ∧ W'.cell? ⟨a, 2, none⟩ = some (.int .i64 (l.length : Nat))) := Lib.hid (fun W' d' v' tt => by have := tt.cs; rw [hl2] at this; exact this)
  clear hpv hf c hd hep hetop htop hep2 hus2 hl2 hl3 hks hks0 he1 he2
  generalize hks9 : (k : Int) * s = ks at HPR HTK HP2 HPV ⊢
  have q1' : IntKind.i64.wrap ((k : Int) * s) = ks := q1.trans hks9
  clear q1 hks9
  generalize l.set k (e, 0) = l2 at *
  generalize l.set k (e, 1) = l3 at *
  go_enter Tryz.func17, Tryz.ntmps17
  go_wp2_with fail
  have hk0 := Kp.one W (fob kd fa fb body)
  have hInh := fun (x v : Value) => (⟨fun h => h _ ((Kp.refl _).drew), fun h _ _ => h⟩ : (∀ Wz9, (fun W' => Kp (W.alloc (fob kd fa fb body)) W') Wz9 → x = v) ↔ x = v)
  dsimp only at hInh
  refine wp_region_quietC (C := fun W' => Kp (W.alloc (fob kd fa fb body)) W') (by kernel_rfl) (by kernel_rfl) ((Kp.refl _).drew) ?_
  repeat (first | go_big_quiet_step ((intro hW; first | (go_at_call 50; refine (HBY.out _).mono ?_; rintro e w' ⟨rfl, hk9⟩; exact ⟨rfl, hW.trans hk9⟩) | (with_reducible rfl) | (obtain ⟨c0, c1, g0, g1, g2⟩ := HC.out _ (hk0.trans hW); obtain ⟨b0, b1, b2, b3⟩ := HFB.out _ hW; (try go_simp); first | done | with_reducible rfl | exact ⟨rfl, rfl⟩))) | quiet_step ((intro hW; first | (go_at_call 50; refine (HBY.out _).mono ?_; rintro e w' ⟨rfl, hk9⟩; exact ⟨rfl, hW.trans hk9⟩) | (with_reducible rfl) | (obtain ⟨c0, c1, g0, g1, g2⟩ := HC.out _ (hk0.trans hW); obtain ⟨b0, b1, b2, b3⟩ := HFB.out _ hW; (try go_simp); first | done | with_reducible rfl | exact ⟨rfl, rfl⟩))))
  refine wpQuiet_nil ?_
  intro wq hwq
  clear hInh
  have hkB := hk0.trans hwq
  obtain ⟨y0, y1, g0, g1, g2⟩ := HC.out _ hkB
  go_wp2_with fail
  refine (HL.out _ hkB).mono ?_
  rintro e2 w2 ⟨rfl, hk2⟩
  have hkC := hkB.trans hk2
  clear y0 y1 g0 g1 g2
  obtain ⟨y0, y1, g0, g1, g2⟩ := HC.out _ hkC
  go_wp2_with fail
  refine (HOP.out _ hkC).mono ?_
  rintro e3 w3 ⟨rfl, hr3, hm3⟩
  obtain ⟨t3, m3⟩ := HST.out _ hkC _ hr3 hm3
  have OA := Lib.hid (show OpA w0 W rb a ab ac b be bu p s d v l2 k w3 from ⟨t3, (RtMv.of hkC v).trans m3⟩)
  clear hr3 hm3 m3 y0 y1 g0 g1 g2
  obtain ⟨y0, y1, g0, g1, g2⟩ := HCS.out _ _ _ t3
  clear t3
  go_wp2_with fail
  refine (HH.out _).mono ?_
  rintro e4 w4 ⟨rfl, hk4⟩
  clear y0 y1 g0 g1 g2
  go_wp2_with fail
  have HS0 : Hid (StD (OpA w0 W rb a ab ac b be bu p s d v l2 k) (OpB w0 W rb a ab ac b be bu p s d1 v l2 k) false w4.drew) := Lib.hid ⟨fun _ => ⟨(OA.out.1.keep hk4).keep (Kp.refl w4).drew, (OA.out.2.kp hk4).kp (Kp.refl w4).drew⟩, fun e => by cases e⟩
  refine wp_region_rel3A (R1 := Kp) (C := StD (OpA w0 W rb a ab ac b be bu p s d v l2 k) (OpB w0 W rb a ab ac b be bu p s d1 v l2 k)) 15 (by kernel_rfl) (by kernel_rfl) HS0.out (StD.keep (fun W W' ⟨h1, h2⟩ kk => ⟨h1.keep kk, h2.kp kk⟩) (fun W W' ⟨v2, h1, h2⟩ kk => ⟨v2, h1.keep kk, h2.kp kk⟩)) Kp.refl (fun _ _ _ h k => h.trans k) ?_
  repeat (refine wpRel3_step (by simp) (fun K hK => ?_); apply rel3_eq; (case ob => (intro f b W hW hd; (obtain ⟨y0, y1, g0, g1, g2⟩ := (show _ ∧ _ ∧ _ ∧ _ ∧ _ from (match b, hW with | false, h => HCS.out _ _ _ (h.1 rfl).1 | true, h => HCS.out _ _ _ (h.2 rfl).choose_spec.1))); (try simp [deps, factOf, Region.binds] at hd); unfold relOp; go_simp; (first | exact ⟨Kp.refl _, rfl⟩ | exact Kp.refl _ | (refine ⟨Kp.refl _, ?_⟩; fail)))); go_simp; refine hK _ _ ?_; clear hK K)
  refine wpRel3_move rfl rfl (.int .i64 c1) ?ob (fun K hK => ?_)
  case ob =>
    intro f W hW hd
    have HW2 := Lib.hid (hW.1 rfl)
    (try simp [deps, factOf, Region.binds] at hd)
    unfold mvOp
    go_simp
    (refine (HPR.out _ HW2.out).mono ?_; rintro e w4 ⟨rfl, hx⟩; exact ⟨rfl, fun e => (by cases e), fun _ => hx⟩)
  go_simp
  refine hK _ _ ?_
  clear hK K
  repeat (refine wpRel3_step (by simp) (fun K hK => ?_); apply rel3_eq; (case ob => (intro f b W hW hd; (skip); (try simp [deps, factOf, Region.binds] at hd); unfold relOp; go_simp; (first | exact ⟨Kp.refl _, rfl⟩ | exact Kp.refl _ | (refine ⟨Kp.refl _, ?_⟩; fail)))); go_simp; refine hK _ _ ?_; clear hK K)
  refine wpRel3_nil ?_
  intro f w6 hW hall
  have h16 : f 16 = .int .i64 c1 := allF_get hall 16 _ rfl
  clear hall
  dsimp only
  rw [h16]
  clear h16
  obtain ⟨v6, t6, m6⟩ := hW.2 rfl
  have T6 := Lib.hid (And.intro t6 m6)
  obtain ⟨y0, y1, g0, g1, g2⟩ := HCS.out _ _ _ t6
  clear t6 m6 hW HS0 OA HPR
  by_cases hc : c1 = 0
  · subst hc
    have HT6 := Lib.hid (HTK.out _ _ T6.out.1)
    go_wp2_with fail
    refine (HT6.out).mono ?_
    rintro e7 w7 ⟨rfl, t7, m7⟩
    have T7 := Lib.hid (And.intro t7 (T6.out.2.trans m7))
    have HP7 := Lib.hid (HP2.out _ _ t7)
    clear y0 y1 g0 g1 g2
    obtain ⟨y0, y1, g0, g1, g2⟩ := t7.cs
    clear t7 m7
    go_wp2_with fail
    refine (HP7.out).mono ?_
    rintro e8 w8 ⟨rfl, v8, t8, m8⟩
    have T8 := Lib.hid (And.intro t8 (T7.out.2.trans m8))
    clear t8 m8
    by_cases hpc : pc = 0
    · subst hpc
      have hpv := HPV.out
      rw [if_pos rfl] at hpv
      subst hpv
      go_wp2_with fail
      go_ret2
      exact ⟨rfl, v8, T8.out⟩
    · have hcb : (pc != 0) = true := by simp [hpc]
      have hpv := HPV.out
      rw [if_neg hpc] at hpv
      subst hpv
      clear hpc
      go_wp2_with fail
      go_ret2
      exact ⟨rfl, v8, T8.out⟩
  · have hcb : (c1 != 0) = true := by simp [hc]
    have HNC := Lib.hid hc
    clear hc
    go_wp2_with fail
    go_ret2
    exact ⟨fun _ => ⟨rfl, v6, T6.out⟩, fun h => absurd h HNC.out⟩
end
end Go.Proofs.YtnhogmheedeeiaaGreat
/- The contracts of the reference's tape: Erase. -/
namespace Go.Proofs.YtnhogmheedeeiaaGreat
open Go.RowKit
set_option linter.unusedVariables false
set_option maxRecDepth 20000
section
variable {w0 W W' : World} {rb a ab ac b be bu : Nat} {p s : Int} {d : Dev} {v : Value} {l : List (Int × Int)} {o : Int}
theorem RT.ch6 (t : RT w0 W rb a ab ac b be bu p s d v l o) : W.cell? ⟨rb, 0, none⟩ = some (.pointer (some ⟨a, 0, none⟩)) ∧ W.cell? ⟨rb, 1, none⟩ = some (.pointer (some ⟨b, 0, none⟩)) ∧ W.cell? ⟨b, 3, none⟩ = some (.slice (some ⟨be, 0, none⟩) l.length l.length) ∧ W.cell? ⟨b, 5, none⟩ = some (.int .i64 o) := by
  have hb := t.box
  obtain ⟨c0, c1, c2, c3, c4, c5⟩ := t.ch.c6
  exact ⟨hb.cell 0, hb.cell 1, c3, c5⟩
set_option maxHeartbeats 3200000 in
theorem rter_arg (t : RT w0 W rb a ab ac b be bu p s d v l o) (i : Int) (hi : i < 0 ∨ (l.length : Int) ≤ i) :
    Calls Tryz.prog 13 #[.pointer (some ⟨rb, 0, none⟩), .int .i64 i] W fun e w' => e = .returned (.int .i64 1) ∧ Kp W w' := by
  obtain ⟨c0, c1, c3, c5⟩ := t.ch6
  have HIS := Lib.hid (ris_no W b be bu p s l o t.ch i hi)
  clear hi
  go_enter Tryz.func13, Tryz.ntmps13
  go_wp2_with fail
  refine (HIS.out).mono ?_
  rintro e w1 ⟨rfl, rfl⟩
  go_wp2_with fail
  go_ret
  exact ⟨rfl, Kp.refl _⟩
set_option maxHeartbeats 3200000 in
theorem rter_state (t : RT w0 W rb a ab ac b be bu p s d v l o) (k : Nat) (hk : k < l.length) (hz : epo l k = 0 ∨ (epo l k ≠ 0 ∧ o = k)) :
    Calls Tryz.prog 13 #[.pointer (some ⟨rb, 0, none⟩), .int .i64 k] W fun e w' => e = .returned (.int .i64 7) ∧ Kp W w' := by
  obtain ⟨c0, c1, c3, c5⟩ := t.ch6
  obtain ⟨e0, -⟩ := t.ch.c2 k hk
  have HIS := Lib.hid (ris_yes W b be bu p s l o t.ch (k : Int) (by omega) (by omega))
  have hkl : (k : Int) < (l.length : Int) := by omega
  have hcase : (epo l k == 0) = true ∨ ((epo l k == 0) = false ∧ o = k) := by
    by_cases h0 : epo l k = 0
    · exact Or.inl (by simp [h0])
    · rcases hz with h1 | ⟨_, h2⟩
      · exact absurd h1 h0
      · exact Or.inr ⟨by simp [h0], h2⟩
  clear hz
  generalize epo l k = ep at *
  rcases hcase with h1 | ⟨h1, rfl⟩
  all_goals
    go_enter Tryz.func13, Tryz.ntmps13
    go_wp2_with fail
    refine (HIS.out).mono ?_
    rintro e w1 ⟨rfl, rfl⟩
    go_wp2_with fail
    go_ret
    exact ⟨rfl, Kp.refl _⟩
set_option maxHeartbeats 6400000 in
theorem rter_go (t : RT w0 W rb a ab ac b be bu p s d v l o) (hrl : d.row.length ≤ 99990) (k : Nat) (hk : k < l.length) (hz : epo l k ≠ 0) (ho : o ≠ k) (d1 : Dev) (c1 : Int) (hd : eraseD p s (l.length : Nat) d k = (d1, c1)) :
    Calls Tryz.prog 13 #[.pointer (some ⟨rb, 0, none⟩), .int .i64 k] W fun e w' => e = .returned (.int .i64 c1) ∧ ∃ v2, RT w0 w' rb a ab ac b be bu p s d1 v2 (if c1 = 0 then l.set k (0, 0) else l) o ∧ RtMv W w' rb a ab b be bu v v2 := by
  obtain ⟨c0, c1', c3, c5⟩ := t.ch6
  obtain ⟨e0, -⟩ := t.ch.c2 k hk
  have hR := t.cok.right
  obtain ⟨r1, r2, r3, r4, r5, r6⟩ := id hR
  have HIS := Lib.hid (ris_yes W b be bu p s l o t.ch (k : Int) (by omega) (by omega))
  have hkl : (k : Int) < (l.length : Int) := by omega
  have hlen := t.cok.len
  have HFE := rt_ferase t hrl (k : Int)
  rw [hd] at HFE
  unfold RdPost at HFE
  have HFE := Lib.hid HFE
  have hcok : ChOk p s (l.set k (0, 0)) o := ok_put t.cok k hk 0 0 (by omega) (by omega) (by omega) (by omega) o (Or.inl ⟨rfl, Or.inl ho⟩)
  have hln : (l.set k (0, 0)).length = l.length := List.length_set
  have HER : Hid (∀ W' v2, RT w0 W' rb a ab ac b be bu p s d1 v2 l o → Calls Tryz.prog 44 #[.pointer (some ⟨b, 0, none⟩), .int .i64 k] W' fun e w' => e = .returned (.int .i64 0) ∧ RT w0 w' rb a ab ac b be bu p s d1 v2 (l.set k (0, 0)) o ∧ RtMv W' w' rb a ab b be bu v2 v2) := Lib.hid (fun W' v2 tt => (rerase_ok W' b be bu p s l o tt.ch (by omega) k hk hz ho).mono fun e w1 ⟨h1, h2, h3⟩ => ⟨h1, tt.stepC h2 h3 hln hcok⟩)
  generalize hlc : (if c1 = 0 then l.set k (0, 0) else l) = lc
  have HLC := Lib.hid hlc
  clear hlc
  have hzb : (epo l k == 0) = false := by simp [hz]
  have hob : ((k : Int) == o) = false := by simp; omega
  clear hz ho hd hln
  generalize epo l k = ep at *
  go_enter Tryz.func13, Tryz.ntmps13
  go_wp2_with fail
  refine (HIS.out).mono ?_
  rintro e w1 ⟨rfl, rfl⟩
  go_wp2_with fail
  refine (HFE.out).mono ?_
  rintro e w2 ⟨rfl, v2, t2, m2⟩
  dsimp only at t2 ⊢
  have T2 := Lib.hid (And.intro t2 m2)
  clear c0 c1' c3 c5 e0
  by_cases hc : c1 = 0
  · subst hc
    have hlc := HLC.out
    rw [if_pos rfl] at hlc
    subst hlc
    obtain ⟨c0, c1', c3, c5⟩ := t2.ch6
    have HE2 := Lib.hid (HER.out _ _ t2)
    clear t2 m2
    go_wp2_with fail
    refine (HE2.out).mono ?_
    rintro e w3 ⟨rfl, t3, m3⟩
    have T3 := Lib.hid (And.intro t3 (T2.out.2.trans m3))
    clear t3 m3
    go_wp2_with fail
    go_ret
    exact ⟨rfl, v2, T3.out⟩
  · have hcb : (c1 != 0) = true := by simp [hc]
    have hlc := HLC.out
    rw [if_neg hc] at hlc
    subst hlc
    clear t2 m2 hc
    go_wp2_with fail
    go_ret
    exact ⟨rfl, v2, T2.out⟩
end
end Go.Proofs.YtnhogmheedeeiaaGreat
/- A region that draws its order, of whose first operations one moves memory (a call, or an append): the class of worlds ahead of it is another one than behind it, and so may be the facts. -/
namespace Go.Proofs.YtnhogmheedeeiaaGreat
open Go.RowKit
set_option linter.unusedVariables false
set_option maxRecDepth 20000

/-- A fact, ahead of the move (false) and behind it (true). -/
abbrev Fact4 := Bool → Value → World → Prop
structure Stable4 (R1 : World → World → Prop) (F : Fact4) : Prop where
  st : ∀ b, Stable R1 (F b)
  mv : ∀ v w w', F false v w → F true v w'
def at4 (Fs : List Fact4) (b : Bool) : List Fact := Fs.map (fun F => F b)
theorem at4_get (Fs : List Fact4) (b : Bool) (j : Nat) : (at4 Fs b)[j]? = (Fs[j]?).map (fun F => F b) := by unfold at4; rw [List.getElem?_map]
theorem at4_app (Fs Gs : List Fact4) (b : Bool) : at4 (Fs ++ Gs) b = at4 Fs b ++ at4 Gs b := by unfold at4; rw [List.map_append]
theorem at4_take (Fs : List Fact4) (b : Bool) (i : Nat) : at4 (Fs.take i) b = (at4 Fs b).take i := by unfold at4; rw [List.map_take]
/-- What is asked of the operation that moves. -/
def mvOp4 (P : Program) (C : Bool → World → Prop) (o : Oper) (a : Act) (w : World) (F : Fact) : Prop :=
  match (execOp a.eval o).run P w with
  | .ok (.value v) w' => C true w' ∧ F v w'
  | .ok (.enter g args) w' => Calls P g args w' (fun e w'' => ∃ v, e = .returned v ∧ C true w'' ∧ F v w'')
  | _ => False
section
variable {P : Program} {md : Region.Mode} {ops : Array Oper} {R1 : World → World → Prop} {C : Bool → World → Prop} {m : Nat}

/-- The operations in the text's order. -/
def wpRel4 (P : Program) (md : Region.Mode) (ops : Array Oper) (R1 : World → World → Prop) (C : Bool → World → Prop) (m : Nat) (Q : List Fact4 → (Vals → Act) → Prop) : List Oper → List Fact4 → (Vals → Act) → Prop
  | [], Fs, A => Q Fs A
  | o :: l, Fs, A => (Fs.length = m → o.guard = none ∧ ∃ F : Fact4, Stable4 R1 F ∧ (∀ f w, C false w → deps md o (at4 Fs false) f w → mvOp4 P C o (A f) w (F true)) ∧ wpRel4 P md ops R1 C m Q l (Fs ++ [F]) (fun f => (A f).put o.dst (f Fs.length))) ∧
      (Fs.length ≠ m → ∃ F : Fact4, Stable4 R1 F ∧ (∀ f b w, C b w → deps md o (at4 Fs b) f w → relOp P ops R1 o (A f) w (F b)) ∧ wpRel4 P md ops R1 C m Q l (Fs ++ [F]) (fun f => (A f).put o.dst (f Fs.length)))
theorem wpRel4_nil {Q : List Fact4 → (Vals → Act) → Prop} {Fs : List Fact4} {A : Vals → Act} (h : Q Fs A) : wpRel4 P md ops R1 C m Q [] Fs A := h
theorem wpRel4_out {Q : List Fact4 → (Vals → Act) → Prop} : ∀ (l : List Oper) (Fs : List Fact4) (A : Vals → Act), wpRel4 P md ops R1 C m Q l Fs A →
    ∃ Gs : List Fact4, Gs.length = l.length ∧ (∀ i o, l[i]? = some o → ∃ F, Gs[i]? = some F ∧ Stable4 R1 F ∧
        (Fs.length + i = m → o.guard = none ∧ ∀ f w, C false w → deps md o (at4 (Fs ++ Gs.take i) false) f w → mvOp4 P C o (putF f (l.take i) Fs.length (A f)) w (F true)) ∧
        (Fs.length + i ≠ m → ∀ f b w, C b w → deps md o (at4 (Fs ++ Gs.take i) b) f w → relOp P ops R1 o (putF f (l.take i) Fs.length (A f)) w (F b))) ∧
      Q (Fs ++ Gs) (fun f => putF f l Fs.length (A f))
  | [], Fs, A, h => ⟨[], rfl, fun i o ho => by simp at ho, by rw [List.append_nil]; exact h⟩
  | o :: l, Fs, A, h => by
    obtain ⟨h1, h2⟩ := h
    have key : ∃ F : Fact4, Stable4 R1 F ∧ (Fs.length = m → o.guard = none ∧ ∀ f w, C false w → deps md o (at4 Fs false) f w → mvOp4 P C o (A f) w (F true)) ∧ (Fs.length ≠ m → ∀ f b w, C b w → deps md o (at4 Fs b) f w → relOp P ops R1 o (A f) w (F b)) ∧ wpRel4 P md ops R1 C m Q l (Fs ++ [F]) (fun f => (A f).put o.dst (f Fs.length)) := by
      by_cases hm : Fs.length = m
      · obtain ⟨hg, F, k1, k2, k3⟩ := h1 hm
        exact ⟨F, k1, fun _ => ⟨hg, k2⟩, fun hn => absurd hm hn, k3⟩
      · obtain ⟨F, k1, k2, k3⟩ := h2 hm
        exact ⟨F, k1, fun hn => absurd hn hm, fun _ => k2, k3⟩
    obtain ⟨F, hs, hm1, hm2, hr⟩ := key
    obtain ⟨Gs, hl, hi, hq⟩ := wpRel4_out l _ _ hr
    refine ⟨F :: Gs, by simp [hl], fun i o' ho => ?_, ?_⟩
    · cases i with
      | zero =>
        have e : o' = o := by simpa using ho.symm
        subst e
        refine ⟨F, rfl, hs, fun e => ?_, fun e => ?_⟩
        · obtain ⟨hg, hob⟩ := hm1 (by simpa using e)
          exact ⟨hg, fun f w hc hd => by simpa [putF] using hob f w hc (by simpa using hd)⟩
        · exact fun f b w hc hd => by simpa [putF] using hm2 (by simpa using e) f b w hc (by simpa using hd)
      | succ i =>
        obtain ⟨F', h1, h2, h3, h4⟩ := hi i o' (by simpa using ho)
        refine ⟨F', by simpa using h1, h2, fun e => ?_, fun e => ?_⟩
        · obtain ⟨hg, hob⟩ := h3 (by simp; omega)
          refine ⟨hg, fun f w hc hd => ?_⟩
          have := hob f w hc (by simpa using hd)
          simpa [putF] using this
        · intro f b w hc hd
          have := h4 (by simp; omega) f b w hc (by simpa using hd)
          simpa [putF] using this
    · simpa [putF] using hq
theorem wpRel4_step {Q : List Fact4 → (Vals → Act) → Prop} {o : Oper} {l : List Oper} {Fs : List Fact4} {A : Vals → Act} (hm : Fs.length ≠ m)
    (h : ∀ K : List Fact4 → (Vals → Act) → Prop, (∀ Gs B, wpRel4 P md ops R1 C m Q l Gs B → K Gs B) → ∃ F : Fact4, Stable4 R1 F ∧ (∀ f b w, C b w → deps md o (at4 Fs b) f w → relOp P ops R1 o (A f) w (F b)) ∧ K (Fs ++ [F]) (fun f => (A f).put o.dst (f Fs.length))) :
    wpRel4 P md ops R1 C m Q (o :: l) Fs A := ⟨fun e => absurd e hm, fun _ => h _ (fun _ _ h => h)⟩
theorem wpRel4_move {Q : List Fact4 → (Vals → Act) → Prop} {o : Oper} {l : List Oper} {Fs : List Fact4} {A : Vals → Act} (hm : Fs.length = m) (hg : o.guard = none)
    (F : Fact) (hF : Stable R1 F) (ob : ∀ f w, C false w → deps md o (at4 Fs false) f w → mvOp4 P C o (A f) w F)
    (h : ∀ K : List Fact4 → (Vals → Act) → Prop, (∀ Gs B, wpRel4 P md ops R1 C m Q l Gs B → K Gs B) → K (Fs ++ [fun b v w => b = true ∧ F v w]) (fun f => (A f).put o.dst (f Fs.length))) :
    wpRel4 P md ops R1 C m Q (o :: l) Fs A := ⟨fun _ => ⟨hg, fun b v w => b = true ∧ F v w, ⟨fun b v w w' hr h => ⟨h.1, hF v w w' hr h.2⟩, fun v w w' h => by simp at h⟩, fun f w hc hd => by
        have := ob f w hc hd
        unfold mvOp4 at this ⊢
        generalize (execOp (A f).eval o).run P w = r at this ⊢
        cases r with
        | ok nx w' =>
          cases nx <;> simp only at this ⊢
          case value u => exact ⟨this.1, trivial, this.2⟩
          case enter g args => exact this.mono fun e w'' ⟨v, h1, h2, h3⟩ => ⟨v, h1, h2, trivial, h3⟩
        | halt x w' => simp only at this, h _ (fun _ _ h => h)⟩, fun e => absurd hm e⟩
theorem rel4_eq {K : List Fact4 → (Vals → Act) → Prop} {o : Oper} {Fs : List Fact4} {A : Vals → Act} (c : Value) (ob : ∀ f b w, C b w → deps md o (at4 Fs b) f w → relOp P ops R1 o (A f) w (fun v _ => v = c)) (k : K (Fs ++ [fun _ v _ => v = c]) (fun f => (A f).put o.dst (f Fs.length))) :
    ∃ F : Fact4, Stable4 R1 F ∧ (∀ f b w, C b w → deps md o (at4 Fs b) f w → relOp P ops R1 o (A f) w (F b)) ∧ K (Fs ++ [F]) (fun f => (A f).put o.dst (f Fs.length)) := ⟨_, ⟨fun _ _ _ _ _ h => h, fun _ _ _ h => h⟩, ob, k⟩
/-- A value that is told by a fact ahead of the move, and not asked for behind it. -/
theorem rel4_fact {K : List Fact4 → (Vals → Act) → Prop} {o : Oper} {Fs : List Fact4} {A : Vals → Act} (F : Fact) (hF : Stable R1 F) (ob : ∀ f b w, C b w → deps md o (at4 Fs b) f w → relOp P ops R1 o (A f) w (fun v w => b = false → F v w)) (k : K (Fs ++ [fun b v w => b = false → F v w]) (fun f => (A f).put o.dst (f Fs.length))) :
    ∃ F : Fact4, Stable4 R1 F ∧ (∀ f b w, C b w → deps md o (at4 Fs b) f w → relOp P ops R1 o (A f) w (F b)) ∧ K (Fs ++ [F]) (fun f => (A f).put o.dst (f Fs.length)) := ⟨fun b v w => b = false → F v w, ⟨fun b v w w' hr h e => hF v w w' hr (h e), fun v w w' h e => by simp at e⟩, ob, k⟩

theorem rel_any4 {n : Nat} {Fs : List Fact4} {a0 : Act} {Q : Exit → Act → World → Prop} (hk : RelOk md ops n) (hmn : m < n) (hFl : Fs.length = n) (hst : ∀ (j : Nat) (F : Fact4), Fs[j]? = some F → Stable4 R1 F) (hC : ∀ b w w', C b w → R1 w w' → C b w') (hRr : ∀ a, R1 a a) (hR : ∀ a b c, R1 a b → R1 b c → R1 a c)
    (hob : ∀ (i : Nat) (o : Oper) (F : Fact4), i < n → i ≠ m → ops[i]? = some o → Fs[i]? = some F → ∀ f b w, C b w → deps md o (at4 (Fs.take i) b) f w → relOp P ops R1 o (putF f (ops.toList.take i) 0 a0) w (F b))
    (hom : ∀ (o : Oper) (F : Fact4), ops[m]? = some o → Fs[m]? = some F → o.guard = none ∧ ∀ f w, C false w → deps md o (at4 (Fs.take m) false) f w → mvOp4 P C o (putF f (ops.toList.take m) 0 a0) w (F true))
    (hno : ∀ L, HeadInv md ops n L → ∀ i, i < n → L.getD i true = false → ∀ t, n ≤ t → t ∉ Region.ready md ops L)
    (hfin : ∀ f w, C true w → (∀ (j : Nat) (F : Fact4), Fs[j]? = some F → F true (f j) w) → ∀ L, HeadInv md ops n L → (∀ j, j < n → L.getD j false = true) → wpAny P md ops Q (ops.size - n) L (putF f (ops.toList.take n) 0 a0) w) :
    ∀ (fuel : Nat) (L : Array Bool) (a : Act) (w : World) (f : Vals), (L.toList.take n).count false = fuel → HeadInv md ops n L → RInv ops n (at4 Fs (L.getD m false)) (C (L.getD m false)) a0 L a w f → wpAny P md ops Q (fuel + (ops.size - n)) L a w := by
  intro fuel
  induction fuel with
  | zero =>
    intro L a w f hn hH inv
    have hall : ∀ j, j < n → L.getD j false = true := by
      intro j hj
      have hjs : j < L.size := by rw [hH.size]; have := hk.le; omega
      have hm : false ∉ L.toList.take n := List.count_eq_zero.1 hn
      rcases hb : L[j] with _ | _
      · refine absurd ?_ hm
        rw [List.mem_take_iff_getElem]
        exact ⟨j, by simp; omega, by simpa using hb⟩
      · simp [Array.getD, hjs, hb]
    rw [Nat.zero_add, inv.done hk hall]
    have hcw := inv.cw
    have hfc := inv.facts
    rw [hall m hmn] at hcw hfc
    exact hfin f w hcw (fun j F hj => hfc j (F true) (hall j (by have := (List.getElem?_eq_some_iff.1 hj).1; omega)) (by rw [at4_get, hj]; rfl)) L hH hall
  | succ fuel ih =>
    intro L a w f hn hH inv
    have hls : L.size = ops.size := hH.size
    obtain ⟨i0, hi0, hun0⟩ : ∃ i, i < n ∧ L.getD i true = false := by
      have hm : false ∈ L.toList.take n := List.count_pos_iff.1 (by omega)
      rw [List.mem_take_iff_getElem] at hm
      obtain ⟨i, hi, e⟩ := hm
      have hi' : i < L.size := by simp at hi; omega
      refine ⟨i, by simp at hi; omega, ?_⟩
      simp [Array.getD, hi']
      simpa using e
    have hnt := hno L hH i0 hi0 hun0
    have some_rdy : ∀ (i : Nat), i < n → L.getD i true = false → ∃ j, j ∈ Region.ready md ops L := by
      intro i
      induction i using Nat.strongRecOn with
      | _ i ih2 =>
        intro hi hun
        by_cases hr : i ∈ Region.ready md ops L
        · exact ⟨i, hr⟩
        · have his : i < ops.size := by have := hk.le; omega
          have hoi : ops[i]? = some ops[i] := Array.getElem?_eq_getElem his
          rw [mem_ready] at hr
          have : ¬ ∀ e ∈ ops[i].after, Region.binds md e = true → L.getD e.on false = true := fun hall => hr ⟨hun, ops[i], hoi, hall⟩
          simp only [Classical.not_forall] at this
          obtain ⟨e, he, hb, hne⟩ := this
          have hlt := hk.back i _ hi hoi e he hb
          have hes : e.on < L.size := by omega
          refine ih2 e.on hlt (by omega) ?_
          simp [Array.getD, hes] at hne ⊢
          exact hne
    rw [show fuel + 1 + (ops.size - n) = (fuel + (ops.size - n)) + 1 by omega]
    refine ⟨fun h0 => ?_, fun i hi => ?_⟩
    · obtain ⟨j, hj⟩ := some_rdy i0 hi0 hun0
      rw [h0] at hj; cases hj
    · have hin : i < n := by
        rcases Nat.lt_or_ge i n with h | h
        · exact h
        · exact absurd hi (hnt i h)
      obtain ⟨hun, o, ho, hall⟩ := mem_ready.1 hi
      have his : i < L.size := by rw [hls]; exact (Array.getElem?_eq_some_iff.1 ho).1
      have hcn : ((L.setIfInBounds i true).toList.take n).count false = fuel := by
        rw [Array.toList_setIfInBounds, List.take_set]
        have hi8 : i < (L.toList.take n).length := by simp; omega
        rw [List.count_set hi8]
        have hli : (L.toList.take n)[i] = false := by simpa [Array.getD, his] using hun
        rw [hli, hn]
        simp
      have hH' := hH.set hi hin
      obtain ⟨F, hF⟩ : ∃ F, Fs[i]? = some F := ⟨Fs[i], List.getElem?_eq_getElem (by omega)⟩
      have hsame := same_slots hk hH inv hin hi ho
      have hdeps : deps md o (at4 (Fs.take i) (L.getD m false)) f w := by
        intro e he hb
        have hlt := hk.back i o hin ho e he hb
        unfold factOf
        rw [at4_get, List.getElem?_take, if_pos hlt]
        cases hG : Fs[e.on]? with
        | none => trivial
        | some G => exact inv.facts e.on (G _) (hall e he hb) (by rw [at4_get, hG]; rfl)
      by_cases him : i = m
      · subst him
        obtain ⟨hg, hop⟩ := hom o F ho hF
        have hcw := inv.cw
        have hfc := inv.facts
        have hli : L.getD i false = false := by simpa [Array.getD, his] using hun
        rw [hli] at hcw hdeps hfc
        have hop := hop f w hcw hdeps
        have hst' : (L.setIfInBounds i true).getD i false = true := by simp [Array.getD, his]
        have goon : ∀ v w', C true w' → F true v w' → wpAny P md ops Q (fuel + (ops.size - n)) (L.setIfInBounds i true) (a.put o.dst v) w' := fun v w' hc hv => by
          have inv0 : RInv ops n (at4 Fs true) (fun _ => True) a0 L a w' f := ⟨trivial, fun j G hl hj => by
            rw [at4_get] at hj
            obtain ⟨G0, hG0, rfl⟩ := Option.map_eq_some_iff.1 hj
            exact (hst j G0 hG0).mv _ w w' (hfc j (G0 false) hl (by rw [at4_get, hG0]; rfl)), inv.defs, inv.size, inv.here, inv.off⟩
          have nx := inv0.next (R := fun a b => a = b) hk (fun j G hj v w w' e h => e ▸ h) (fun _ _ _ _ => trivial) hin hun ho rfl (w' := w') (v := v) (fun F' hF' => by rw [at4_get, hF] at hF'; cases hF'; exact hv)
          refine ih _ _ _ (fun j => if j = i then v else f j) hcn hH' ?_
          rw [hst']
          exact ⟨hc, nx.facts, nx.defs, nx.size, nx.here, nx.off⟩
        unfold wpOp
        simp only [ho]
        unfold mvOp4 at hop
        rw [← exec_same (hk.sel i o · · ho) hsame] at hop
        have hw : Region.wanted o (yielded ops a.tmps) = true := by unfold Region.wanted; rw [hg]
        rw [if_pos hw]
        refine Or.inl ?_
        unfold Oper.wp
        generalize (execOp a.eval o).run P w = r at hop ⊢
        cases r with
        | ok nx w' =>
          cases nx <;> simp only at hop <;> simp only [Oper.upon]
          case value u => exact goon u w' hop.1 hop.2
          case enter g args =>
            refine hop.mono fun e w'' ⟨v, he, hc, hv⟩ => ?_
            subst he
            exact goon v w'' hc hv
        | halt x w' => simp only at hop
      · have hop := hob i o F hin him ho hF f _ w inv.cw hdeps
        have hst' : (L.setIfInBounds i true).getD m false = L.getD m false := getD_set_ne false him
        have goon2 : ∀ v w', R1 w w' → F (L.getD m false) v w' → wpAny P md ops Q (fuel + (ops.size - n)) (L.setIfInBounds i true) (a.put o.dst v) w' := fun v w' hr hv => by
          have nx := inv.next (R := R1) hk (fun j G hj => by
            rw [at4_get] at hj
            obtain ⟨G0, hG0, rfl⟩ := Option.map_eq_some_iff.1 hj
            exact (hst j G0 hG0).st _) (hC _) hin hun ho hr (v := v) (fun F' hF' => by rw [at4_get, hF] at hF'; cases hF'; exact hv)
          refine ih _ _ _ (fun j => if j = i then v else f j) hcn hH' ?_
          rw [hst']
          exact nx
        unfold wpOp
        simp only [ho]
        unfold relOp at hop
        rw [← wanted_same hsame, ← exec_same (hk.sel i o · · ho) hsame] at hop
        split
        · rename_i hw
          rw [if_pos hw] at hop
          refine Or.inl ?_
          unfold Oper.wp
          generalize (execOp a.eval o).run P w = r at hop ⊢
          cases r with
          | ok nx w' =>
            cases nx <;> simp only [relUpon] at hop <;> simp only [Oper.upon]
            case value u => exact goon2 u w' hop.1 hop.2
            case skip => exact goon2 undef w' hop.1 hop.2
            case enter g args =>
              refine hop.2.mono fun e w'' ⟨v, he, hr, hv⟩ => ?_
              subst he
              exact goon2 v w'' (hR _ _ _ hop.1 hr) hv
          | halt x w' => simp only [relUpon] at hop
        · rename_i hw
          rw [if_neg hw] at hop
          exact goon2 undef w (hRr w) hop
/-- The first n operations, the m-th of which moves memory; the rest, one behind the other, is walked. -/
theorem wp_region_rel4 {id : Nat} {Q : Exit → Act → World → Prop} {a : Act} {w : World} {l : List Oper} (n m : Nat) (hm : P.follows .mixedOrders = true)
    (hB : (decide (m < n) && relB .any l.toArray n && (Region.sinkB .any l.toArray n && Region.chainB .any l.toArray n && decide (n < l.length) && Region.seqB .any l.toArray (l.drop n).length n (wide (Array.replicate n true) (l.drop n).length))) = true) (hC0 : C false w.drew) (hC : ∀ b w w', C b w → R1 w w' → C b w') (hRr : ∀ a, R1 a a) (hR : ∀ a b c, R1 a b → R1 b c → R1 a c)
    (h : wpRel4 P .any l.toArray R1 C m (fun Fs A => ∀ f w', C true w' → allF f w' (at4 Fs true) 0 → wpList P l.toArray Q (l.drop n) (A f) w') (l.take n) [] (fun _ => a)) : (Code.region id l.toArray true).wp P Q a w := by
  simp only [Bool.and_eq_true, decide_eq_true_eq] at hB
  obtain ⟨⟨h0, h1⟩, ⟨⟨h2, h3⟩, h4⟩, h5⟩ := hB
  have hk := relB_ok h1
  obtain ⟨Gs, hl, hi, hq⟩ := wpRel4_out _ _ _ h
  simp only [List.nil_append, List.length_nil, Nat.zero_add] at hi hq
  have hgl : Gs.length = n := by rw [hl, List.length_take]; have := hk.le; simp at this; omega
  refine wp_region_any hm ?_
  obtain ⟨s1, s2, s3⟩ := rel_start (md := .any) (ops := l.toArray) (C := C false) (n := n) (Fs := at4 Gs false) (a := a) (w := w.drew) (f := fun _ => undef) hk.le hC0
  have hd : (l.drop n).length = l.toArray.size - n := by simp
  have hz : (Array.replicate l.toArray.size false).getD m false = false := getD_replicate_false _ _
  have H := rel_any4 (P := P) (R1 := R1) (C := C) (m := m) (Fs := Gs) (a0 := a) (Q := Q) hk h0 hgl
    (fun j F hj => by
      have hjl : j < Gs.length := (List.getElem?_eq_some_iff.1 hj).1
      obtain ⟨F', h1, h2, _⟩ := hi j (l.take n)[j] (List.getElem?_eq_getElem (by rw [← hl]; exact hjl))
      rw [h1] at hj; cases hj; exact h2) hC hRr hR
    (fun i o F hin him ho hF f b w' hc hdp => by
      obtain ⟨F', h1, _, _, h3⟩ := hi i o (by rw [List.getElem?_take, if_pos hin]; simpa using ho)
      rw [h1] at hF; cases hF
      have := h3 him f b w' hc hdp
      rw [List.take_take, Nat.min_eq_left (Nat.le_of_lt hin)] at this
      exact this)
    (fun o F ho hF => by
      obtain ⟨F', h1, _, h3, _⟩ := hi m o (by rw [List.getElem?_take, if_pos h0]; simpa using ho)
      rw [h1] at hF; cases hF
      obtain ⟨hg, h3⟩ := h3 rfl
      refine ⟨hg, fun f w' hc hdp => ?_⟩
      have := h3 f w' hc hdp
      rw [List.take_take, Nat.min_eq_left (Nat.le_of_lt h0)] at this
      exact this)
    (fun L hL i hi hun t ht => tail_waits h2 h3 (by simpa using h4) hL _ i rfl hi hun t ht)
    (fun f w' hc hf L hL hall => by
      rw [list_true hL hk.le hall, ← hd]
      refine wpAny_of_seq (l.drop n) n _ _ w' (fun j => by rw [List.getElem?_toArray, List.getElem?_drop]) h5 ?_
      exact hq f w' hc (allF_of (at4 Gs true) 0 (fun j F hj => by
        rw [Nat.zero_add]
        rw [at4_get] at hj
        obtain ⟨G0, hG0, rfl⟩ := Option.map_eq_some_iff.1 hj
        exact hf j G0 hG0)))
    n _ a w.drew (fun _ => undef) s3 s1 (by rw [hz]; exact s2)
  rw [show n + (l.toArray.size - n) = l.toArray.size by simp; omega] at H
  exact H
end
end Go.Proofs.YtnhogmheedeeiaaGreat
/- As XRel4, with two operations that move memory, the second behind the first (an append, then a store that another operand may follow): classes of worlds and facts go by the stage 0, 1, 2. -/
namespace Go.Proofs.YtnhogmheedeeiaaGreat
open Go.RowKit
set_option linter.unusedVariables false
set_option maxRecDepth 20000

/-- A fact, by the stage. -/
abbrev Fact5 := Nat → Value → World → Prop
structure Stable5 (R1 : World → World → Prop) (F : Fact5) : Prop where
  st : ∀ b, Stable R1 (F b)
  mv : ∀ k v w w', F k v w → F (k + 1) v w'
def at5 (Fs : List Fact5) (b : Nat) : List Fact := Fs.map (fun F => F b)
theorem at5_get (Fs : List Fact5) (b : Nat) (j : Nat) : (at5 Fs b)[j]? = (Fs[j]?).map (fun F => F b) := by unfold at5; rw [List.getElem?_map]
theorem at5_app (Fs Gs : List Fact5) (b : Nat) : at5 (Fs ++ Gs) b = at5 Fs b ++ at5 Gs b := by unfold at5; rw [List.map_append]
theorem at5_take (Fs : List Fact5) (b : Nat) (i : Nat) : at5 (Fs.take i) b = (at5 Fs b).take i := by unfold at5; rw [List.map_take]
/-- What is asked of an operation that moves: C the class behind it. -/
def mvOp5 (P : Program) (C : World → Prop) (o : Oper) (a : Act) (w : World) (F : Fact) : Prop :=
  match (execOp a.eval o).run P w with
  | .ok (.value v) w' => C w' ∧ F v w'
  | .ok .skip w' => C w' ∧ F undef w'
  | .ok (.enter g args) w' => Calls P g args w' (fun e w'' => ∃ v, e = .returned v ∧ C w'' ∧ F v w'')
  | _ => False
/-- The stage: how many of both are done. -/
def stg (m1 m2 : Nat) (L : Array Bool) : Nat := if L.getD m2 false = true then 2 else if L.getD m1 false = true then 1 else 0
def orderB (md : Region.Mode) (ops : Array Oper) (m1 m2 : Nat) : Bool := decide (m1 < m2) && Region.waitsFor md ops m2 m1
/-- At which stages an operation may come up: one that a move waits for comes ahead of it. -/
def bnd (md : Region.Mode) (ops : Array Oper) (m1 m2 i : Nat) : Nat := if Region.waitsFor md ops m1 i = true then 0 else if Region.waitsFor md ops m2 i = true then 1 else 2
section
variable {P : Program} {md : Region.Mode} {ops : Array Oper} {R1 : World → World → Prop} {C : Nat → World → Prop} {m1 m2 : Nat}

/-- The operations in the text's order. -/
def wpRel5 (P : Program) (md : Region.Mode) (ops : Array Oper) (R1 : World → World → Prop) (C : Nat → World → Prop) (m1 m2 : Nat) (Q : List Fact5 → (Vals → Act) → Prop) : List Oper → List Fact5 → (Vals → Act) → Prop
  | [], Fs, A => Q Fs A
  | o :: l, Fs, A => ∃ F : Fact5, Stable5 R1 F ∧ wpRel5 P md ops R1 C m1 m2 Q l (Fs ++ [F]) (fun f => (A f).put o.dst (f Fs.length)) ∧
      (Fs.length = m1 → o.guard = none ∧ ∀ f w, C 0 w → deps md o (at5 Fs 0) f w → mvOp5 P (C 1) o (A f) w (F 1)) ∧
      (Fs.length = m2 → o.guard = none ∧ ∀ f w, C 1 w → deps md o (at5 Fs 1) f w → mvOp5 P (C 2) o (A f) w (F 2)) ∧
      (Fs.length ≠ m1 → Fs.length ≠ m2 → ∀ f k w, k ≤ bnd md ops m1 m2 Fs.length → C k w → deps md o (at5 Fs k) f w → relOp P ops R1 o (A f) w (F k))
theorem wpRel5_nil {Q : List Fact5 → (Vals → Act) → Prop} {Fs : List Fact5} {A : Vals → Act} (h : Q Fs A) : wpRel5 P md ops R1 C m1 m2 Q [] Fs A := h
theorem wpRel5_out {Q : List Fact5 → (Vals → Act) → Prop} : ∀ (l : List Oper) (Fs : List Fact5) (A : Vals → Act), wpRel5 P md ops R1 C m1 m2 Q l Fs A →
    ∃ Gs : List Fact5, Gs.length = l.length ∧ (∀ i o, l[i]? = some o → ∃ F, Gs[i]? = some F ∧ Stable5 R1 F ∧
        (Fs.length + i = m1 → o.guard = none ∧ ∀ f w, C 0 w → deps md o (at5 (Fs ++ Gs.take i) 0) f w → mvOp5 P (C 1) o (putF f (l.take i) Fs.length (A f)) w (F 1)) ∧
        (Fs.length + i = m2 → o.guard = none ∧ ∀ f w, C 1 w → deps md o (at5 (Fs ++ Gs.take i) 1) f w → mvOp5 P (C 2) o (putF f (l.take i) Fs.length (A f)) w (F 2)) ∧
        (Fs.length + i ≠ m1 → Fs.length + i ≠ m2 → ∀ f k w, k ≤ bnd md ops m1 m2 (Fs.length + i) → C k w → deps md o (at5 (Fs ++ Gs.take i) k) f w → relOp P ops R1 o (putF f (l.take i) Fs.length (A f)) w (F k))) ∧
      Q (Fs ++ Gs) (fun f => putF f l Fs.length (A f))
  | [], Fs, A, h => ⟨[], rfl, fun i o ho => by simp at ho, by rw [List.append_nil]; exact h⟩
  | o :: l, Fs, A, h => by
    obtain ⟨F, hs, hr, hm1, hm2, hm3⟩ := h
    obtain ⟨Gs, hl, hi, hq⟩ := wpRel5_out l _ _ hr
    refine ⟨F :: Gs, by simp [hl], fun i o' ho => ?_, ?_⟩
    · cases i with
      | zero =>
        have e : o' = o := by simpa using ho.symm
        subst e
        refine ⟨F, rfl, hs, fun e => ?_, fun e => ?_, fun e e2 => ?_⟩
        · obtain ⟨hg, hob⟩ := hm1 (by simpa using e)
          exact ⟨hg, fun f w hc hd => by simpa [putF] using hob f w hc (by simpa using hd)⟩
        · obtain ⟨hg, hob⟩ := hm2 (by simpa using e)
          exact ⟨hg, fun f w hc hd => by simpa [putF] using hob f w hc (by simpa using hd)⟩
        · exact fun f b w hbn hc hd => by simpa [putF] using hm3 (by simpa using e) (by simpa using e2) f b w (by simpa using hbn) hc (by simpa using hd)
      | succ i =>
        obtain ⟨F', h1, h2, h3, h4, h5⟩ := hi i o' (by simpa using ho)
        refine ⟨F', by simpa using h1, h2, fun e => ?_, fun e => ?_, fun e e2 => ?_⟩
        · obtain ⟨hg, hob⟩ := h3 (by simp; omega)
          refine ⟨hg, fun f w hc hd => ?_⟩
          have := hob f w hc (by simpa using hd)
          simpa [putF] using this
        · obtain ⟨hg, hob⟩ := h4 (by simp; omega)
          refine ⟨hg, fun f w hc hd => ?_⟩
          have := hob f w hc (by simpa using hd)
          simpa [putF] using this
        · intro f b w hbn hc hd
          have := h5 (by simp; omega) (by simp; omega) f b w (by rw [List.length_append, List.length_singleton, Nat.add_assoc, Nat.add_comm 1 i]; exact hbn) hc (by simpa using hd)
          simpa [putF] using this
    · simpa [putF] using hq
theorem wpRel5_step {Q : List Fact5 → (Vals → Act) → Prop} {o : Oper} {l : List Oper} {Fs : List Fact5} {A : Vals → Act} (K0 : Nat) (hK0 : decide (bnd md ops m1 m2 Fs.length ≤ K0) = true) (hm1 : Fs.length ≠ m1) (hm2 : Fs.length ≠ m2)
    (h : ∀ K : List Fact5 → (Vals → Act) → Prop, (∀ Gs B, wpRel5 P md ops R1 C m1 m2 Q l Gs B → K Gs B) → ∃ F : Fact5, Stable5 R1 F ∧ (∀ f b w, b ≤ K0 → C b w → deps md o (at5 Fs b) f w → relOp P ops R1 o (A f) w (F b)) ∧ K (Fs ++ [F]) (fun f => (A f).put o.dst (f Fs.length))) :
    wpRel5 P md ops R1 C m1 m2 Q (o :: l) Fs A := by
  obtain ⟨F, h1, h2, h3⟩ := h _ (fun _ _ h => h)
  exact ⟨F, h1, h3, fun e => absurd e hm1, fun e => absurd e hm2, fun _ _ f k w hb => h2 f k w (Nat.le_trans hb (of_decide_eq_true hK0))⟩
/-- The first move: its value is told by a fact that holds up to the second one. -/
theorem wpRel5_move1 {Q : List Fact5 → (Vals → Act) → Prop} {o : Oper} {l : List Oper} {Fs : List Fact5} {A : Vals → Act} (hm : Fs.length = m1) (hne : m1 ≠ m2) (hg : o.guard = none)
    (F : Fact) (hF : Stable R1 F) (ob : ∀ f w, C 0 w → deps md o (at5 Fs 0) f w → mvOp5 P (C 1) o (A f) w F)
    (h : ∀ K : List Fact5 → (Vals → Act) → Prop, (∀ Gs B, wpRel5 P md ops R1 C m1 m2 Q l Gs B → K Gs B) → K (Fs ++ [fun k v w => k ≠ 0 ∧ (k = 1 → F v w)]) (fun f => (A f).put o.dst (f Fs.length))) :
    wpRel5 P md ops R1 C m1 m2 Q (o :: l) Fs A := by
  refine ⟨fun k v w => k ≠ 0 ∧ (k = 1 → F v w), ⟨fun b v w w' hr h => ⟨h.1, fun e => hF v w w' hr (h.2 e)⟩, fun k v w w' h => ⟨by omega, fun e => absurd (show k = 0 by omega) h.1⟩⟩, h _ (fun _ _ h => h), fun _ => ⟨hg, fun f w hc hd => ?_⟩, fun e => absurd (hm.symm.trans e) hne, fun e _ => absurd hm e⟩
  have := ob f w hc hd
  unfold mvOp5 at this ⊢
  generalize (execOp (A f).eval o).run P w = r at this ⊢
  cases r with
  | ok nx w' =>
    cases nx <;> simp only at this ⊢
    case value u => exact ⟨this.1, by simp, fun _ => this.2⟩
    case skip => exact ⟨this.1, by simp, fun _ => this.2⟩
    case enter g args => exact this.mono fun e w'' ⟨v, h1, h2, h3⟩ => ⟨v, h1, h2, by simp, fun _ => h3⟩
  | halt x w' => simp only at this
/-- The second move: nothing is asked of its value. -/
theorem wpRel5_move2 {Q : List Fact5 → (Vals → Act) → Prop} {o : Oper} {l : List Oper} {Fs : List Fact5} {A : Vals → Act} (hm : Fs.length = m2) (hne : m1 ≠ m2) (hg : o.guard = none)
    (ob : ∀ f w, C 1 w → deps md o (at5 Fs 1) f w → mvOp5 P (C 2) o (A f) w (fun _ _ => True))
    (h : ∀ K : List Fact5 → (Vals → Act) → Prop, (∀ Gs B, wpRel5 P md ops R1 C m1 m2 Q l Gs B → K Gs B) → K (Fs ++ [fun _ _ _ => True]) (fun f => (A f).put o.dst (f Fs.length))) :
    wpRel5 P md ops R1 C m1 m2 Q (o :: l) Fs A := by
  refine ⟨fun _ _ _ => True, ⟨fun _ _ _ _ _ _ => trivial, fun _ _ _ _ _ => trivial⟩, h _ (fun _ _ h => h), fun e => absurd (e.symm.trans hm) hne, fun _ => ⟨hg, ob⟩, fun _ e => absurd hm e⟩
theorem rel5_eq {K0 : Nat} {K : List Fact5 → (Vals → Act) → Prop} {o : Oper} {Fs : List Fact5} {A : Vals → Act} (c : Value) (ob : ∀ f b w, b ≤ K0 → C b w → deps md o (at5 Fs b) f w → relOp P ops R1 o (A f) w (fun v _ => v = c)) (k : K (Fs ++ [fun _ v _ => v = c]) (fun f => (A f).put o.dst (f Fs.length))) :
    ∃ F : Fact5, Stable5 R1 F ∧ (∀ f b w, b ≤ K0 → C b w → deps md o (at5 Fs b) f w → relOp P ops R1 o (A f) w (F b)) ∧ K (Fs ++ [F]) (fun f => (A f).put o.dst (f Fs.length)) := ⟨_, ⟨fun _ _ _ _ _ h => h, fun _ _ _ _ h => h⟩, ob, k⟩
/-- A value that is told by a fact ahead of the move, and not asked for behind it. -/
theorem rel5_fact {K0 : Nat} {K : List Fact5 → (Vals → Act) → Prop} {o : Oper} {Fs : List Fact5} {A : Vals → Act} (F : Fact) (hF : Stable R1 F) (ob : ∀ f b w, b ≤ K0 → C b w → deps md o (at5 Fs b) f w → relOp P ops R1 o (A f) w (fun v w => b = 0 → F v w)) (k : K (Fs ++ [fun b v w => b = 0 → F v w]) (fun f => (A f).put o.dst (f Fs.length))) :
    ∃ F : Fact5, Stable5 R1 F ∧ (∀ f b w, b ≤ K0 → C b w → deps md o (at5 Fs b) f w → relOp P ops R1 o (A f) w (F b)) ∧ K (Fs ++ [F]) (fun f => (A f).put o.dst (f Fs.length)) := ⟨fun b v w => b = 0 → F v w, ⟨fun b v w w' hr h e => hF v w w' hr (h e), fun k v w w' h e => by simp at e⟩, ob, k⟩

theorem rel_any5 {n : Nat} {Fs : List Fact5} {a0 : Act} {Q : Exit → Act → World → Prop} (hk : RelOk md ops n) (hmn : m2 < n) (h12 : orderB md ops m1 m2 = true) (hFl : Fs.length = n) (hst : ∀ (j : Nat) (F : Fact5), Fs[j]? = some F → Stable5 R1 F) (hC : ∀ b w w', C b w → R1 w w' → C b w') (hRr : ∀ a, R1 a a) (hR : ∀ a b c, R1 a b → R1 b c → R1 a c)
    (hob : ∀ (i : Nat) (o : Oper) (F : Fact5), i < n → i ≠ m1 → i ≠ m2 → ops[i]? = some o → Fs[i]? = some F → ∀ f b w, b ≤ bnd md ops m1 m2 i → C b w → deps md o (at5 (Fs.take i) b) f w → relOp P ops R1 o (putF f (ops.toList.take i) 0 a0) w (F b))
    (hom1 : ∀ (o : Oper) (F : Fact5), ops[m1]? = some o → Fs[m1]? = some F → o.guard = none ∧ ∀ f w, C 0 w → deps md o (at5 (Fs.take m1) 0) f w → mvOp5 P (C 1) o (putF f (ops.toList.take m1) 0 a0) w (F 1))
    (hom2 : ∀ (o : Oper) (F : Fact5), ops[m2]? = some o → Fs[m2]? = some F → o.guard = none ∧ ∀ f w, C 1 w → deps md o (at5 (Fs.take m2) 1) f w → mvOp5 P (C 2) o (putF f (ops.toList.take m2) 0 a0) w (F 2))
    (hno : ∀ L, HeadInv md ops n L → ∀ i, i < n → L.getD i true = false → ∀ t, n ≤ t → t ∉ Region.ready md ops L)
    (hfin : ∀ f w, C 2 w → (∀ (j : Nat) (F : Fact5), Fs[j]? = some F → F 2 (f j) w) → ∀ L, HeadInv md ops n L → (∀ j, j < n → L.getD j false = true) → wpAny P md ops Q (ops.size - n) L (putF f (ops.toList.take n) 0 a0) w) :
    ∀ (fuel : Nat) (L : Array Bool) (a : Act) (w : World) (f : Vals), (L.toList.take n).count false = fuel → HeadInv md ops n L → RInv ops n (at5 Fs (stg m1 m2 L)) (C (stg m1 m2 L)) a0 L a w f → wpAny P md ops Q (fuel + (ops.size - n)) L a w := by
  unfold orderB at h12
  simp only [Bool.and_eq_true, decide_eq_true_eq] at h12
  obtain ⟨hlt12, h12⟩ := h12
  intro fuel
  induction fuel with
  | zero =>
    intro L a w f hn hH inv
    have hall : ∀ j, j < n → L.getD j false = true := by
      intro j hj
      have hjs : j < L.size := by rw [hH.size]; have := hk.le; omega
      have hm : false ∉ L.toList.take n := List.count_eq_zero.1 hn
      rcases hb : L[j] with _ | _
      · refine absurd ?_ hm
        rw [List.mem_take_iff_getElem]
        exact ⟨j, by simp; omega, by simpa using hb⟩
      · simp [Array.getD, hjs, hb]
    rw [Nat.zero_add, inv.done hk hall]
    have hcw := inv.cw
    have hfc := inv.facts
    rw [show stg m1 m2 L = 2 by unfold stg; rw [hall m2 hmn, if_pos rfl]] at hcw hfc
    exact hfin f w hcw (fun j F hj => hfc j (F 2) (hall j (by have := (List.getElem?_eq_some_iff.1 hj).1; omega)) (by rw [at5_get, hj]; rfl)) L hH hall
  | succ fuel ih =>
    intro L a w f hn hH inv
    have hls : L.size = ops.size := hH.size
    obtain ⟨i0, hi0, hun0⟩ : ∃ i, i < n ∧ L.getD i true = false := by
      have hm : false ∈ L.toList.take n := List.count_pos_iff.1 (by omega)
      rw [List.mem_take_iff_getElem] at hm
      obtain ⟨i, hi, e⟩ := hm
      have hi' : i < L.size := by simp at hi; omega
      refine ⟨i, by simp at hi; omega, ?_⟩
      simp [Array.getD, hi']
      simpa using e
    have hnt := hno L hH i0 hi0 hun0
    have some_rdy : ∀ (i : Nat), i < n → L.getD i true = false → ∃ j, j ∈ Region.ready md ops L := by
      intro i
      induction i using Nat.strongRecOn with
      | _ i ih2 =>
        intro hi hun
        by_cases hr : i ∈ Region.ready md ops L
        · exact ⟨i, hr⟩
        · have his : i < ops.size := by have := hk.le; omega
          have hoi : ops[i]? = some ops[i] := Array.getElem?_eq_getElem his
          rw [mem_ready] at hr
          have : ¬ ∀ e ∈ ops[i].after, Region.binds md e = true → L.getD e.on false = true := fun hall => hr ⟨hun, ops[i], hoi, hall⟩
          simp only [Classical.not_forall] at this
          obtain ⟨e, he, hb, hne⟩ := this
          have hlt := hk.back i _ hi hoi e he hb
          have hes : e.on < L.size := by omega
          refine ih2 e.on hlt (by omega) ?_
          simp [Array.getD, hes] at hne ⊢
          exact hne
    rw [show fuel + 1 + (ops.size - n) = (fuel + (ops.size - n)) + 1 by omega]
    refine ⟨fun h0 => ?_, fun i hi => ?_⟩
    · obtain ⟨j, hj⟩ := some_rdy i0 hi0 hun0
      rw [h0] at hj; cases hj
    · have hin : i < n := by
        rcases Nat.lt_or_ge i n with h | h
        · exact h
        · exact absurd hi (hnt i h)
      obtain ⟨hun, o, ho, hall⟩ := mem_ready.1 hi
      have his : i < L.size := by rw [hls]; exact (Array.getElem?_eq_some_iff.1 ho).1
      have hcn : ((L.setIfInBounds i true).toList.take n).count false = fuel := by
        rw [Array.toList_setIfInBounds, List.take_set]
        have hi8 : i < (L.toList.take n).length := by simp; omega
        rw [List.count_set hi8]
        have hli : (L.toList.take n)[i] = false := by simpa [Array.getD, his] using hun
        rw [hli, hn]
        simp
      have hH' := hH.set hi hin
      obtain ⟨F, hF⟩ : ∃ F, Fs[i]? = some F := ⟨Fs[i], List.getElem?_eq_getElem (by omega)⟩
      have hsame := same_slots hk hH inv hin hi ho
      have hdeps : deps md o (at5 (Fs.take i) (stg m1 m2 L)) f w := by
        intro e he hb
        have hlt := hk.back i o hin ho e he hb
        unfold factOf
        rw [at5_get, List.getElem?_take, if_pos hlt]
        cases hG : Fs[e.on]? with
        | none => trivial
        | some G => exact inv.facts e.on (G _) (hall e he hb) (by rw [at5_get, hG]; rfl)
      have goonM : ∀ (S : Nat), stg m1 m2 L = S → stg m1 m2 (L.setIfInBounds i true) = S + 1 → ∀ v w', C (S + 1) w' → F (S + 1) v w' → wpAny P md ops Q (fuel + (ops.size - n)) (L.setIfInBounds i true) (a.put o.dst v) w' := fun S hS hS' v w' hc hv => by
        have hfc := inv.facts
        rw [hS] at hfc
        have inv0 : RInv ops n (at5 Fs (S + 1)) (fun _ => True) a0 L a w' f := ⟨trivial, fun j G hl hj => by
          rw [at5_get] at hj
          obtain ⟨G0, hG0, rfl⟩ := Option.map_eq_some_iff.1 hj
          exact (hst j G0 hG0).mv _ _ w w' (hfc j (G0 S) hl (by rw [at5_get, hG0]; rfl)), inv.defs, inv.size, inv.here, inv.off⟩
        have nx := inv0.next (R := fun a b => a = b) hk (fun j G hj v w w' e h => e ▸ h) (fun _ _ _ _ => trivial) hin hun ho rfl (w' := w') (v := v) (fun F' hF' => by rw [at5_get, hF] at hF'; cases hF'; exact hv)
        refine ih _ _ _ (fun j => if j = i then v else f j) hcn hH' ?_
        rw [hS']
        exact ⟨hc, nx.facts, nx.defs, nx.size, nx.here, nx.off⟩
      have hset : ∀ x, x ≠ i → (L.setIfInBounds i true).getD x false = L.getD x false := fun x hx => getD_set_ne false (Ne.symm hx)
      have hsi : (L.setIfInBounds i true).getD i false = true := by simp [Array.getD, his]
      have hli : L.getD i false = false := by simpa [Array.getD, his] using hun
      obtain ⟨o2, ho2, e2, he2, hb2, hon2⟩ := Region.waitsFor_spec h12
      by_cases him : i = m1
      · subst him
        have hl2 : L.getD m2 false = false := by
          rcases hb : L.getD m2 false with _ | _
          · rfl
          · have := hH.closed m2 o2 ho2 hb e2 he2 hb2
            rw [hon2, hli] at this
            cases this
        have hS : stg i m2 L = 0 := by unfold stg; rw [hl2, hli]; rfl
        have hS' : stg i m2 (L.setIfInBounds i true) = 0 + 1 := by unfold stg; rw [hset m2 (by omega), hl2, hsi]; rfl
        obtain ⟨hg, hop⟩ := hom1 o F ho hF
        have hcw := inv.cw
        rw [hS] at hcw hdeps
        have hop := hop f w hcw hdeps
        have goon := goonM 0 hS hS'
        unfold wpOp
        simp only [ho]
        unfold mvOp5 at hop
        rw [← exec_same (hk.sel i o · · ho) hsame] at hop
        have hw : Region.wanted o (yielded ops a.tmps) = true := by unfold Region.wanted; rw [hg]
        rw [if_pos hw]
        refine Or.inl ?_
        unfold Oper.wp
        generalize (execOp a.eval o).run P w = r at hop ⊢
        cases r with
        | ok nx w' =>
          cases nx <;> simp only at hop <;> simp only [Oper.upon]
          case value u => exact goon u w' hop.1 hop.2
          case skip => exact goon undef w' hop.1 hop.2
          case enter g args =>
            refine hop.mono fun e w'' ⟨v, he, hc, hv⟩ => ?_
            subst he
            exact goon v w'' hc hv
        | halt x w' => simp only at hop
      · by_cases him2 : i = m2
        · subst him2
          have : o2 = o := Option.some.inj (ho2.symm.trans ho)
          subst this
          have hl1 : L.getD m1 false = true := by rw [← hon2]; exact hall e2 he2 hb2
          have hS : stg m1 i L = 1 := by unfold stg; rw [hli, hl1]; rfl
          have hS' : stg m1 i (L.setIfInBounds i true) = 1 + 1 := by unfold stg; rw [hsi]; rfl
          obtain ⟨hg, hop⟩ := hom2 o2 F ho hF
          have hcw := inv.cw
          rw [hS] at hcw hdeps
          have hop := hop f w hcw hdeps
          have goon := goonM 1 hS hS'
          unfold wpOp
          simp only [ho]
          unfold mvOp5 at hop
          rw [← exec_same (hk.sel i o2 · · ho) hsame] at hop
          have hw : Region.wanted o2 (yielded ops a.tmps) = true := by unfold Region.wanted; rw [hg]
          rw [if_pos hw]
          refine Or.inl ?_
          unfold Oper.wp
          generalize (execOp a.eval o2).run P w = r at hop ⊢
          cases r with
          | ok nx w' =>
            cases nx <;> simp only at hop <;> simp only [Oper.upon]
            case value u => exact goon u w' hop.1 hop.2
            case skip => exact goon undef w' hop.1 hop.2
            case enter g args =>
              refine hop.mono fun e w'' ⟨v, he, hc, hv⟩ => ?_
              subst he
              exact goon v w'' hc hv
          | halt x w' => simp only at hop
        · have notm : ∀ x, Region.waitsFor md ops x i = true → L.getD x false = false := by
            intro x hx
            obtain ⟨ox, hox, e, he, hb, hon⟩ := Region.waitsFor_spec hx
            rcases hb3 : L.getD x false with _ | _
            · rfl
            · have := hH.closed x ox hox hb3 e he hb
              rw [hon, hli] at this
              cases this
          have hbn : stg m1 m2 L ≤ bnd md ops m1 m2 i := by
            unfold bnd
            split
            · rename_i hw
              have e1 := notm m1 hw
              have e2 : L.getD m2 false = false := by
                rcases hb : L.getD m2 false with _ | _
                · rfl
                · have := hH.closed m2 o2 ho2 hb e2 he2 hb2
                  rw [hon2, e1] at this
                  cases this
              unfold stg
              rw [e1, e2]
              exact Nat.le_refl _
            · split
              · rename_i hw
                unfold stg
                rw [notm m2 hw]
                simp only [Bool.false_eq_true, if_false]
                split <;> omega
              · unfold stg
                split
                · omega
                · split <;> omega
          have hop := hob i o F hin him him2 ho hF f _ w hbn inv.cw hdeps
          have hst' : stg m1 m2 (L.setIfInBounds i true) = stg m1 m2 L := by unfold stg; rw [hset m2 (Ne.symm him2), hset m1 (Ne.symm him)]
          have goon2 : ∀ v w', R1 w w' → F (stg m1 m2 L) v w' → wpAny P md ops Q (fuel + (ops.size - n)) (L.setIfInBounds i true) (a.put o.dst v) w' := fun v w' hr hv => by
            have nx := inv.next (R := R1) hk (fun j G hj => by
              rw [at5_get] at hj
              obtain ⟨G0, hG0, rfl⟩ := Option.map_eq_some_iff.1 hj
              exact (hst j G0 hG0).st _) (hC _) hin hun ho hr (v := v) (fun F' hF' => by rw [at5_get, hF] at hF'; cases hF'; exact hv)
            refine ih _ _ _ (fun j => if j = i then v else f j) hcn hH' ?_
            rw [hst']
            exact nx
          unfold wpOp
          simp only [ho]
          unfold relOp at hop
          rw [← wanted_same hsame, ← exec_same (hk.sel i o · · ho) hsame] at hop
          split
          · rename_i hw
            rw [if_pos hw] at hop
            refine Or.inl ?_
            unfold Oper.wp
            generalize (execOp a.eval o).run P w = r at hop ⊢
            cases r with
            | ok nx w' =>
              cases nx <;> simp only [relUpon] at hop <;> simp only [Oper.upon]
              case value u => exact goon2 u w' hop.1 hop.2
              case skip => exact goon2 undef w' hop.1 hop.2
              case enter g args =>
                refine hop.2.mono fun e w'' ⟨v, he, hr, hv⟩ => ?_
                subst he
                exact goon2 v w'' (hR _ _ _ hop.1 hr) hv
            | halt x w' => simp only [relUpon] at hop
          · rename_i hw
            rw [if_neg hw] at hop
            exact goon2 undef w (hRr w) hop
/-- The first n operations, two of which move memory; the rest, one behind the other, is walked. -/
theorem wp_region_rel5 {id : Nat} {Q : Exit → Act → World → Prop} {a : Act} {w : World} {l : List Oper} (n m1 m2 : Nat) (hm : P.follows .mixedOrders = true)
    (hB : (decide (m2 < n) && orderB .any l.toArray m1 m2 && relB .any l.toArray n && (Region.sinkB .any l.toArray n && Region.chainB .any l.toArray n && decide (n < l.length) && Region.seqB .any l.toArray (l.drop n).length n (wide (Array.replicate n true) (l.drop n).length))) = true) (hC0 : C 0 w.drew) (hC : ∀ b w w', C b w → R1 w w' → C b w') (hRr : ∀ a, R1 a a) (hR : ∀ a b c, R1 a b → R1 b c → R1 a c)
    (h : wpRel5 P .any l.toArray R1 C m1 m2 (fun Fs A => ∀ f w', C 2 w' → allF f w' (at5 Fs 2) 0 → wpList P l.toArray Q (l.drop n) (A f) w') (l.take n) [] (fun _ => a)) : (Code.region id l.toArray true).wp P Q a w := by
  simp only [Bool.and_eq_true, decide_eq_true_eq] at hB
  obtain ⟨⟨⟨h0, h12⟩, h1⟩, ⟨⟨h2, h3⟩, h4⟩, h5⟩ := hB
  have hk := relB_ok h1
  have hlt : m1 < m2 := by unfold orderB at h12; simp only [Bool.and_eq_true, decide_eq_true_eq] at h12; exact h12.1
  obtain ⟨Gs, hl, hi, hq⟩ := wpRel5_out _ _ _ h
  simp only [List.nil_append, List.length_nil, Nat.zero_add] at hi hq
  have hgl : Gs.length = n := by rw [hl, List.length_take]; have := hk.le; simp at this; omega
  refine wp_region_any hm ?_
  obtain ⟨s1, s2, s3⟩ := rel_start (md := .any) (ops := l.toArray) (C := C 0) (n := n) (Fs := at5 Gs 0) (a := a) (w := w.drew) (f := fun _ => undef) hk.le hC0
  have hd : (l.drop n).length = l.toArray.size - n := by simp
  have hz : stg m1 m2 (Array.replicate l.toArray.size false) = 0 := by unfold stg; rw [getD_replicate_false, getD_replicate_false]; rfl
  have H := rel_any5 (P := P) (R1 := R1) (C := C) (m1 := m1) (m2 := m2) (Fs := Gs) (a0 := a) (Q := Q) hk h0 h12 hgl
    (fun j F hj => by
      have hjl : j < Gs.length := (List.getElem?_eq_some_iff.1 hj).1
      obtain ⟨F', h1, h2, _⟩ := hi j (l.take n)[j] (List.getElem?_eq_getElem (by rw [← hl]; exact hjl))
      rw [h1] at hj; cases hj; exact h2) hC hRr hR
    (fun i o F hin him him2 ho hF f b w' hbn hc hdp => by
      obtain ⟨F', h1, _, _, _, h3⟩ := hi i o (by rw [List.getElem?_take, if_pos hin]; simpa using ho)
      rw [h1] at hF; cases hF
      have := h3 him him2 f b w' hbn hc hdp
      rw [List.take_take, Nat.min_eq_left (Nat.le_of_lt hin)] at this
      exact this)
    (fun o F ho hF => by
      obtain ⟨F', h1, _, h3, _⟩ := hi m1 o (by rw [List.getElem?_take, if_pos (by omega)]; simpa using ho)
      rw [h1] at hF; cases hF
      obtain ⟨hg, h3⟩ := h3 rfl
      refine ⟨hg, fun f w' hc hdp => ?_⟩
      have := h3 f w' hc hdp
      rw [List.take_take, Nat.min_eq_left (by omega)] at this
      exact this)
    (fun o F ho hF => by
      obtain ⟨F', h1, _, _, h3, _⟩ := hi m2 o (by rw [List.getElem?_take, if_pos h0]; simpa using ho)
      rw [h1] at hF; cases hF
      obtain ⟨hg, h3⟩ := h3 rfl
      refine ⟨hg, fun f w' hc hdp => ?_⟩
      have := h3 f w' hc hdp
      rw [List.take_take, Nat.min_eq_left (Nat.le_of_lt h0)] at this
      exact this)
    (fun L hL i hi hun t ht => tail_waits h2 h3 (by simpa using h4) hL _ i rfl hi hun t ht)
    (fun f w' hc hf L hL hall => by
      rw [list_true hL hk.le hall, ← hd]
      refine wpAny_of_seq (l.drop n) n _ _ w' (fun j => by rw [List.getElem?_toArray, List.getElem?_drop]) h5 ?_
      exact hq f w' hc (allF_of (at5 Gs 2) 0 (fun j F hj => by
        rw [Nat.zero_add]
        rw [at5_get] at hj
        obtain ⟨G0, hG0, rfl⟩ := Option.map_eq_some_iff.1 hj
        exact hf j G0 hG0)))
    n _ a w.drew (fun _ => undef) s3 s1 (by rw [hz]; exact s2)
  rw [show n + (l.toArray.size - n) = l.toArray.size by simp; omega] at H
  exact H
end
end Go.Proofs.YtnhogmheedeeiaaGreat
/- Both tapes answer alike. -/
namespace Go.Proofs.YtnhogmheedeeiaaGreat
open Go.RowKit
set_option linter.unusedVariables false
set_option maxRecDepth 20000
section
variable {P : Program} {md : Region.Mode} {ops : Array Oper} {R1 : World → World → Prop} {C : Nat → World → Prop} {m1 m2 : Nat}
/-- The first move: a call of a fixed value. -/
theorem wpRel5_move1c {Q : List Fact5 → (Vals → Act) → Prop} {o : Oper} {l : List Oper} {Fs : List Fact5} {A : Vals → Act} (hm : Fs.length = m1) (hne : m1 ≠ m2) (hg : o.guard = none)
    (c : Value) (ob : ∀ f w, C 0 w → deps md o (at5 Fs 0) f w → mvOp5 P (C 1) o (A f) w (fun v _ => v = c))
    (h : ∀ K : List Fact5 → (Vals → Act) → Prop, (∀ Gs B, wpRel5 P md ops R1 C m1 m2 Q l Gs B → K Gs B) → K (Fs ++ [fun _ v _ => v = c]) (fun f => (A f).put o.dst (f Fs.length))) :
    wpRel5 P md ops R1 C m1 m2 Q (o :: l) Fs A :=
  ⟨fun _ v _ => v = c, ⟨fun _ _ _ _ _ h => h, fun _ _ _ _ h => h⟩, h _ (fun _ _ h => h), fun _ => ⟨hg, ob⟩, fun e => absurd (hm.symm.trans e) hne, fun e _ => absurd hm e⟩
theorem wpRel5_move2c {Q : List Fact5 → (Vals → Act) → Prop} {o : Oper} {l : List Oper} {Fs : List Fact5} {A : Vals → Act} (hm : Fs.length = m2) (hne : m1 ≠ m2) (hg : o.guard = none)
    (c : Value) (ob : ∀ f w, C 1 w → deps md o (at5 Fs 1) f w → mvOp5 P (C 2) o (A f) w (fun v _ => v = c))
    (h : ∀ K : List Fact5 → (Vals → Act) → Prop, (∀ Gs B, wpRel5 P md ops R1 C m1 m2 Q l Gs B → K Gs B) → K (Fs ++ [fun _ v _ => v = c]) (fun f => (A f).put o.dst (f Fs.length))) :
    wpRel5 P md ops R1 C m1 m2 Q (o :: l) Fs A :=
  ⟨fun _ v _ => v = c, ⟨fun _ _ _ _ _ h => h, fun _ _ _ _ h => h⟩, h _ (fun _ _ h => h), fun e => absurd (e.symm.trans hm) hne, fun _ => ⟨hg, ob⟩, fun _ e => absurd hm e⟩
end
/-- Worlds of two moves. -/
def StT (A B D : World → Prop) (k : Nat) (W : World) : Prop := (k = 0 → A W) ∧ (k = 1 → B W) ∧ (2 ≤ k → D W)
theorem StT.keep {A B D : World → Prop} (hA : ∀ W W', A W → Kp W W' → A W') (hB : ∀ W W', B W → Kp W W' → B W') (hD : ∀ W W', D W → Kp W W' → D W') (b : Nat) (W W' : World) (h : StT A B D b W) (k : Kp W W') : StT A B D b W' := ⟨fun e => hA _ _ (h.1 e) k, fun e => hB _ _ (h.2.1 e) k, fun e => hD _ _ (h.2.2 e) k⟩
theorem StT.any {A B D E : World → Prop} (hA : ∀ W, A W → E W) (hB : ∀ W, B W → E W) (hD : ∀ W, D W → E W) {k : Nat} {W : World} (h : StT A B D k W) : E W := by
  match k with
  | 0 => exact hA _ (h.1 rfl)
  | 1 => exact hB _ (h.2.1 rfl)
  | n + 2 => exact hD _ (h.2.2 (by omega))
theorem StD.any {A B D : World → Prop} (hA : ∀ W, A W → D W) (hB : ∀ W, B W → D W) {b : Bool} {W : World} (h : StD A B b W) : D W := by
  cases b with
  | false => exact hA _ (h.1 rfl)
  | true => exact hB _ (h.2 rfl)
section
variable {p s : Int} {d : Dev} {l : List (Int × Int)} {o : Int}
theorem app_cases (ok : ChOk p s l o) : (leftF s l o = 0 ∧ (frees l l.length = 0 ∨ (0 < frees l l.length ∧ 2147483647 ≤ (nwst l l.length).2))) ∨ (∃ k e, CanOpen s l o k e) ∨ (∃ k : Nat, o = k ∧ k < l.length ∧ uso l k < s - 1) := by
  by_cases hl : leftF s l o = 0
  · by_cases hf : frees l l.length = 0
    · exact Or.inl ⟨hl, Or.inl hf⟩
    · by_cases ht : 2147483647 ≤ (nwst l l.length).2
      · exact Or.inl ⟨hl, Or.inr ⟨by omega, ht⟩⟩
      · obtain ⟨j, j1, j2, j3, j4⟩ := first_ex l (by omega)
        have hlen := ok.len
        exact Or.inr (Or.inl ⟨nth l j, _, ⟨hl, by omega, by omega, ⟨j, j1, j2, j3, j4, rfl⟩, nth_lt l (by omega) j, rfl⟩⟩)
  · rcases ok.op with h1 | ⟨k, h1, h2, h3⟩
    · exact absurd (by unfold leftF; rw [if_pos (by omega)]) hl
    · refine Or.inr (Or.inr ⟨k, h2, h1, ?_⟩)
      have hu := ok.us1 k
      have e : leftF s l o = s - 1 - uso l k := by unfold leftF; rw [if_neg (by omega), h2]; simp
      omega
/-- A call that both answer alike. -/
def AppB (p s : Int) (d : Dev) (l : List (Int × Int)) (o : Int) (kd fa fb : Int) (body : ByteArray) (page c : Int) (d2 : Dev) (l2 : List (Int × Int)) (o2 : Int) : Prop :=
  (∀ X w0 W tb g ib ic h q v, TpS X w0 W tb g ib ic h q p s d v l o → Calls Tryz.prog 16 #[.pointer (some ⟨tb, 0, none⟩), frv kd fa fb body] W (AppPost X w0 tb g ib ic h q p s page c d2 l2 o2)) ∧
  (∀ w0 W rb a ab ac b be bu v, RT w0 W rb a ab ac b be bu p s d v l o → Calls Tryz.prog 17 #[.pointer (some ⟨rb, 0, none⟩), frv kd fa fb body] W (RAppPost w0 W rb a ab ac b be bu p s v page c d2 l2 o2))
theorem app_both (ok : ChOk p s l o) (okd : DevOk p s (l.length : Nat) d) (nd : NdD d) {kd fa fb : Int} {body : ByteArray} (hb : body.size ≤ 9223372036854775807) (ha : 0 ≤ fa ∧ fa ≤ 4294967295) (hb2 : 0 ≤ fb ∧ fb ≤ 4294967295) :
    ∃ page c d2 l2 o2, NdD d2 ∧ l2.length = l.length ∧ AppB p s d l o kd fa fb body page c d2 l2 o2 := by
  have hR := ok.right
  have hrl := nd_len okd nd
  obtain ⟨x, c, hf⟩ : ∃ x c, fbS p s (l.length : Nat) kd fa fb body = (x, c) := ⟨_, _, rfl⟩
  by_cases hc : c = 0
  · subst hc
    have hxs : x.size ≤ 9223372036854775807 := by
      obtain ⟨r1, r2, r3, r4, r5, r6⟩ := id hR
      have hcase := hf
      unfold fbS at hcase
      split at hcase
      · simp at hcase
      · split at hcase
        · simp at hcase
        · split at hcase
          · simp at hcase
          · rename_i h1 h2 h3
            injection hcase with h4 h5
            rw [← h4]
            have := pageS_size (n := p) (k := kd) (a := fa) (b := fb) (t := body) ⟨r1, r2, by omega, by omega, ha.1, ha.2, hb2.1, hb2.2, by omega⟩
            omega
    rcases app_cases ok with ⟨h1, h2⟩ | ⟨k, e, hco⟩ | ⟨k, h1, h2, h3⟩
    · exact ⟨0, 8, d, l, o, nd, rfl, fun X w0 W tb g ib ic h q v t => tapp_full t hb ha hb2 x hf h1 h2, fun w0 W rb a ab ac b be bu v t => rapp_full t hb ha hb2 x hf h1 h2⟩
    · obtain ⟨d1, c1, hd⟩ : ∃ d1 c1, opnD p s l.length d k e = (d1, c1) := ⟨_, _, rfl⟩
      have nd1 : NdD d1 := by
        have := nd_program (p := p) (s := s) (r := (l.length : Nat)) nd ((k : Int) * s) (headP p e k)
        unfold opnD at hd
        rw [hd] at this
        exact this
      have okd1 : DevOk p s (l.length : Nat) d1 := by
        have := programD_ok okd ((k : Int) * s) (headP p e k) (by omega)
        unfold opnD at hd
        rw [hd] at this
        exact this
      have hrl1 := nd_len okd1 nd1
      by_cases hc1 : c1 = 0
      · subst hc1
        exact ⟨_, _, _, _, _, nd_program nd1 _ _, List.length_set, fun X w0 W tb g ib ic h q v t => tapp_open_go t (by omega) hb ha hb2 x hxs hf k e hco d1 hd, fun w0 W rb a ab ac b be bu v t => (rapp_open t (by omega) hb ha hb2 x hxs hf k e hco d1 0 hd (by omega)).mono fun e w' hh => hh.2 rfl⟩
      · exact ⟨_, _, _, _, _, nd1, List.length_set, fun X w0 W tb g ib ic h q v t => tapp_open_bad t (by omega) hb ha hb2 x hf k e hco d1 c1 hd hc1, fun w0 W rb a ab ac b be bu v t => (rapp_open t (by omega) hb ha hb2 x hxs hf k e hco d1 c1 hd (by omega)).mono fun e w' hh => hh.1 hc1⟩
    · exact ⟨_, _, _, _, _, nd_program nd _ _, List.length_set, fun X w0 W tb g ib ic h q v t => tapp_go t (by omega) hb ha hb2 x hxs hf k h1 h2 h3, fun w0 W rb a ab ac b be bu v t => rapp_go t (by omega) hb ha hb2 x hxs hf k h1 h2 h3⟩
  · exact ⟨0, c, d, l, o, nd, rfl, fun X w0 W tb g ib ic h q v t => tapp_bad t hb ha hb2 x c hf hc, fun w0 W rb a ab ac b be bu v t => rapp_bad t hb ha hb2 x c hf hc⟩
/-- Likewise of Erase. -/
def EraB (p s : Int) (d : Dev) (l : List (Int × Int)) (o i c : Int) (d2 : Dev) (l2 : List (Int × Int)) : Prop :=
  (∀ X w0 W tb g ib ic h q v, TpS X w0 W tb g ib ic h q p s d v l o → Calls Tryz.prog 12 #[.pointer (some ⟨tb, 0, none⟩), .int .i64 i] W fun e w' => e = .returned (.int .i64 c) ∧ ∃ v2, TpS X w0 w' tb g ib ic h q p s d2 v2 l2 o) ∧
  (∀ w0 W rb a ab ac b be bu v, RT w0 W rb a ab ac b be bu p s d v l o → Calls Tryz.prog 13 #[.pointer (some ⟨rb, 0, none⟩), .int .i64 i] W fun e w' => e = .returned (.int .i64 c) ∧ ∃ v2, RT w0 w' rb a ab ac b be bu p s d2 v2 l2 o ∧ RtMv W w' rb a ab b be bu v v2)
theorem era_both (ok : ChOk p s l o) (okd : DevOk p s (l.length : Nat) d) (nd : NdD d) (i : Int) : ∃ c d2 l2, NdD d2 ∧ l2.length = l.length ∧ EraB p s d l o i c d2 l2 := by
  have hR := ok.right
  obtain ⟨r1, r2, r3, r4, r5, r6⟩ := id hR
  have hrl := nd_len okd nd
  by_cases hi : i < 0 ∨ (l.length : Int) ≤ i
  · exact ⟨1, d, l, nd, rfl, fun X w0 W tb g ib ic h q v t => (terase_arg t i hi).mono fun e w' ⟨h1, h2⟩ => ⟨h1, v, t.keep h2⟩, fun w0 W rb a ab ac b be bu v t => (rter_arg t i hi).mono fun e w' ⟨h1, h2⟩ => ⟨h1, v, t.keep h2, RtMv.of h2 v⟩⟩
  · obtain ⟨k, rfl⟩ : ∃ k : Nat, i = k := ⟨i.toNat, by omega⟩
    have hk : k < l.length := by omega
    by_cases hz : epo l k = 0 ∨ (epo l k ≠ 0 ∧ o = k)
    · exact ⟨7, d, l, nd, rfl, fun X w0 W tb g ib ic h q v t => (terase_state t k hk hz).mono fun e w' ⟨h1, h2⟩ => ⟨h1, v, t.keep h2⟩, fun w0 W rb a ab ac b be bu v t => (rter_state t k hk hz).mono fun e w' ⟨h1, h2⟩ => ⟨h1, v, t.keep h2, RtMv.of h2 v⟩⟩
    · have hz1 : epo l k ≠ 0 := fun e => hz (Or.inl e)
      have ho : o ≠ k := fun e => hz (Or.inr ⟨hz1, e⟩)
      obtain ⟨d1, c1, hd⟩ : ∃ d1 c1, eraseD p s (l.length : Nat) d k = (d1, c1) := ⟨_, _, rfl⟩
      have nd1 : NdD d1 := by
        have := nd_erase (p := p) (s := s) (r := (l.length : Nat)) nd (k : Int) (by omega)
        rw [hd] at this
        exact this
      by_cases hc : c1 = 0
      · subst hc
        exact ⟨0, d1, l.set k (0, 0), nd1, List.length_set, fun X w0 W tb g ib ic h q v t => terase_go t (by omega) k hk hz1 ho d1 hd, fun w0 W rb a ab ac b be bu v t => by
          have := rter_go t (by omega) k hk hz1 ho d1 0 hd
          rw [if_pos rfl] at this
          exact this⟩
      · exact ⟨c1, d1, l, nd1, rfl, fun X w0 W tb g ib ic h q v t => terase_dev t (by omega) k hk hz1 ho d1 c1 hd hc, fun w0 W rb a ab ac b be bu v t => by
          have := rter_go t (by omega) k hk hz1 ho d1 c1 hd
          rw [if_neg hc] at this
          exact this⟩
end
/-! Steps of both. -/
section
variable {w0 W W' : World} {pb tb g ib ic h q rb a ab ac b be bu : Nat} {p s : Int} {d d2 d3 : Dev} {v v2 v3 : Value} {l l2 l3 : List (Int × Int)} {o o2 o3 : Int}
theorem TpS.tail {X : List (Nat × Obj)} {y : Nat × Obj} (t : TpS (y :: X) w0 W tb g ib ic h q p s d v l o) : TpS X w0 W tb g ib ic h q p s d v l o := ⟨t.box, t.fl, t.ch, t.cok, t.new, t.dj, fun z hz => t.watch z (List.mem_cons_of_mem _ hz)⟩
theorem TpS.addY {X : List (Nat × Obj)} {W0 : World} (t0 : TpS X w0 W0 tb g ib ic h q p s d v l o) (k : Kp W0 W) (x : Nat) (ob : Obj) (hb : W0.heap.size ≤ x) (ho : W.heap[x]? = some ob) : TpS ((x, ob) :: X) w0 W tb g ib ic h q p s d v l o := by
  have t := t0.keep k
  have l1 := t0.fl.at_.foot_lt
  have hc := t0.ch
  have l2 := hc.box.lt
  have l3 := hc.row.lt
  refine ⟨t.box, t.fl, t.ch, t.cok, t.new, t.dj, fun y hy => ?_⟩
  rcases List.mem_cons.1 hy with rfl | hy
  · exact ⟨ho, fun hx => by have := l1 _ hx; omega, by show x ≠ h; omega, by show x ≠ q; omega⟩
  · exact t.watch y hy
theorem TP.pc (t : TP w0 W pb tb g ib ic h q rb a ab ac b be bu p s d d2 v v2 l l2 o o2) : W.cell? ⟨pb, 0, none⟩ = some (.pointer (some ⟨g, 0, none⟩)) ∧ W.cell? ⟨pb, 1, none⟩ = some (.pointer (some ⟨h, 0, none⟩)) ∧ W.cell? ⟨pb, 2, none⟩ = some (.pointer (some ⟨tb, 0, none⟩)) ∧ W.cell? ⟨pb, 3, none⟩ = some (.pointer (some ⟨rb, 0, none⟩)) ∧ W.cell? ⟨rb, 0, none⟩ = some (.pointer (some ⟨a, 0, none⟩)) ∧ W.cell? ⟨rb, 1, none⟩ = some (.pointer (some ⟨b, 0, none⟩)) := by
  have hb : Bk W pb 43 (pairCells g h tb rb) := (t.tp.watch _ (List.mem_singleton.2 rfl)).1
  have hr := t.rt.box
  exact ⟨hb.cell 0, hb.cell 1, hb.cell 2, hb.cell 3, hr.cell 0, hr.cell 1⟩
/-- The program's step, beside a box. -/
theorem TP.callP (t : TP w0 W pb tb g ib ic h q rb a ab ac b be bu p s d d2 v v2 l l2 o o2) (k : Kp W W') (x : Nat) (ob : Obj) (hb : W.heap.size ≤ x) (ho : W'.heap[x]? = some ob) {f : Nat} {args : Array Value} {c : Value} {d3 : Dev} {l3 : List (Int × Int)} {o3 : Int}
    (H : ∀ X W, TpS X w0 W tb g ib ic h q p s d v l o → Calls Tryz.prog f args W fun e w' => e = .returned c ∧ ∃ v3, TpS X w0 w' tb g ib ic h q p s d3 v3 l3 o3) :
    Calls Tryz.prog f args W' fun e w' => e = .returned c ∧ ∃ v3, TP w0 w' pb tb g ib ic h q rb a ab ac b be bu p s d3 d2 v3 v2 l3 l2 o3 o2 ∧ w'.heap[x]? = some ob := by
  refine (H _ _ (t.toP.addY k x ob hb ho)).mono ?_
  rintro e w' ⟨h1, v3, h2⟩
  exact ⟨h1, v3, t.stepP h2.tail, (h2.watch _ (List.mem_cons_self ..)).1⟩
theorem TP.callP0 (t : TP w0 W pb tb g ib ic h q rb a ab ac b be bu p s d d2 v v2 l l2 o o2) {f : Nat} {args : Array Value} {c : Value} {d3 : Dev} {l3 : List (Int × Int)} {o3 : Int}
    (H : ∀ X W, TpS X w0 W tb g ib ic h q p s d v l o → Calls Tryz.prog f args W fun e w' => e = .returned c ∧ ∃ v3, TpS X w0 w' tb g ib ic h q p s d3 v3 l3 o3) :
    Calls Tryz.prog f args W fun e w' => e = .returned c ∧ ∃ v3, TP w0 w' pb tb g ib ic h q rb a ab ac b be bu p s d3 d2 v3 v2 l3 l2 o3 o2 := by
  refine (H _ _ t.toP).mono ?_
  rintro e w' ⟨h1, v3, h2⟩
  exact ⟨h1, v3, t.stepP h2⟩
theorem TP.callR (t : TP w0 W pb tb g ib ic h q rb a ab ac b be bu p s d d2 v v2 l l2 o o2) {f : Nat} {args : Array Value} {c : Value} {d3 : Dev} {l3 : List (Int × Int)} {o3 : Int}
    (H : RT w0 W rb a ab ac b be bu p s d2 v2 l2 o2 → Calls Tryz.prog f args W fun e w' => e = .returned c ∧ ∃ v3, RT w0 w' rb a ab ac b be bu p s d3 v3 l3 o3 ∧ RtMv W w' rb a ab b be bu v2 v3) :
    Calls Tryz.prog f args W fun e w' => e = .returned c ∧ ∃ v3, TP w0 w' pb tb g ib ic h q rb a ab ac b be bu p s d d3 v v3 l l3 o o3 := by
  refine (H t.rt).mono ?_
  rintro e w' ⟨h1, v3, h2, h3⟩
  exact ⟨h1, v3, t.stepR h2 h3⟩
end
end Go.Proofs.YtnhogmheedeeiaaGreat
/- Both tapes, made; steps that come in. -/
namespace Go.Proofs.YtnhogmheedeeiaaGreat
open Go.RowKit
set_option linter.unusedVariables false
set_option maxRecDepth 20000
theorem bk_ne {W : World} {g g' : Nat} {t t' : TypeId} {cs cs' : List Value} (h : Bk W g t cs) (h' : Bk W g' t' cs') (ne : t ≠ t') : g ≠ g' := by
  rintro rfl
  unfold Bk at h h'
  rw [h] at h'
  injection h' with h'
  injection h' with _ h' _
  exact ne h'
theorem bk_by {W : World} {g g' : Nat} {t : TypeId} {cs : List Value} {xs : List Int} (h : Bk W g t cs) (h' : By W g' xs) (ne : t ≠ 5) : g ≠ g' := by
  rintro rfl
  obtain ⟨pad, lo, hi, h1, _⟩ := h'
  unfold Bk at h
  rw [h] at h1
  injection h1 with h1
  injection h1 with _ h1 _
  exact ne h1
theorem tp_made {w2 w3 W : World} {pb tb g ib ic h q rb a ab ac b be bu n : Nat} {p s : Int} {v : Value} (hR : RightG p s n) (t : TpS [(pb, pairOb g h tb rb)] w2 W tb g ib ic h q p s (newD p s (n : Nat) ⟨#[]⟩) v (List.replicate n (0, 0)) (-1)) (k1 : Kp w2 w3)
    (l1 : ∀ x ∈ foot g ib v, x < w3.heap.size) (l2 : h < w3.heap.size) (l3 : q < w3.heap.size) (l4 : tb < w3.heap.size) (r : RtAt w3 W rb a ab ac b be bu p s (newD p s (n : Nat) ⟨#[]⟩) (.slice none 0 0) (List.replicate n (0, 0)) (-1)) :
    TP w2 W pb tb g ib ic h q rb a ab ac b be bu p s (newD p s (n : Nat) ⟨#[]⟩) (newD p s (n : Nat) ⟨#[]⟩) v (.slice none 0 0) (List.replicate n (0, 0)) (List.replicate n (0, 0)) (-1) (-1) := by
  have hrl : (List.replicate n ((0 : Int), (0 : Int))).length = n := List.length_replicate
  have hle : ((⟨#[]⟩ : ByteArray).size : Int) ≤ p * s * (n : Nat) := by have := (mul3 hR).2.2.1; show ((0 : Nat) : Int) ≤ _; omega
  have hpb : Bk W pb 43 (pairCells g h tb rb) := (t.watch _ (List.mem_singleton.2 rfl)).1
  have hrb := r.box
  have hfl := r.fl
  have hch := r.ch
  obtain ⟨n1, n2, n3, n4, n5⟩ := r.new
  have hb := hch.box
  have hbe := hch.er
  have hbu := hch.ur
  have ha := hfl.box
  have hab := hfl.img
  have hs := k1.size
  refine ⟨t, ⟨hrb, ⟨_, hfl, ⟨rfl, rfl, rfl, fun _ => ⟨rfl, fun _ => rfl⟩, fun hx => by simp [newD] at hx⟩⟩, by rw [hrl]; exact newD_ok hR _ hle, hch, repOk p s n hR, fun x hx => ?_, ⟨⟨bk_ne hrb hb (by decide), bk_ne hrb hbe (by decide), bk_ne hrb hbu (by decide), fun hx => ?_⟩, fun hx => ?_, fun hx => ?_, fun hx => ?_⟩, t.fl.kp⟩, fun x hx => ?_⟩
  · simp only [rbl, List.mem_cons] at hx
    rcases hx with rfl | rfl | rfl | rfl | hx
    · omega
    · omega
    · omega
    · omega
    · have := n2 x hx
      omega
  · simp [foot, Value.ownBlock] at hx
    rcases hx with hx | hx
    · exact bk_ne hrb ha (by decide) hx
    · exact bk_by hrb hab (by decide) hx
  · simp [foot, Value.ownBlock] at hx
    rcases hx with hx | hx
    · exact bk_ne hb ha (by decide) hx
    · exact bk_by hb hab (by decide) hx
  · simp [foot, Value.ownBlock] at hx
    rcases hx with hx | hx
    · exact bk_ne hbe ha (by decide) hx
    · exact bk_by hbe hab (by decide) hx
  · simp [foot, Value.ownBlock] at hx
    rcases hx with hx | hx
    · exact bk_ne hbu ha (by decide) hx
    · exact bk_by hbu hab (by decide) hx
  · have hge : w3.heap.size ≤ x ∧ x ≠ pb := by
      simp only [rbl, foot, Value.ownBlock, List.mem_cons, Option.mem_toList] at hx
      rcases hx with rfl | rfl | rfl | rfl | rfl | rfl | hx
      · exact ⟨n1, bk_ne hrb hpb (by decide)⟩
      · exact ⟨n3, bk_ne hb hpb (by decide)⟩
      · exact ⟨n4, bk_ne hbe hpb (by decide)⟩
      · exact ⟨n5, bk_ne hbu hpb (by decide)⟩
      · exact ⟨n2 _ (by simp [foot]), bk_ne ha hpb (by decide)⟩
      · exact ⟨n2 _ (by simp [foot]), fun e => bk_by hpb hab (by decide) e.symm⟩
      · cases hx
    exact ⟨fun hy => by have := l1 x hy; omega, by omega, by omega, by omega, hge.2⟩
theorem StT.at0 {A B D : World → Prop} {W : World} (h : A W) : StT A B D 0 W := ⟨fun _ => h, fun e => absurd e (by decide), fun e => absurd e (by decide)⟩
theorem StT.at1 {A B D : World → Prop} {W : World} (h : B W) : StT A B D 1 W := ⟨fun e => absurd e (by decide), fun _ => h, fun e => absurd e (by decide)⟩
theorem StT.at2 {A B D : World → Prop} {W : World} (h : D W) : StT A B D 2 W := ⟨fun e => absurd e (by decide), fun e => absurd e (by decide), fun _ => h⟩
theorem StD.at0 {A B : World → Prop} {W : World} (h : A W) : StD A B false W := ⟨fun _ => h, fun e => absurd e (by decide)⟩
theorem StD.at1 {A B : World → Prop} {W : World} (h : B W) : StD A B true W := ⟨fun e => absurd e (by decide), fun _ => h⟩
/-- Both tapes, wherever their rows lie. -/
def TPe (w0 : World) (pb tb g ib ic h q rb a ab ac b be bu : Nat) (p s : Int) (d d2 : Dev) (l l2 : List (Int × Int)) (o o2 : Int) (W : World) : Prop := ∃ v v2, TP w0 W pb tb g ib ic h q rb a ab ac b be bu p s d d2 v v2 l l2 o o2
section
variable {w0 W W' : World} {pb tb g ib ic h q rb a ab ac b be bu : Nat} {p s : Int} {d d2 d3 : Dev} {l l2 l3 : List (Int × Int)} {o o2 o3 : Int}
theorem TPe.keep (t : TPe w0 pb tb g ib ic h q rb a ab ac b be bu p s d d2 l l2 o o2 W) (k : Kp W W') : TPe w0 pb tb g ib ic h q rb a ab ac b be bu p s d d2 l l2 o o2 W' := by
  obtain ⟨v, v2, t⟩ := t
  exact ⟨v, v2, t.keep k⟩
theorem TPe.pc (t : TPe w0 pb tb g ib ic h q rb a ab ac b be bu p s d d2 l l2 o o2 W) : W.cell? ⟨pb, 0, none⟩ = some (.pointer (some ⟨g, 0, none⟩)) ∧ W.cell? ⟨pb, 1, none⟩ = some (.pointer (some ⟨h, 0, none⟩)) ∧ W.cell? ⟨pb, 2, none⟩ = some (.pointer (some ⟨tb, 0, none⟩)) ∧ W.cell? ⟨pb, 3, none⟩ = some (.pointer (some ⟨rb, 0, none⟩)) ∧ W.cell? ⟨rb, 0, none⟩ = some (.pointer (some ⟨a, 0, none⟩)) ∧ W.cell? ⟨rb, 1, none⟩ = some (.pointer (some ⟨b, 0, none⟩)) := by
  obtain ⟨v, v2, t⟩ := t
  exact t.pc
theorem TPe.kp (t : TPe w0 pb tb g ib ic h q rb a ab ac b be bu p s d d2 l l2 o o2 W) : Kp w0 W := by
  obtain ⟨v, v2, t⟩ := t
  exact t.tp.fl.kp
theorem TPe.callP (t : TPe w0 pb tb g ib ic h q rb a ab ac b be bu p s d d2 l l2 o o2 W) (k : Kp W W') (x : Nat) (ob : Obj) (hb : W.heap.size ≤ x) (ho : W'.heap[x]? = some ob) {f : Nat} {args : Array Value} {c : Value}
    (H : ∀ X W v, TpS X w0 W tb g ib ic h q p s d v l o → Calls Tryz.prog f args W fun e w' => e = .returned c ∧ ∃ v3, TpS X w0 w' tb g ib ic h q p s d3 v3 l3 o3) :
    Calls Tryz.prog f args W' fun e w' => e = .returned c ∧ TPe w0 pb tb g ib ic h q rb a ab ac b be bu p s d3 d2 l3 l2 o3 o2 w' ∧ w'.heap[x]? = some ob := by
  obtain ⟨v, v2, t⟩ := t
  refine (t.callP k x ob hb ho (fun X W => H X W v)).mono ?_
  rintro e w' ⟨h1, v3, h2, h3⟩
  exact ⟨h1, ⟨v3, v2, h2⟩, h3⟩
theorem TPe.callP0 (t : TPe w0 pb tb g ib ic h q rb a ab ac b be bu p s d d2 l l2 o o2 W) {f : Nat} {args : Array Value} {c : Value}
    (H : ∀ X W v, TpS X w0 W tb g ib ic h q p s d v l o → Calls Tryz.prog f args W fun e w' => e = .returned c ∧ ∃ v3, TpS X w0 w' tb g ib ic h q p s d3 v3 l3 o3) :
    Calls Tryz.prog f args W fun e w' => e = .returned c ∧ TPe w0 pb tb g ib ic h q rb a ab ac b be bu p s d3 d2 l3 l2 o3 o2 w' := by
  obtain ⟨v, v2, t⟩ := t
  refine (t.callP0 (fun X W => H X W v)).mono ?_
  rintro e w' ⟨h1, v3, h2⟩
  exact ⟨h1, v3, v2, h2⟩
theorem TPe.callR (t : TPe w0 pb tb g ib ic h q rb a ab ac b be bu p s d d2 l l2 o o2 W) {f : Nat} {args : Array Value} {c : Value}
    (H : ∀ v2, RT w0 W rb a ab ac b be bu p s d2 v2 l2 o2 → Calls Tryz.prog f args W fun e w' => e = .returned c ∧ ∃ v3, RT w0 w' rb a ab ac b be bu p s d3 v3 l3 o3 ∧ RtMv W w' rb a ab b be bu v2 v3) :
    Calls Tryz.prog f args W fun e w' => e = .returned c ∧ TPe w0 pb tb g ib ic h q rb a ab ac b be bu p s d d3 l l3 o o3 w' := by
  obtain ⟨v, v2, t⟩ := t
  refine (t.callR (H v2)).mono ?_
  rintro e w' ⟨h1, v3, h2⟩
  exact ⟨h1, v, v3, h2⟩
end
/-- Likewise, a box beside it, newer than the reference's blocks. -/
def TPb (w0 : World) (pb tb g ib ic h q rb a ab ac b be bu : Nat) (p s : Int) (d d2 : Dev) (l l2 : List (Int × Int)) (o o2 : Int) (x : Nat) (ob : Obj) (W : World) : Prop := ∃ v v2, TP w0 W pb tb g ib ic h q rb a ab ac b be bu p s d d2 v v2 l l2 o o2 ∧ W.heap[x]? = some ob ∧ ∀ y ∈ rbl rb a ab b be bu v2, y < x
section
variable {w0 W W' : World} {pb tb g ib ic h q rb a ab ac b be bu : Nat} {p s : Int} {d d2 d3 : Dev} {l l2 l3 : List (Int × Int)} {o o2 o3 : Int} {x : Nat} {ob : Obj}
theorem TPb.keep (t : TPb w0 pb tb g ib ic h q rb a ab ac b be bu p s d d2 l l2 o o2 x ob W) (k : Kp W W') : TPb w0 pb tb g ib ic h q rb a ab ac b be bu p s d d2 l l2 o o2 x ob W' := by
  obtain ⟨v, v2, t, e, hx⟩ := t
  exact ⟨v, v2, t.keep k, (Below.block k x (Array.getElem?_eq_some_iff.1 e).1).trans e, hx⟩
theorem TPb.e (t : TPb w0 pb tb g ib ic h q rb a ab ac b be bu p s d d2 l l2 o o2 x ob W) : TPe w0 pb tb g ib ic h q rb a ab ac b be bu p s d d2 l l2 o o2 W ∧ W.heap[x]? = some ob := by
  obtain ⟨v, v2, t, e, hx⟩ := t
  exact ⟨⟨v, v2, t⟩, e⟩
theorem TPe.callPb (t : TPe w0 pb tb g ib ic h q rb a ab ac b be bu p s d d2 l l2 o o2 W) (k : Kp W W') (hb : W.heap.size ≤ x) (ho : W'.heap[x]? = some ob) {f : Nat} {args : Array Value} {c : Value}
    (H : ∀ X W v, TpS X w0 W tb g ib ic h q p s d v l o → Calls Tryz.prog f args W fun e w' => e = .returned c ∧ ∃ v3, TpS X w0 w' tb g ib ic h q p s d3 v3 l3 o3) :
    Calls Tryz.prog f args W' fun e w' => e = .returned c ∧ TPb w0 pb tb g ib ic h q rb a ab ac b be bu p s d3 d2 l3 l2 o3 o2 x ob w' := by
  obtain ⟨v, v2, t⟩ := t
  have hlt := t.rt.lt
  refine (t.callP k x ob hb ho (fun X W => H X W v)).mono ?_
  rintro e w' ⟨h1, v3, h2, h3⟩
  exact ⟨h1, v3, v2, h2, h3, fun y hy => by have := hlt y hy; omega⟩
theorem TPb.callR (t : TPb w0 pb tb g ib ic h q rb a ab ac b be bu p s d d2 l l2 o o2 x ob W) {f : Nat} {args : Array Value} {c : Value}
    (H : ∀ v2, RT w0 W rb a ab ac b be bu p s d2 v2 l2 o2 → Calls Tryz.prog f args W fun e w' => e = .returned c ∧ ∃ v3, RT w0 w' rb a ab ac b be bu p s d3 v3 l3 o3 ∧ RtMv W w' rb a ab b be bu v2 v3) :
    Calls Tryz.prog f args W fun e w' => e = .returned c ∧ (TPe w0 pb tb g ib ic h q rb a ab ac b be bu p s d d3 l l3 o o3 w' ∧ w'.heap[x]? = some ob) := by
  obtain ⟨v, v2, t, he, hx⟩ := t
  refine (H v2 t.rt).mono ?_
  rintro e w' ⟨h1, v3, h2, h3⟩
  exact ⟨h1, ⟨v, v3, t.stepR h2 h3⟩, (h3.1.block x (Array.getElem?_eq_some_iff.1 he).1 (fun hm => by have := hx x hm; omega)).trans he⟩
end
/-- A step that comes in. -/
structure TStp where
  what : Int
  a : Int
  fk : Int
  fa : Int
  fb : Int
  ft : ByteArray
  near : Bool
instance : Inhabited TStp := ⟨⟨0, 0, 0, 0, 0, ⟨#[]⟩, false⟩⟩
def tscells (y : TStp) : List Value := [.int .i64 y.what, .int .i64 y.a, .int .i64 y.fk, .int .u32 y.fa, .int .u32 y.fb, .string y.ft, .bool y.near]
def TStpsAt (w : World) (A : Option Addr) (xs : List TStp) : Prop :=
  xs.length ≤ 9223372036854775807 ∧ (0 < xs.length → ∃ b off, A = some ⟨b, off, none⟩ ∧ ∀ j (h : j < xs.length), w.cell? ⟨b, off + j * 7, none⟩ = some (.int .i64 xs[j].what) ∧ w.cell? ⟨b, off + j * 7 + 1, none⟩ = some (.int .i64 xs[j].a) ∧ w.cell? ⟨b, off + j * 7 + 2, none⟩ = some (.int .i64 xs[j].fk) ∧ w.cell? ⟨b, off + j * 7 + 3, none⟩ = some (.int .u32 xs[j].fa) ∧ w.cell? ⟨b, off + j * 7 + 4, none⟩ = some (.int .u32 xs[j].fb) ∧ w.cell? ⟨b, off + j * 7 + 5, none⟩ = some (.string xs[j].ft) ∧ w.cell? ⟨b, off + j * 7 + 6, none⟩ = some (.bool xs[j].near))
def TStpOk (xs : List TStp) : Prop := ∀ y ∈ xs, (-9223372036854775808 ≤ y.what ∧ y.what ≤ 9223372036854775807) ∧ (-9223372036854775808 ≤ y.a ∧ y.a ≤ 9223372036854775807) ∧ (-9223372036854775808 ≤ y.fk ∧ y.fk ≤ 9223372036854775807) ∧ (0 ≤ y.fa ∧ y.fa ≤ 4294967295) ∧ (0 ≤ y.fb ∧ y.fb ≤ 4294967295) ∧ y.ft.size ≤ 9223372036854775807
/-- What holds at the loop's head. -/
def TQ (w2 : World) (pb tb g ib ic h q rb a ab ac b be bu : Nat) (p s : Int) (n : Nat) (iv : Value) (wr : World) : Prop :=
  ∃ (j : Nat) (d : Dev) (l : List (Int × Int)) (o : Int), j ≤ 60 ∧ iv = .int .i64 j ∧ TPe w2 pb tb g ib ic h q rb a ab ac b be bu p s d d l l o o wr ∧ NdD d ∧ l.length = n
/-- What holds behind the switch. -/
def TS (w2 : World) (pb tb g ib ic h q rb a ab ac b be bu : Nat) (p s : Int) (n : Nat) (ev dv av bv : Value) (wr : World) : Prop :=
  ∃ (c pg : Int) (d : Dev) (l : List (Int × Int)) (o : Int), ev = .int .i64 c ∧ dv = .int .i64 c ∧ av = .int .i64 pg ∧ bv = .int .i64 pg ∧ TPe w2 pb tb g ib ic h q rb a ab ac b be bu p s d d l l o o wr ∧ NdD d ∧ l.length = n
/-- The frame that is tried. -/
def TX (wr : World) (bx : Nat) (wx : World) : Prop := ∃ (kd fa fb : Int) (bd : ByteArray), (0 ≤ fa ∧ fa ≤ 4294967295) ∧ (0 ≤ fb ∧ fb ≤ 4294967295) ∧ bd.size ≤ 9223372036854775807 ∧ Bk wx bx 31 [.int .i64 kd, .int .u32 fa, .int .u32 fb, .string bd] ∧ Kp wr wx
end Go.Proofs.YtnhogmheedeeiaaGreat
