/- Merged texts: ScRun, ScPlain, ScRun2. -/
import Derived.Test.YtecelmhiffcaeaaGI
import Derived.Test.YtecelmhiffcaeaaGS
import Derived.Test.YtecelmhiffcaeaaGH
import Derived.Test.YtecelmhiffcaeaaGT
set_option linter.unusedSimpArgs false
set_option linter.unusedVariables false
/- A tape whose device goes from state to state: Append, frame by frame; a row of frames beside it. -/
namespace Go.Proofs.Ytecelmhiffcaeaa
open Go.RowKit
set_option linter.unusedVariables false
set_option maxRecDepth 20000
section
variable {X : List (Nat × Obj)} {w0 W : World} {tb g ib ic h q : Nat} {p s : Int} {v : Value} {n m c u k i : Nat} {d d1 d2 : Dev} {D : Nat → Dev} {B : Nat → ByteArray} {kd a b : Int} {body : ByteArray} {fr : Nat → Fm}
/-- The open region has room. -/
theorem gun_go (hs : s = (m : Int) + 1) (t : TpS X w0 W tb g ib ic h q p s d v (RL n m c u) ((c : Int) - 1)) (hrl : d.row.length < 1000) (hc : 1 ≤ c) (hcn : c ≤ n) (hu : u < m) (hk : k = (c - 1) * (m + 1) + (u + 1)) (hkb : k < 1000)
    (hb : body.size ≤ 9223372036854775807) (ha : 0 ≤ a ∧ a ≤ 4294967295) (hb2 : 0 ≤ b ∧ b ≤ 4294967295) (hf : fbS p s (n : Nat) kd a b body = (B k, 0)) (hB : ((B k).size : Int) = p) (cd : Int)
    (hpr : programD p s (n : Nat) d (k : Int) (B k) = (d2, cd)) :
    Calls Try.prog 24 #[.pointer (some ⟨tb, 0, none⟩), frv kd a b body] W (AppPost X w0 tb g ib ic h q p s (if cd = 0 then (k : Int) else 0) cd d2 (RL n m c (u + 1)) ((c : Int) - 1)) := by
  have hlen := RL_len n m c u
  have hR := t.cok.right
  have hus := RL_uso n m c u hc hcn
  have hep : epo (RL n m c u) (c - 1) = (c : Int) := by rw [RL_epo _ _ _ _ _ (by omega), if_pos (by omega)]; omega
  have ho : (c : Int) - 1 = ((c - 1 : Nat) : Int) := by omega
  have hpg : ((c - 1 : Nat) : Int) * s + (uso (RL n m c u) (c - 1) + 1) = (k : Int) := by
    rw [hus, hk]
    have := slot_c hs (c - 1) (u + 1)
    push_cast at this ⊢
    omega
  have H := tapp_go (o := (c : Int) - 1) t (by omega) hb ha hb2 (B k) (by unfold RightG at hR; omega) (by rw [hlen]; exact hf) (c - 1) ho (by rw [hlen]; omega) (by rw [hus]; omega)
  unfold goPage goD at H
  rw [hpg, hlen, hpr, hep, hus, show (u : Int) + 1 = ((u + 1 : Nat) : Int) by omega, RL_set _ _ _ _ _ hc hcn, ← ho] at H
  exact H
/-- A region is opened. -/
theorem gun_opn (hs : s = (m : Int) + 1) (t : TpS X w0 W tb g ib ic h q p s d v (RL n m c m) ((c : Int) - 1)) (hrl : d.row.length < 1000) (hcn : c < n) (hk : k = c * (m + 1)) (hkb : k < 1000)
    (hb : body.size ≤ 9223372036854775807) (ha : 0 ≤ a ∧ a ≤ 4294967295) (hb2 : 0 ≤ b ∧ b ≤ 4294967295) (hf : fbS p s (n : Nat) kd a b body = (B (k + 1), 0)) (hB : ((B (k + 1)).size : Int) = p) (hH : B k = headP p ((c : Int) + 1) c) (cd : Int)
    (hpr : programD p s (n : Nat) d (k : Int) (B k) = (d1, 0))
    (hpr2 : programD p s (n : Nat) d1 ((k + 1 : Nat) : Int) (B (k + 1)) = (d2, cd)) :
    Calls Try.prog 24 #[.pointer (some ⟨tb, 0, none⟩), frv kd a b body] W (AppPost X w0 tb g ib ic h q p s (if cd = 0 then ((k + 1 : Nat) : Int) else 0) cd d2 (RL n m (c + 1) 1) (c : Nat)) := by
  have hlen := RL_len n m c m
  have hl := t.cok.len
  have hR := t.cok.right
  have hcan := RL_can s n m c hcn (by omega) hs
  have hpg : (c : Int) * s = (k : Int) := by have := slot_c hs c 0; rw [hk]; push_cast at this ⊢; omega
  have hod : opnD p s (RL n m c m).length d c ((c : Int) + 1) = (d1, 0) := by
    unfold opnD
    rw [hlen, hpg, ← hH]
    exact hpr
  have H := tapp_open_go t (by omega) hb ha hb2 (B (k + 1)) (by unfold RightG at hR; omega) (by rw [hlen]; exact hf) c ((c : Int) + 1) hcan _ hod
  rw [hlen, hpg, show (k : Int) + 1 = ((k + 1 : Nat) : Int) by omega, hpr2, RL_opn _ _ _ hcn] at H
  exact H
/-- What a tape is behind i frames; behind k pages its device is D k. -/
def RunG (X : List (Nat × Obj)) (w0 W : World) (tb g ib ic h q : Nat) (p s : Int) (n m : Nat) (D : Nat → Dev) (i c u : Nat) (v : Value) : Prop :=
  Pos m i c u ∧ TpS X w0 W tb g ib ic h q p s (D (lim m c u)) v (RL n m c u) ((c : Int) - 1)
theorem RunG.keep {W' : World} (t : RunG X w0 W tb g ib ic h q p s n m D i c u v) (k : Kp W W') : RunG X w0 W' tb g ib ic h q p s n m D i c u v := ⟨t.1, t.2.keep k⟩
/-- The device goes on, page by page. -/
def Goes (p s : Int) (n : Nat) (D : Nat → Dev) (B : Nat → ByteArray) (k0 : Nat) : Prop := ∀ k : Nat, k0 ≤ k → (k : Int) < s * (n : Nat) → ((B k).size : Int) = p → (D k).row.length < 1000 ∧ programD p s (n : Nat) (D k) (k : Int) (B k) = (D (k + 1), 0)
/-- What Append of the i-th frame leaves. -/
def GunPost (X : List (Nat × Obj)) (w0 : World) (tb g ib ic h q : Nat) (p s : Int) (n m : Nat) (D : Nat → Dev) (i : Nat) (lo : Nat) (e : Ending) (w' : World) : Prop :=
  e = .returned (.tuple #[.int .i64 ((pgOf m i : Nat) : Int), .int .i64 0]) ∧ ∃ c' u' v', lo ≤ lim m c' u' ∧ RunG X w0 w' tb g ib ic h q p s n m D (i + 1) c' u' v'
theorem gun_append (hR : RightG p s n) (hs : s = (m : Int) + 1) (hm : 2 ≤ m) (t : RunG X w0 W tb g ib ic h q p s n m D i c u v) (hi : i < n * m) (hx : FmOk p (fr i)) (k0 : Nat) (hk0 : k0 ≤ lim m c u) (hD : Goes p s n D (runB p m fr) k0) :
    Calls Try.prog 24 #[.pointer (some ⟨tb, 0, none⟩), frv (fr i).kd (fr i).a (fr i).b (fr i).t] W (GunPost X w0 tb g ib ic h q p s n m D i k0) := by
  obtain ⟨hp, t⟩ := t
  obtain ⟨r1, r2, r3, r4, r5, r6⟩ := id hR
  have hn12 : n ≤ 12 := by omega
  have hm9 : m ≤ 9 := by omega
  have hpg := pos_pg hp (by omega)
  have hsz : (fr i).t.size ≤ 9223372036854775807 := by have := hx.room; omega
  have hfb := hx.fb hR
  have hps := pageS_size (hx.pg hR)
  rcases pos_next hp (by omega) with ⟨h1, h2, h3⟩ | ⟨h1, h2, h3⟩
  · obtain ⟨k1, k2, k3⟩ := pos_full hp h1 hi
    rw [if_pos h1] at hpg
    subst h1
    have hB1 : runB p u fr (c * (u + 1) + 1) = pageS p (fr i).kd (fr i).a (fr i).b (fr i).t := by rw [runB_frame p u fr c 1 (by omega) (by omega), Nat.add_sub_cancel, ← h3]
    have hH := runB_head p u fr c
    have hin : ((c * (u + 1) + 1 : Nat) : Int) < s * (n : Nat) := by
      have := slot_in (n := n) (m := u) (c := c + 1) (u := 1) hs (by omega) (by omega) (by omega)
      rw [Nat.add_sub_cancel] at this
      exact this
    have hb120 := (mul_sr hR).2.1
    rw [k2] at t hk0
    obtain ⟨l1, p1⟩ := hD (c * (u + 1)) hk0 (by omega) (by rw [hH]; exact headP_size hR _ _ (by omega) (by omega))
    obtain ⟨l2, p2⟩ := hD (c * (u + 1) + 1) (by omega) hin (by rw [hB1]; exact hps)
    have H := gun_opn hs t l1 k1 rfl (by omega) hsz hx.a1 hx.b1 (by rw [hB1]; exact hfb) (by rw [hB1]; exact hps) hH 0 p1 p2
    refine H.mono ?_
    rintro e w' ⟨e1, v2, t2⟩
    have hl : lim u (c + 1) 1 = c * (u + 1) + 1 + 1 := by unfold lim; rw [if_neg (by omega), Nat.add_sub_cancel]
    refine ⟨by rw [e1, if_pos rfl, hpg], c + 1, 1, v2, by omega, h2, ?_⟩
    rw [hl, show ((c + 1 : Nat) : Int) - 1 = ((c : Nat) : Int) by omega]
    exact t2
  · rw [if_neg (by omega)] at hpg
    have hl : lim m c u = (c - 1) * (m + 1) + (u + 1) := by unfold lim; rw [if_neg (by omega)]; omega
    have hi2 : i = (c - 1) * m + u := by
      rcases hp with ⟨a1, a2, a3⟩ | ⟨a1, a2, a3, a4⟩
      · omega
      · exact a4
    have hcn : c ≤ n := by
      have : (c - 1) * m < n * m := by omega
      have := Nat.lt_of_mul_lt_mul_right this
      omega
    have hB1 : runB p m fr (lim m c u) = pageS p (fr i).kd (fr i).a (fr i).b (fr i).t := by rw [hl, runB_frame p m fr (c - 1) (u + 1) (by omega) (by omega), show (c - 1) * m + (u + 1) - 1 = i by omega]
    have hin : ((lim m c u : Nat) : Int) < s * (n : Nat) := by
      have := slot_in (n := n) (m := m) (c := c) (u := u + 1) hs h2 hcn (by omega)
      rw [hl]
      exact this
    have hb120 := (mul_sr hR).2.1
    obtain ⟨l1, p1⟩ := hD (lim m c u) hk0 hin (by rw [hB1]; exact hps)
    have H := gun_go hs t l1 h2 hcn h1 hl (by omega) hsz hx.a1 hx.b1 (by rw [hB1]; exact hfb) (by rw [hB1]; exact hps) 0 p1
    refine H.mono ?_
    rintro e w' ⟨e1, v2, t2⟩
    have hl2 : lim m c (u + 1) = lim m c u + 1 := by unfold lim; rw [if_neg (by omega), if_neg (by omega)]; omega
    have hpl : pgOf m i = lim m c u := by omega
    refine ⟨by rw [e1, if_pos rfl, hpl], c, u + 1, v2, by omega, h3, ?_⟩
    rw [hl2]
    exact t2
/-- A blank device: all pages are pending. -/
theorem goes_run (hR : RightG p s n) (B : Nat → ByteArray) : Goes p s n (fun k => runDev p s (n : Nat) B k none) B 0 := by
  intro k _ hk hb
  have h120 := (mul_sr hR).2.1
  exact ⟨by rw [run_rl]; omega, run_prog hR hk hb (fun N h => by cases h)⟩
end
/-! A row of frames beside a tape. -/
/-- The row's block is watched. -/
def Seen (X : List (Nat × Obj)) (v : Value) : Prop := ∀ k, v.ownBlock = some k → ∃ ob, (k, ob) ∈ X
section
variable {X : List (Nat × Obj)} {w0 W W' : World} {tb g ib ic h q base n : Nat} {p s : Int} {d : Dev} {v v1 v2 : Value} {l : List (Int × Int)} {o : Int} {xs ys : List Value} {d2 : Dev} {v3 : Value} {l2 : List (Int × Int)} {o2 : Int}
/-- A row that is watched is as it was. -/
theorem own_seen (t : TpS X w0 W tb g ib ic h q p s d v l o) (t2 : TpS X w0 W' tb g ib ic h q p s d2 v3 l2 o2) (hs : Seen X v1) (ho : W.ownsRow base 33 4 v1 n xs) : W'.ownsRow base 33 4 v1 n xs := by
  rcases ho with ⟨hl, h1 | ⟨r, cap, cur, e1, e2, e3, e4⟩⟩
  · exact ⟨hl, Or.inl h1⟩
  · obtain ⟨ob, hm⟩ := hs r (by rw [e1]; rfl)
    refine ⟨hl, Or.inr ⟨r, cap, cur, e1, e2, ?_, e4⟩⟩
    have a := (t.watch _ hm).1
    have b := (t2.watch _ hm).1
    dsimp only at a b
    rw [b, ← a]
    exact e3
/-- The row grows: the tape is as it was. -/
theorem TpS.app (t : TpS X w0 W tb g ib ic h q p s d v l o) (hs : Seen X v1) (ho : W.ownsRow base 33 4 v1 n xs) (hb : w0.heap.size ≤ base) (hg : W.grownBy W' v1.ownBlock) {n2 : Nat} (ho2 : W'.ownsRow base 33 4 v2 n2 ys) (hat : v2.ownBlock = v1.ownBlock ∨ v2.ownBlock = some W.heap.size) :
    ∃ X', TpS X' w0 W' tb g ib ic h q p s d v l o ∧ Seen X' v2 := by
  have hmv : Mv v1.ownBlock.toList W W' := (Mv.refl W).grown hg (fun k hk => by rw [hk]; simp)
  have hbox := t.box
  have hch := t.ch
  have hft := t.fl.at_.foot_lt
  have hfar : ∀ k, v1.ownBlock = some k → k ∉ foot g ib v ∧ k ≠ h ∧ k ≠ q ∧ k ≠ tb ∧ w0.heap.size ≤ k := by
    intro k hk
    obtain ⟨ob, hm⟩ := hs k hk
    obtain ⟨a1, a2, a3, a4⟩ := t.watch _ hm
    refine ⟨a2, a3, a4, ?_, Nat.le_trans hb (own_block_ge ho k hk)⟩
    rintro rfl
    rcases ho.2 with ⟨e1, _⟩ | ⟨r, cap, cur, e1, e2, e3, e4⟩
    · rw [e1] at hk
      cases hk
    · rw [e1] at hk
      have : r = k := by simpa [Value.ownBlock] using hk
      subst this
      unfold Bk at hbox
      rw [e3] at hbox
      injection hbox with hbox
      injection hbox with _ hbox _
      revert hbox
      decide
  have hno : ∀ x, (∀ k, v1.ownBlock = some k → x ≠ k) → x ∉ v1.ownBlock.toList := fun x hx hm => by
    rw [Option.mem_toList] at hm
    exact hx x hm rfl
  have hbox2 := hbox.mv hmv (hno tb (fun k hk e => (hfar k hk).2.2.2.1 e.symm))
  have hfl2 := t.fl.at_.mv hmv (fun x hx => hno x (fun k hk e => (hfar k hk).1 (e ▸ hx)))
  have hch2 := hch.mv hmv (hno h (fun k hk e => (hfar k hk).2.1 e.symm)) (hno q (fun k hk e => (hfar k hk).2.2.1 e.symm))
  have hkp2 := Mv.kp t.fl.kp (fun x hx => by rw [Option.mem_toList] at hx; exact (hfar x hx).2.2.2.2) hmv
  have base2 : TpS [] w0 W' tb g ib ic h q p s d v l o := ⟨hbox2, ⟨hfl2, t.fl.ok, hkp2, t.fl.new⟩, hch2, t.cok, t.new, t.dj, fun y hy => by cases hy⟩
  rcases hv2 : v2.ownBlock with _ | k
  · exact ⟨[], base2, fun k hk => by rw [hv2] at hk; cases hk⟩
  · have hlt : k < W'.heap.size := (ho2.lt k hv2).2
    obtain ⟨ob, hob⟩ : ∃ ob, W'.heap[k]? = some ob := ⟨W'.heap[k], Array.getElem?_eq_getElem hlt⟩
    refine ⟨[(k, ob)], ⟨base2.box, base2.fl, base2.ch, base2.cok, base2.new, base2.dj, fun y hy => ?_⟩, fun k2 hk2 => ?_⟩
    · have : y = (k, ob) := by simpa using hy
      subst this
      refine ⟨hob, ?_⟩
      rcases hat with hat | hat
      · rw [hv2] at hat
        have := hfar k hat.symm
        exact ⟨this.1, this.2.1, this.2.2.1⟩
      · rw [hv2] at hat
        injection hat with hat
        have h1 := hch.box.lt
        have h2 := hch.row.lt
        exact ⟨fun hx => by have := hft _ hx; dsimp only at this; omega, by dsimp only; omega, by dsimp only; omega⟩
    · rw [hv2] at hk2
      injection hk2 with hk2
      subst hk2
      exact ⟨ob, by simp⟩
end
end Go.Proofs.Ytecelmhiffcaeaa
/- What scan finds on pages that are known: plain laws. -/
namespace Go.Proofs.Ytecelmhiffcaeaa
open Go.RowKit
set_option linter.unusedVariables false
set_option maxRecDepth 20000
def toFr (x : Fm) : Fr := ⟨x.kd, x.a, x.b, x.t⟩
theorem bad_page {s : ByteArray} (h : (readF s).2 ≠ 0) (i : Int) : goodP s = false ∧ epF i s = none := by
  have e : scP s = none := by unfold scP; rw [if_neg h]
  unfold goodP epF
  rw [e]
  exact ⟨rfl, rfl⟩
theorem blank_bad {p : Int} (h1 : 32 ≤ p) (h2 : p ≤ 128) : (readF (blankS p)).2 ≠ 0 ∧ blankB (blankS p) = true := by
  have hb : blankB (blankS p) = true := fill_blank p.toNat
  refine ⟨?_, hb⟩
  unfold readF
  have hz : (blankS p).size = p.toNat := fillS_size 255 p.toNat
  rw [if_neg (by omega), if_pos hb]
  simp
theorem page_scP {p : Int} {x : Fm} (h : PgOk p x.kd x.a x.b x.t) : scP (pageS p x.kd x.a x.b x.t) = ofP x.kd x.a x.b x.t ∧ rdf (pageS p x.kd x.a x.b x.t) = toFr x := by
  have e := (read_back h).1
  unfold scP rdf
  rw [e]
  exact ⟨if_pos rfl, rfl⟩
theorem head_ep {p s : Int} {r : Int} (hR : RightG p s r) (e k i : Int) (h1 : 1 ≤ e) (h2 : e ≤ 2147483647) (hk : 0 ≤ k ∧ k ≤ 4294967295) : epF i (headP p e k) = if k = i then some e else none := by
  have hx := headOk hR e k (by omega) hk
  have hs := (page_scP (p := p) (x := ⟨1, e, k, ⟨#[]⟩⟩) hx).1
  have he : ofP 1 e k ⟨#[]⟩ = some (.head e k) := by
    unfold ofP
    rw [if_pos ⟨h1, h2⟩, if_pos ⟨rfl, by decide +kernel⟩]
  have e2 : scP (headP p e k) = some (.head e k) := hs.trans he
  unfold epF
  rw [e2]
theorem regF_cons_none {i : Int} {s : ByteArray} {l : List ByteArray} (h : epF i s = none) : regF i (s :: l) = ⟨i, 0, [], (s :: l).all blankB⟩ := by
  unfold regF
  simp [h]
theorem regF_cons_some {i e : Int} {s : ByteArray} {l : List ByteArray} (h : epF i s = some e) : regF i (s :: l) = ⟨i, e, fdFrames l, (l.drop (fdFrames l).length).all blankB⟩ := by
  unfold regF
  simp [h]
/-- The frames of a region are those of its first good pages. -/
theorem fd_pref (l : List ByteArray) : ∃ cnt, cnt ≤ l.length ∧ fdFrames l = (l.take cnt).map rdf ∧ (∀ z, z < cnt → goodP (l.getD z ⟨#[]⟩) = true) ∧ (cnt < l.length → goodP (l.getD cnt ⟨#[]⟩) = false) := by
  induction l with
  | nil => exact ⟨0, by simp, by simp [fdFrames], fun z hz => by omega, fun h => by simp at h⟩
  | cons s l ih =>
    rcases hg : goodP s with _ | _
    · exact ⟨0, by omega, by simp [fdFrames, hg], fun z hz => by omega, fun _ => hg⟩
    · obtain ⟨cnt, h1, h2, h3, h4⟩ := ih
      refine ⟨cnt + 1, by simpa using h1, by simp [fdFrames, hg, h2, rdf], fun z hz => ?_, fun h => ?_⟩
      · cases z with
        | zero => exact hg
        | succ z => exact h3 z (by omega)
      · exact h4 (by simpa using h)
/-- A region's pages. -/
def rowP (m : Nat) (f : Nat → ByteArray) (i : Nat) : List ByteArray := (List.range (m + 1)).map fun x => f (i * (m + 1) + x)
theorem rowP_cons (m : Nat) (f : Nat → ByteArray) (i : Nat) : rowP m f i = f (i * (m + 1)) :: (List.range m).map fun x => f (i * (m + 1) + (x + 1)) := by
  unfold rowP
  rw [List.range_succ_eq_map, List.map_cons, List.map_map]
  rfl
theorem pgs_row {d : Dev} {p s : Int} {n m : Nat} {f : Nat → ByteArray} (hs : s = (m : Int) + 1) (hf : ∀ j : Nat, j < n * (m + 1) → heldD d p (j : Int) = f j) (i : Nat) (hi : i < n) : pgs d p s (i : Int) = rowP m f i := by
  unfold pgs rowP
  have e : s.toNat = m + 1 := by omega
  rw [e]
  apply List.map_congr_left
  intro x hx
  have hx := List.mem_range.1 hx
  have h1 : i * (m + 1) + x < n * (m + 1) := by
    have : (i + 1) * (m + 1) ≤ n * (m + 1) := Nat.mul_le_mul_right _ hi
    rw [Nat.succ_mul] at this
    omega
  rw [slot_c hs i x]
  exact hf _ h1
theorem all_row {d : Dev} {p s : Int} {n m : Nat} {f : Nat → ByteArray} (hs : s = (m : Int) + 1) (hf : ∀ j : Nat, j < n * (m + 1) → heldD d p (j : Int) = f j) : allF2 d p s n = (List.range n).map fun (i : Nat) => regF (i : Int) (rowP m f i) := by
  unfold allF2
  apply List.map_congr_left
  intro i hi
  rw [pgs_row hs hf i (List.mem_range.1 hi)]
/-- Frames number a, a + 1, .. -/
def frsF (fr : Nat → Fm) (a b : Nat) : List Fr := (List.range b).map fun x => toFr (fr (a + x))
theorem frsF_len (fr : Nat → Fm) (a b : Nat) : (frsF fr a b).length = b := by simp [frsF]
theorem frsF_get (fr : Nat → Fm) (a b x : Nat) (h : x < (frsF fr a b).length) : (frsF fr a b)[x] = toFr (fr (a + x)) := by simp [frsF]
theorem frsF_app (fr : Nat → Fm) (a b : Nat) : frsF fr 0 a ++ frsF fr a b = frsF fr 0 (a + b) := by
  unfold frsF
  rw [List.range_add, List.map_append, List.map_map]
  congr 1
  · apply List.map_congr_left
    intro x _
    simp
  
/-- How a tape lays its frames: region i has so many of them. -/
theorem lim_at {m N c u : Nat} (h : Pos m N c u) (hm : 1 ≤ m) (i x : Nat) (hx : x ≤ m) : (i < c → (i * (m + 1) + x < lim m c u ↔ x ≤ min m (N - i * m))) ∧ (c ≤ i → ¬ i * (m + 1) + x < lim m c u ∧ N - i * m = 0) := by
  rcases h with ⟨h1, h2, h3⟩ | ⟨h1, h2, h3, h4⟩
  · subst h1 h2
    refine ⟨fun h => by omega, fun _ => ?_⟩
    unfold lim
    rw [if_pos rfl]
    omega
  · have e : (c - 1) * m + m = c * m := by
      obtain ⟨c', rfl⟩ : ∃ c', c = c' + 1 := ⟨c - 1, by omega⟩
      rw [Nat.add_sub_cancel, Nat.succ_mul]
    have e2 : (c - 1) * (m + 1) + (m + 1) = c * (m + 1) := by
      obtain ⟨c', rfl⟩ : ∃ c', c = c' + 1 := ⟨c - 1, by omega⟩
      rw [Nat.add_sub_cancel, Nat.succ_mul]
    have hl : lim m c u = (c - 1) * (m + 1) + u + 1 := by unfold lim; rw [if_neg (by omega)]
    rw [hl]
    refine ⟨fun h => ?_, fun h => ?_⟩
    · by_cases hc : i = c - 1
      · subst hc
        have : N - (c - 1) * m = u := by omega
        rw [this]
        omega
      · have a1 : (i + 1) * m ≤ (c - 1) * m := Nat.mul_le_mul_right m (by omega)
        have a2 : (i + 1) * (m + 1) ≤ (c - 1) * (m + 1) := Nat.mul_le_mul_right (m + 1) (by omega)
        rw [Nat.succ_mul] at a1 a2
        omega
    · have a1 : c * m ≤ i * m := Nat.mul_le_mul_right m h
      have a2 : c * (m + 1) ≤ i * (m + 1) := Nat.mul_le_mul_right (m + 1) h
      omega
theorem pos_lt {m N c u : Nat} (h : Pos m N c u) (hm : 1 ≤ m) (i : Nat) : i < c ↔ i * m < N := by
  rcases h with ⟨h1, h2, h3⟩ | ⟨h1, h2, h3, h4⟩
  · subst h1 h2
    omega
  · have e : (c - 1) * m + m = c * m := by
      obtain ⟨c', rfl⟩ : ∃ c', c = c' + 1 := ⟨c - 1, by omega⟩
      rw [Nat.add_sub_cancel, Nat.succ_mul]
    constructor
    · intro h
      have : i * m ≤ (c - 1) * m := Nat.mul_le_mul_right m (by omega)
      omega
    · intro h
      by_cases hc : i < c
      · exact hc
      · have : c * m ≤ i * m := Nat.mul_le_mul_right m (by omega)
        omega
/-- What a page of a tape that wrote N frames holds. -/
def tapeB (p : Int) (m : Nat) (fr : Nat → Fm) (L : Nat) (j : Nat) : ByteArray := if j < L then runB p m fr j else blankS p
def Parts (p : Int) (fr : Nat → Fm) (N : Nat) : Prop := ∀ i, i < N → FmOk p (fr i) ∧ goodP (pageS p (fr i).kd (fr i).a (fr i).b (fr i).t) = true
theorem part_good {p s r : Int} (hR : RightG p s r) {x : Fm} (hx : FmOk p x) (hk : x.kd = 2) (ha : 1 ≤ x.a ∧ x.a ≤ 2147483647) (ht : x.t.toList.isEmpty = false) : goodP (pageS p x.kd x.a x.b x.t) = true := by
  have hs := (page_scP (hx.pg hR)).1
  unfold goodP
  rw [hs]
  unfold ofP
  rw [if_pos ha, if_neg (by rw [hk]; simp), if_pos ⟨hk, ht⟩]
set_option maxHeartbeats 1600000 in
theorem tape_reg {p s : Int} {n m N c u : Nat} {fr : Nat → Fm} (hR : RightG p s n) (hm : 1 ≤ m) (h : Pos m N c u) (hp : Parts p fr N) (i : Nat) (hi : i < n) :
    regF (i : Int) (rowP m (tapeB p m fr (lim m c u)) i) = ⟨i, if i < c then (i : Int) + 1 else 0, frsF fr (i * m) (min m (N - i * m)), true⟩ := by
  obtain ⟨r1, r2, r3, r4, r5, r6⟩ := id hR
  obtain ⟨bb1, bb2⟩ := blank_bad r1 r2
  rw [rowP_cons]
  by_cases hc : i < c
  · have hl := fun x (hx : x ≤ m) => (lim_at h hm i x hx).1 hc
    rw [if_pos hc]
    obtain ⟨cnt, hcnt⟩ : ∃ cnt, cnt = min m (N - i * m) := ⟨_, rfl⟩
    rw [← hcnt] at hl ⊢
    have h0 : tapeB p m fr (lim m c u) (i * (m + 1)) = headP p ((i : Int) + 1) (i : Int) := by
      unfold tapeB
      rw [if_pos (by have := (hl 0 (by omega)).2 (by omega); simpa using this), runB_head]
    have he : epF (i : Int) (tapeB p m fr (lim m c u) (i * (m + 1))) = some ((i : Int) + 1) := by
      rw [h0, head_ep hR _ _ _ (by omega) (by omega) (by omega), if_pos rfl]
    have hpg : ∀ x, x < m → tapeB p m fr (lim m c u) (i * (m + 1) + (x + 1)) = if x < cnt then pageS p (fr (i * m + x)).kd (fr (i * m + x)).a (fr (i * m + x)).b (fr (i * m + x)).t else blankS p := by
      intro x hx
      have := hl (x + 1) (by omega)
      unfold tapeB
      by_cases hxc : x < cnt
      · rw [if_pos (this.2 (by omega)), if_pos hxc, runB_frame p m fr i (x + 1) (by omega) (by omega), show i * m + (x + 1) - 1 = i * m + x by omega]
      · rw [if_neg (fun hh => by have := this.1 hh; omega), if_neg hxc]
    have hN : ∀ x, x < cnt → i * m + x < N := fun x hx => by omega
    obtain ⟨l, hlst⟩ : ∃ l, l = (List.range m).map fun x => tapeB p m fr (lim m c u) (i * (m + 1) + (x + 1)) := ⟨_, rfl⟩
    have hll : l.length = m := by rw [hlst]; simp
    have hget : ∀ x (hx : x < l.length), l[x] = if x < cnt then pageS p (fr (i * m + x)).kd (fr (i * m + x)).a (fr (i * m + x)).b (fr (i * m + x)).t else blankS p := by
      intro x hx
      subst hlst
      rw [List.getElem_map, List.getElem_range]
      exact hpg x (by omega)
    rw [← hlst, regF_cons_some he]
    have hfd : fdFrames l = frsF fr (i * m) cnt := by
      rw [fdFrames_upto l cnt (by omega) (fun z hz => ?_) (fun hz => ?_)]
      · apply List.ext_getElem
        · rw [List.length_map, List.length_take, frsF_len]
          omega
        · intro x h1 h2
          rw [frsF_len] at h2
          rw [List.getElem_map, List.getElem_take, hget x (by omega), if_pos h2]
          rw [frsF_get]
          exact (page_scP ((hp _ (hN x h2)).1.pg hR)).2
      · rw [List.getD_eq_getElem?_getD, List.getElem?_eq_getElem (by omega), Option.getD_some, hget z (by omega), if_pos hz]
        exact (hp _ (hN z hz)).2
      · rw [List.getD_eq_getElem?_getD, List.getElem?_eq_getElem (by omega), Option.getD_some, hget cnt hz, if_neg (by omega)]
        exact (bad_page bb1 0).1
    have hcl : (l.drop (fdFrames l).length).all blankB = true := by
      rw [hfd, frsF_len, List.all_eq_true]
      intro y hy
      obtain ⟨z, hz, e⟩ := List.mem_iff_getElem.1 hy
      rw [List.length_drop] at hz
      rw [List.getElem_drop, hget (cnt + z) (by omega), if_neg (by omega)] at e
      rw [← e]
      exact bb2
    rw [hcl, hfd]
  · have hl := fun x (hx : x ≤ m) => (lim_at h hm i x hx).2 (by omega)
    have hz : N - i * m = 0 := (hl 0 (by omega)).2
    have hpg : ∀ x, x ≤ m → tapeB p m fr (lim m c u) (i * (m + 1) + x) = blankS p := by
      intro x hx
      unfold tapeB
      rw [if_neg (hl x hx).1]
    have h0 := hpg 0 (by omega)
    rw [Nat.add_zero] at h0
    have he : epF (i : Int) (tapeB p m fr (lim m c u) (i * (m + 1))) = none := by
      rw [h0]
      exact (bad_page bb1 _).2
    rw [regF_cons_none he, if_neg hc, hz, Nat.min_zero]
    have hall : (tapeB p m fr (lim m c u) (i * (m + 1)) :: (List.range m).map fun x => tapeB p m fr (lim m c u) (i * (m + 1) + (x + 1))).all blankB = true := by
      rw [List.all_eq_true]
      intro y hy
      rcases List.mem_cons.1 hy with rfl | hy
      · rw [h0]; exact bb2
      · obtain ⟨x, hx, rfl⟩ := List.mem_map.1 hy
        rw [hpg (x + 1) (by have := List.mem_range.1 hx; omega)]
        exact bb2
    rw [hall]
    rfl
/-! What a device holds. -/
section
variable {p s : Int} {n m : Nat} {fr : Nat → Fm}
theorem blank_pg (hR : RightG p s n) (j : Nat) (hj : (j : Int) < s * (n : Nat)) : strN (pgN (newD p s (n : Nat) ⟨#[]⟩).img p.toNat j) = blankS p := by
  have := new_img_page p s n hR (j : Int) (by omega) hj
  rw [Int.toNat_natCast] at this
  rw [this, strN_rep]
  rfl
theorem run_held (hR : RightG p s n) (B : Nat → ByteArray) (k : Nat) (j : Nat) (hj : (j : Int) < s * (n : Nat)) : heldD (runDev p s (n : Nat) B k none) p (j : Int) = if j < k then B j else blankS p := by
  unfold heldD
  show ((pend (runRow B k) (j : Int)).getD (strN (pgN (newD p s (n : Nat) ⟨#[]⟩).img p.toNat (j : Int).toNat))) = _
  rw [runRow_pend]
  by_cases h : j < k
  · rw [if_pos h, if_pos h]
    rfl
  · rw [if_neg h, if_neg h, Int.toNat_natCast]
    exact blank_pg hR j hj
/-- Pages a, a + 1, .. are written, in order. -/
def rowAt (B : Nat → ByteArray) (a e : Nat) : Rw := (List.range e).map fun x => (((a + x : Nat) : Int), B (a + x))
theorem rowAt_succ (B : Nat → ByteArray) (a e : Nat) : rowAt B a (e + 1) = rowAt B a e ++ [(((a + e : Nat) : Int), B (a + e))] := by
  unfold rowAt
  rw [List.range_succ, List.map_append]
  rfl
theorem rowAt_len (B : Nat → ByteArray) (a e : Nat) : (rowAt B a e).length = e := by simp [rowAt]
theorem rowAt_run (B : Nat → ByteArray) (k : Nat) : runRow B k = rowAt B 0 k := by
  unfold runRow rowAt
  apply List.map_congr_left
  intro x _
  simp
theorem rowAt_ok (B : Nat → ByteArray) (a : Nat) : ∀ e, (∀ j, a ≤ j → j < a + e → (j : Int) < s * (n : Nat) ∧ ((B j).size : Int) = p) → ∀ x ∈ rowAt B a e, 0 ≤ x.1 ∧ x.1 < s * (n : Nat) ∧ (x.2.size : Int) = p := by
  intro e h x hx
  unfold rowAt at hx
  obtain ⟨y, hy, rfl⟩ := List.mem_map.1 hx
  have hy := List.mem_range.1 hy
  obtain ⟨h1, h2⟩ := h (a + y) (by omega) (by omega)
  exact ⟨by dsimp only; omega, h1, h2⟩
/-- Written pages, in the image. -/
theorem doAll_pg (hR : RightG p s n) (B : Nat → ByteArray) (a : Nat) (img : List Nat) (hl : (img.length : Int) = p * s * (n : Nat)) : ∀ e, (∀ j, a ≤ j → j < a + e → (j : Int) < s * (n : Nat) ∧ ((B j).size : Int) = p) →
    ∀ j, pgN (doAll p img (rowAt B a e)) p.toNat j = if a ≤ j ∧ j < a + e then nb (B j) else pgN img p.toNat j
  | 0, _, j => by
    rw [if_neg (by omega)]
    rfl
  | e + 1, h, j => by
    have ih := doAll_pg hR B a img hl e (fun j h1 h2 => h j h1 (by omega)) j
    have hlen := doAll_len hR (rowAt B a e) img hl (rowAt_ok B a e (fun j h1 h2 => h j h1 (by omega)))
    obtain ⟨h1, h2⟩ := h (a + e) (by omega) (by omega)
    have hstep : doAll p img (rowAt B a (e + 1)) = doD p (doAll p img (rowAt B a e)) ((a + e : Nat) : Int) (B (a + e)) := by
      rw [rowAt_succ]
      unfold doAll
      rw [List.foldl_append]
      rfl
    rw [hstep]
    by_cases hj : j = a + e
    · subst hj
      have hsm := doD_same hR (img := doAll p img (rowAt B a e)) (by rw [hlen]; exact hl) ((a + e : Nat) : Int) (by omega) h1 (B (a + e)) (by omega)
      rw [Int.toNat_natCast] at hsm
      rw [if_pos (by omega), hsm, List.drop_eq_nil_of_le, List.append_nil]
      unfold pgN
      rw [List.length_take]
      omega
    · have hot := doD_other hR (img := doAll p img (rowAt B a e)) (by rw [hlen]; exact hl) ((a + e : Nat) : Int) (by omega) h1 (B (a + e)) (by omega) j (by rw [Int.toNat_natCast]; exact hj)
      rw [hot, ih]
      by_cases h3 : a ≤ j ∧ j < a + e
      · rw [if_pos h3, if_pos (by omega)]
      · rw [if_neg h3, if_neg (by omega)]
theorem flush_is (p s n : Int) (B : Nat → ByteArray) (k : Nat) : flushD p (runDev p s n B k none) = (⟨doAll p (newD p s n ⟨#[]⟩).img (runRow B k), [], false, false, 0⟩, 0) := by
  have e : countD (runDev p s n B k none) = (runDev p s n B k none, false) := by
    unfold countD
    exact if_pos rfl
  unfold flushD
  rw [e]
  rfl
theorem flush_held (hR : RightG p s n) (B : Nat → ByteArray) (k : Nat) (hB : ∀ j, j < k → (j : Int) < s * (n : Nat) ∧ ((B j).size : Int) = p) (j : Nat) (hj : (j : Int) < s * (n : Nat)) : heldD (flushD p (runDev p s (n : Nat) B k none)).1 p (j : Int) = if j < k then B j else blankS p := by
  rw [flush_is]
  unfold heldD
  show strN (pgN (doAll p (newD p s (n : Nat) ⟨#[]⟩).img (runRow B k)) p.toNat (j : Int).toNat) = _
  have hl : ((newD p s (n : Nat) ⟨#[]⟩).img.length : Int) = p * s * (n : Nat) := (newD_ok hR ⟨#[]⟩ (by have := (mul3 hR).2.2.1; show ((0 : Nat) : Int) ≤ _; omega)).len
  rw [rowAt_run, Int.toNat_natCast, doAll_pg hR B 0 _ hl k (fun j _ h2 => hB j (by omega)) j]
  by_cases h : j < k
  · rw [if_pos (by omega), if_pos h, strN_nb]
  · rw [if_neg (by omega), if_neg h]
    exact blank_pg hR j hj
/-- The pages that a tape writes have a page's bytes. -/
theorem runB_size (hR : RightG p s n) (hs : s = (m : Int) + 1) (hm : 1 ≤ m) {N c u : Nat} (h : Pos m N c u) (hN : N ≤ n * m) (hp : ∀ i, i < N → FmOk p (fr i)) (j : Nat) (hj : j < lim m c u) : (j : Int) < s * (n : Nat) ∧ ((runB p m fr j).size : Int) = p := by
  obtain ⟨r1, r2, r3, r4, r5, r6⟩ := id hR
  obtain ⟨i, hi⟩ : ∃ i, i = j / (m + 1) := ⟨_, rfl⟩
  obtain ⟨x, hx⟩ : ∃ x, x = j % (m + 1) := ⟨_, rfl⟩
  have hxm : x < m + 1 := by rw [hx]; exact Nat.mod_lt _ (by omega)
  have hjx : j = i * (m + 1) + x := by rw [hi, hx, Nat.mul_comm]; exact (Nat.div_add_mod j (m + 1)).symm
  clear hi hx
  subst hjx
  have hic : i < c := by
    by_cases hc : i < c
    · exact hc
    · exact absurd hj ((lim_at h hm i x (by omega)).2 (by omega)).1
  have hxl := ((lim_at h hm i x (by omega)).1 hic).1 hj
  have hcn : i < n := by
    have := (pos_lt h hm i).1 hic
    have : i * m < n * m := by omega
    exact Nat.lt_of_mul_lt_mul_right this
  have h1 : i * (m + 1) + x < n * (m + 1) := by
    have : (i + 1) * (m + 1) ≤ n * (m + 1) := Nat.mul_le_mul_right _ hcn
    rw [Nat.succ_mul] at this
    omega
  refine ⟨?_, ?_⟩
  · rw [hs, show ((m : Int) + 1) * ((n : Nat) : Int) = ((n * (m + 1) : Nat) : Int) by rw [Int.mul_comm]; simp]
    omega
  · rcases Nat.eq_zero_or_pos x with h0 | h0
    · subst h0
      rw [Nat.add_zero, runB_head]
      exact headP_size hR _ _ (by omega) (by omega)
    · rw [runB_frame p m fr i x h0 (by omega)]
      exact pageS_size ((hp (i * m + x - 1) (by omega)).pg hR)
end
end Go.Proofs.Ytecelmhiffcaeaa
/- A tape that a law of scan makes; what is watched beside it; the frames of a row. -/
namespace Go.Proofs.Ytecelmhiffcaeaa
open Go.RowKit
set_option linter.unusedVariables false
set_option maxRecDepth 20000
theorem sslots (p s r : Int) (h : RightG p s r) (w : World) : Calls Try.prog 23 #[geo p s r] w fun e w' => e = .returned (.int .i64 (s - 1)) ∧ Kp w w' :=
  (rslots_any p s r h w).mono fun _ _ ⟨he, hw⟩ => ⟨he, by first | exact hw | (rw [← hw]; exact Kp.one _ _)⟩
theorem TpS.addX {X : List (Nat × Obj)} {w0 W0 W : World} {tb g ib ic h q : Nat} {p s : Int} {d : Dev} {v : Value} {l : List (Int × Int)} {o : Int} (t0 : TpS X w0 W0 tb g ib ic h q p s d v l o) (k : Kp W0 W) (b : Nat) (ob : Obj) (hb : W0.heap.size ≤ b) (ho : W.heap[b]? = some ob) : TpS ((b, ob) :: X) w0 W tb g ib ic h q p s d v l o := by
  have t := t0.keep k
  have l1 := t0.fl.at_.foot_lt
  have hc := t0.ch
  have l2 := hc.box.lt
  have l3 := hc.row.lt
  refine ⟨t.box, t.fl, t.ch, t.cok, t.new, t.dj, fun y hy => ?_⟩
  rcases List.mem_cons.1 hy with rfl | hy
  · exact ⟨ho, fun hx => by have := l1 _ hx; omega, by show b ≠ h; omega, by show b ≠ q; omega⟩
  · exact t.watch y hy
theorem Seen.more {X : List (Nat × Obj)} {v : Value} (h : Seen X v) (y : Nat × Obj) : Seen (y :: X) v := fun k hk => by
  obtain ⟨ob, hm⟩ := h k hk
  exact ⟨ob, List.mem_cons_of_mem _ hm⟩
theorem tp_start {w2 w3 w4 w5 : World} {tb g ib ic h q n : Nat} {p s : Int} {v : Value} (hR : RightG p s n) (hf : FlS w2 w3 g ib ic p s (n : Nat) (newD p s (n : Nat) ⟨#[]⟩) v) (hg2 : w3.heap.size ≤ h) (hq2 : w3.heap.size ≤ q) (hc2 : ChAt w4 h q p s (List.replicate n (0, 0)) (-1)) (hk4 : Kp w3 w4)
    (htb : w4.heap.size ≤ tb) (hbt : Bk w5 tb 91 [.pointer (some ⟨g, 0, none⟩), .pointer (some ⟨h, 0, none⟩)]) (hk5 : Kp w4 w5) : TpS [] w2 w5 tb g ib ic h q p s (newD p s (n : Nat) ⟨#[]⟩) v (List.replicate n (0, 0)) (-1) := by
  have hrl : (List.replicate n ((0 : Int), (0 : Int))).length = n := List.length_replicate
  have l1 := hf.at_.foot_lt
  have hs1 := hf.kp.size
  have hs2 := hk4.size
  have lh := hc2.box.lt
  have lq := hc2.row.lt
  exact ⟨hbt, by rw [hrl]; exact (hf.keep hk4).keep hk5, hc2.keep hk5, repOk p s n hR, ⟨by omega, by omega, by omega⟩, ⟨fun hx => by have := l1 _ hx; omega, fun hx => by have := l1 _ hx; omega, fun hx => by have := l1 _ hx; omega, by omega, by omega⟩, fun y hy => by cases hy⟩
theorem run_start {w2 w5 : World} {tb g ib ic h q n m : Nat} {p s : Int} {v : Value} (B : Nat → ByteArray) (t : TpS [] w2 w5 tb g ib ic h q p s (newD p s (n : Nat) ⟨#[]⟩) v (List.replicate n (0, 0)) (-1)) : RunG [] w2 w5 tb g ib ic h q p s n m (fun k => runDev p s (n : Nat) B k none) 0 0 m v := by
  refine ⟨Or.inl ⟨rfl, rfl, rfl⟩, ?_⟩
  rw [← RL_zero n m m, run_new p s (n : Nat) B] at t
  exact t
theorem fvs_one (l : List Fr) : ∀ u ∈ fvs l, u.oneCell' = true := by
  intro u hu
  unfold fvs at hu
  obtain ⟨x, _, hx⟩ := List.mem_flatMap.1 hu
  simp at hx
  rcases hx with rfl | rfl | rfl | rfl <;> rfl
theorem frsF_snoc (fr : Nat → Fm) (j : Nat) : fvs (frsF fr 0 (j + 1)) = fvs (frsF fr 0 j) ++ [.int .i64 (fr j).kd, .int .u32 (fr j).a, .int .u32 (fr j).b, .string (fr j).t] := by
  unfold frsF
  rw [List.range_succ, List.map_append, fvs_app]
  simp [fvs, toFr]
/-- The frames of the first regions. -/
theorem frsF_step (fr : Nat → Fm) (m N j : Nat) : min N (j * m) + min m (N - j * m) = min N ((j + 1) * m) ∧ fvs (frsF fr 0 (min N (j * m))) ++ fvs (frsF fr (j * m) (min m (N - j * m))) = fvs (frsF fr 0 (min N ((j + 1) * m))) := by
  have e : min N (j * m) + min m (N - j * m) = min N ((j + 1) * m) := by rw [Nat.succ_mul]; omega
  refine ⟨e, ?_⟩
  rw [← e, ← fvs_app]
  congr 1
  by_cases h : j * m ≤ N
  · rw [Nat.min_eq_right h]
    exact frsF_app fr (j * m) _
  · have z : min m (N - j * m) = 0 := by omega
    rw [z, Nat.add_zero]
    unfold frsF
    simp
/-- The frames that ScanTape makes. -/
def frT (P : Int) (ss : List ByteArray) (i : Nat) : Fm := ⟨2, (i : Int) + 1, 0, ⟨#[112]⟩ ++ (ss.getD i ⟨#[]⟩).extract 0 (P - 16).toNat⟩
theorem frT_ok {P s r : Int} (hR : RightG P s r) (ss : List ByteArray) (N : Nat) (hN : N ≤ 1000) : Parts P (frT P ss) N := by
  intro i hi
  have hP : 32 ≤ P := hR.1
  have hx : FmOk P (frT P ss i) := by
    refine ⟨by show (1 : Int) ≤ 2; omega, by show (2 : Int) ≤ 4; omega, ⟨by show (0 : Int) ≤ (i : Int) + 1; omega, by show (i : Int) + 1 ≤ _; omega⟩, ⟨by show (0 : Int) ≤ 0; omega, by show (0 : Int) ≤ _; omega⟩, ?_⟩
    show (((⟨#[112]⟩ ++ (ss.getD i ⟨#[]⟩).extract 0 (P - 16).toNat : ByteArray).size : Nat) : Int) + 15 ≤ P
    rw [ByteArray.size_append, ByteArray.size_extract]
    have : (⟨#[112]⟩ : ByteArray).size = 1 := rfl
    omega
  refine ⟨hx, part_good hR hx rfl ⟨by show (1 : Int) ≤ (i : Int) + 1; omega, by show (i : Int) + 1 ≤ _; omega⟩ ?_⟩
  show (⟨#[112]⟩ ++ (ss.getD i ⟨#[]⟩).extract 0 (P - 16).toNat : ByteArray).toList.isEmpty = false
  rw [ByteArray.toList_eq]
  rw [ByteArray.data_append]
  simp
theorem bputs {w w1 : World} {g : Nat} {t : TypeId} {a b c d : Value} (h : Bk w1 g t [a, b, c, d]) (hK : Kp w w1) (hg : w.heap.size ≤ g) (x y z u : Value) :
    Bk ((((w1.setCell ⟨g, 0, none⟩ x).setCell ⟨g, 1, none⟩ y).setCell ⟨g, 2, none⟩ z).setCell ⟨g, 3, none⟩ u) g t [x, y, z, u] ∧ Kp w ((((w1.setCell ⟨g, 0, none⟩ x).setCell ⟨g, 1, none⟩ y).setCell ⟨g, 2, none⟩ z).setCell ⟨g, 3, none⟩ u) :=
  ⟨(((h.put 0 x).put 1 y).put 2 z).put 3 u, (((hK.set hg _).set hg _).set hg _).set hg _⟩
/-- A box that is made. -/
def BoxF (base : Nat) (t : TypeId) (cs : List Value) : Fact := fun v W => ∃ bx, v = .pointer (some ⟨bx, 0, none⟩) ∧ base ≤ bx ∧ Bk W bx t cs
theorem BoxF.st {base : Nat} {t : TypeId} {cs : List Value} : Stable Kp (BoxF base t cs) := fun v W W' k ⟨bx, h1, h2, h3⟩ => ⟨bx, h1, h2, h3.keep k⟩
theorem BoxF.mk {base : Nat} {t : TypeId} {cs : List Value} {W : World} (h : base ≤ W.heap.size) : BoxF base t cs (.pointer (some ⟨W.heap.size, 0, none⟩)) (W.alloc (.cells cs.toArray t)) := ⟨_, rfl, h, Bk.new W t cs⟩
/-- What holds at the head of the loop that appends frames. -/
def ScI (w2 : World) (tb g ib ic h q : Nat) (p s : Int) (n m N : Nat) (D : Nat → Dev) (fr : Nat → Fm) (lo : Nat) (wv iv : Value) (wr : World) : Prop :=
  ∃ (j c u : Nat) (v : Value) (X : List (Nat × Obj)), j ≤ N ∧ lo ≤ lim m c u ∧ iv = .int .i64 j ∧ RunG X w2 wr tb g ib ic h q p s n m D j c u v ∧ wr.ownsRow w2.heap.size 33 4 wv j (fvs (frsF fr 0 j)) ∧ Seen X wv
/-- What holds at the head of the loop that gathers frames. -/
def ScJ (wa : World) (n m N : Nat) (fr : Nat → Fm) (av iv : Value) (wr : World) : Prop :=
  ∃ k : Nat, k ≤ n ∧ iv = .int .i64 k ∧ wr.ownsRow wa.heap.size 33 4 av (min N (k * m)) (fvs (frsF fr 0 (min N (k * m)))) ∧ Kp wa wr
/-- What a device is when all is written: it holds these pages; a row of frames beside it. -/
structure ScEnd (w2 W : World) (g ib ic : Nat) (p s : Int) (n m : Nat) (f : Nat → ByteArray) (wv : Value) (N : Nat) (fr : Nat → Fm) (d : Dev) (v : Value) : Prop where
  fl : FlS w2 W g ib ic p s (n : Nat) d v
  up : d.down = false
  held : ∀ j : Nat, j < n * (m + 1) → heldD d p (j : Int) = f j
  row : W.ownsRow w2.heap.size 33 4 wv N (fvs (frsF fr 0 N))
section
variable {X : List (Nat × Obj)} {w2 W : World} {tb g ib ic h q n m N c u : Nat} {p s : Int} {f : Nat → ByteArray} {wv v : Value} {fr : Nat → Fm} {d : Dev}
theorem ScEnd.keep {W' : World} (t : ScEnd w2 W g ib ic p s n m f wv N fr d v) (k : Kp W W') : ScEnd w2 W' g ib ic p s n m f wv N fr d v := ⟨t.fl.keep k, t.up, t.held, own_keep t.row k⟩
theorem in_pages (hs : s = (m : Int) + 1) {j : Nat} (hj : j < n * (m + 1)) : (j : Int) < s * (n : Nat) := by
  rw [hs, show ((m : Int) + 1) * ((n : Nat) : Int) = ((n * (m + 1) : Nat) : Int) by rw [Int.mul_comm]; simp]
  omega
theorem sc_end0 (hR : RightG p s n) (hs : s = (m : Int) + 1) (t : RunG X w2 W tb g ib ic h q p s n m (fun k => runDev p s (n : Nat) (runB p m fr) k none) N c u v) (ho : W.ownsRow w2.heap.size 33 4 wv N (fvs (frsF fr 0 N))) :
    ScEnd w2 W g ib ic p s n m (tapeB p m fr (lim m c u)) wv N fr (runDev p s (n : Nat) (runB p m fr) (lim m c u) none) v := by
  have h1 := t.2.fl
  rw [RL_len] at h1
  exact ⟨h1, rfl, fun j hj => run_held hR _ _ j (in_pages hs hj), ho⟩
theorem sc_end1 (hR : RightG p s n) (hs : s = (m : Int) + 1) (hm : 1 ≤ m) (hp : Pos m N c u) (hN : N ≤ n * m) (hx : Parts p fr N) {o : Int} (t : TpS X w2 W tb g ib ic h q p s (flushD p (runDev p s (n : Nat) (runB p m fr) (lim m c u) none)).1 v (RL n m c u) o) (ho : W.ownsRow w2.heap.size 33 4 wv N (fvs (frsF fr 0 N))) :
    ScEnd w2 W g ib ic p s n m (tapeB p m fr (lim m c u)) wv N fr (flushD p (runDev p s (n : Nat) (runB p m fr) (lim m c u) none)).1 v := by
  have h1 := t.fl
  rw [RL_len] at h1
  exact ⟨h1, by rw [flush_is], fun j hj => flush_held hR _ _ (fun i hi => runB_size hR hs hm hp hN (fun i hi => (hx i hi).1) i hi) j (in_pages hs hj), ho⟩
/-- What is found of it. -/
noncomputable def scL (n m : Nat) (f : Nat → ByteArray) : List Fd := (List.range n).map fun (i : Nat) => regF (i : Int) (rowP m f i)
theorem scL_get (i : Nat) (hi : i < n) : (scL n m f)[i]? = some (regF (i : Int) (rowP m f i)) := by
  unfold scL
  rw [List.getElem?_map, List.getElem?_range hi]
  rfl
theorem sc_all (t : ScEnd w2 W g ib ic p s n m f wv N fr d v) (hs : s = (m : Int) + 1) : Calls Try.prog 18 #[.pointer (some ⟨g, 0, none⟩)] W (FdsPost W (scL n m f)) := by
  have h := sall_up t.fl.at_ t.fl.ok t.up
  rw [Int.toNat_natCast, all_row hs t.held] at h
  exact h
end
end Go.Proofs.Ytecelmhiffcaeaa
