/- Merged texts: ScTorn. -/
import Derived.Test.YtecelmhiffcaeaaGQ
import Derived.Test.YtecelmhiffcaeaaGV
set_option linter.unusedSimpArgs false
set_option linter.unusedVariables false
/- What scan finds behind a crash: plain laws. -/
namespace Go.Proofs.Ytecelmhiffcaeaa
open Go.RowKit
set_option linter.unusedVariables false
set_option maxRecDepth 20000
section
variable {p s : Int} {n m : Nat} {fr : Nat → Fm}
/-- A device of which the first k0 pages are flushed, the others up to k pending. -/
def devF (p s : Int) (n : Nat) (B : Nat → ByteArray) (k0 k : Nat) : Dev := ⟨doAll p (newD p s (n : Nat) ⟨#[]⟩).img (rowAt B 0 k0), rowAt B k0 (k - k0), false, false, 0⟩
theorem devF_0 (B : Nat → ByteArray) (k : Nat) : devF p s n B 0 k = runDev p s (n : Nat) B k none := by
  unfold devF runDev
  rw [rowAt_run, Nat.sub_zero]
  rfl
theorem devF_flush (B : Nat → ByteArray) (k : Nat) : flushD p (devF p s n B 0 k) = (devF p s n B k k, 0) := by
  rw [devF_0, flush_is]
  unfold devF
  rw [rowAt_run, Nat.sub_self]
  rfl
theorem new_len (hR : RightG p s n) : ((newD p s (n : Nat) ⟨#[]⟩).img.length : Int) = p * s * (n : Nat) := (newD_ok hR ⟨#[]⟩ (by have := (mul3 hR).2.2.1; show ((0 : Nat) : Int) ≤ _; omega)).len
theorem devF_len (hR : RightG p s n) (B : Nat → ByteArray) (k0 k : Nat) (hB : ∀ j, j < k0 → (j : Int) < s * (n : Nat) ∧ ((B j).size : Int) = p) : ((devF p s n B k0 k).img.length : Int) = p * s * (n : Nat) := by
  show ((doAll p (newD p s (n : Nat) ⟨#[]⟩).img (rowAt B 0 k0)).length : Int) = _
  rw [doAll_len hR _ _ (new_len hR) (rowAt_ok B 0 k0 (fun j _ h2 => hB j (by omega)))]
  exact new_len hR
theorem devF_pg (hR : RightG p s n) (B : Nat → ByteArray) (k0 k : Nat) (hB : ∀ j, j < k0 → (j : Int) < s * (n : Nat) ∧ ((B j).size : Int) = p) (j : Nat) (hj : (j : Int) < s * (n : Nat)) :
    pgN (devF p s n B k0 k).img p.toNat j = if j < k0 then nb (B j) else List.replicate p.toNat 255 := by
  show pgN (doAll p (newD p s (n : Nat) ⟨#[]⟩).img (rowAt B 0 k0)) p.toNat j = _
  rw [doAll_pg hR B 0 _ (new_len hR) k0 (fun j _ h2 => hB j (by omega)) j]
  by_cases h : j < k0
  · rw [if_pos (by omega), if_pos h]
  · rw [if_neg (by omega), if_neg h]
    have := new_img_page p s n hR (j : Int) (by omega) hj
    rw [Int.toNat_natCast] at this
    exact this
theorem rowAt_pend (B : Nat → ByteArray) (a pg : Nat) : ∀ e, a + e ≤ pg → pend (rowAt B a e) (pg : Int) = none
  | 0, _ => rfl
  | e + 1, h => by
    rw [rowAt_succ, pend_snoc, rowAt_pend B a pg e (by omega), if_neg (by omega)]
theorem goes_dev (hR : RightG p s n) (B : Nat → ByteArray) (k0 : Nat) (hB : ∀ j, j < k0 → (j : Int) < s * (n : Nat) ∧ ((B j).size : Int) = p) : Goes p s n (devF p s n B k0) B k0 := by
  intro k hk0 hk hb
  have h120 := (mul_sr hR).2.1
  refine ⟨by show (rowAt B k0 (k - k0)).length < _; rw [rowAt_len]; omega, ?_⟩
  have h := program_fresh (p := p) (s := s) (r := n) (d := devF p s n B k0 k) (k : Int) (B k) rfl (by omega) hk hb (rowAt_pend B k0 k (k - k0) (by omega)) (by
    rw [Int.toNat_natCast, devF_pg hR B k0 k hB k hk, if_neg (by omega)])
  have e : rowAt B k0 (k - k0) ++ [((k : Int), B k)] = rowAt B k0 (k + 1 - k0) := by
    rw [show k + 1 - k0 = (k - k0) + 1 by omega, rowAt_succ, show k0 + (k - k0) = k by omega]
  rw [h]
  have hd : (⟨(devF p s n B k0 k).img, (devF p s n B k0 k).row ++ [((k : Int), B k)], (devF p s n B k0 k).down, (devF p s n B k0 k).set, (devF p s n B k0 k).left⟩ : Dev) = devF p s n B k0 (k + 1) := by
    show (⟨doAll p (newD p s (n : Nat) ⟨#[]⟩).img (rowAt B 0 k0), rowAt B k0 (k - k0) ++ [((k : Int), B k)], false, false, 0⟩ : Dev) = _
    rw [e]
    rfl
  have hc : countD (devF p s n B k0 (k + 1)) = (devF p s n B k0 (k + 1), false) := by
    unfold countD
    exact if_pos rfl
  rw [hd, hc]
  rfl
/-! The crash. -/
theorem crK_pg (hR : RightG p s n) (B : Nat → ByteArray) (a E : Nat) (img : List Nat) (hl : (img.length : Int) = p * s * (n : Nat)) (mask : List Int) (hB : ∀ j, a ≤ j → j < a + E → (j : Int) < s * (n : Nat) ∧ ((B j).size : Int) = p) :
    ∀ e, e ≤ E → ∀ j, pgN (crK p img (rowAt B a E) mask e) p.toNat j = if a ≤ j ∧ j < a + e then nb ((B j).extract 0 (kOf p (mask.getD (j - a) 0))) ++ (pgN img p.toNat j).drop ((B j).extract 0 (kOf p (mask.getD (j - a) 0))).size else pgN img p.toNat j
  | 0, _, j => by
    rw [if_neg (by omega)]
    rfl
  | e + 1, he, j => by
    have ih := crK_pg hR B a E img hl mask hB e (by omega)
    have hrow : e < (rowAt B a E).length := by rw [rowAt_len]; omega
    have hre : (rowAt B a E)[e] = (((a + e : Nat) : Int), B (a + e)) := by simp [rowAt]
    have hlen := crK_len hR img (rowAt B a E) mask hl (rowAt_ok B a E hB) e
    obtain ⟨h1, h2⟩ := hB (a + e) (by omega) (by omega)
    have hk := kOf_le (p := p) hR.1 (mask.getD e 0)
    rw [crK_step p img (rowAt B a E) mask e hrow, hre, crOne_k (s := s) (r := (n : Nat)) (by rw [hlen]; exact hl) _ h2]
    dsimp only
    have hsz : ((((B (a + e)).extract 0 (kOf p (mask.getD e 0))).size : Nat) : Int) ≤ p := by rw [ByteArray.size_extract]; omega
    by_cases hj : j = a + e
    · subst hj
      have hsm := doD_same hR (img := crK p img (rowAt B a E) mask e) (by rw [hlen]; exact hl) ((a + e : Nat) : Int) (by omega) h1 _ hsz
      rw [Int.toNat_natCast, ih, if_neg (by omega)] at hsm
      rw [if_pos (by omega), show a + e - a = e by omega]
      exact hsm
    · have hot := doD_other hR (img := crK p img (rowAt B a E) mask e) (by rw [hlen]; exact hl) ((a + e : Nat) : Int) (by omega) h1 _ hsz j (by rw [Int.toNat_natCast]; exact hj)
      rw [hot, ih]
      by_cases h3 : a ≤ j ∧ j < a + e
      · rw [if_pos h3, if_pos (by omega)]
      · rw [if_neg h3, if_neg (by omega)]
/-- A page behind a crash. -/
theorem torn_held (hR : RightG p s n) (B : Nat → ByteArray) (k0 k : Nat) (hk : k0 ≤ k) (mask : List Int) (hB : ∀ j, j < k → (j : Int) < s * (n : Nat) ∧ ((B j).size : Int) = p) (j : Nat) (hj : (j : Int) < s * (n : Nat)) :
    (j < k0 → heldD (crashD p (devF p s n B k0 k) mask) p (j : Int) = B j) ∧
    (k0 ≤ j → j < k → heldD (crashD p (devF p s n B k0 k) mask) p (j : Int) = B j ∨ ∃ K : Nat, (K : Int) < p ∧ heldD (crashD p (devF p s n B k0 k) mask) p (j : Int) = tornS (B j) p K) ∧
    (k ≤ j → heldD (crashD p (devF p s n B k0 k) mask) p (j : Int) = blankS p) := by
  have hp := hR.1
  have hB0 : ∀ j, j < k0 → (j : Int) < s * (n : Nat) ∧ ((B j).size : Int) = p := fun j h => hB j (by omega)
  have hpg := devF_pg hR B k0 k hB0 j hj
  have hcr := crK_pg hR B k0 (k - k0) (devF p s n B k0 k).img (devF_len hR B k0 k hB0) mask (fun j h1 h2 => hB j (by omega)) (k - k0) (Nat.le_refl _) j
  have hh : heldD (crashD p (devF p s n B k0 k) mask) p (j : Int) = strN (pgN (crK p (devF p s n B k0 k).img (rowAt B k0 (k - k0)) mask (k - k0)) p.toNat j) := by
    unfold heldD crashD
    show strN (pgN (crK p (devF p s n B k0 k).img (devF p s n B k0 k).row mask (devF p s n B k0 k).row.length) p.toNat (j : Int).toNat) = _
    rw [Int.toNat_natCast]
    show strN (pgN (crK p (devF p s n B k0 k).img (rowAt B k0 (k - k0)) mask (rowAt B k0 (k - k0)).length) p.toNat j) = _
    rw [rowAt_len]
  rw [hh, hcr, hpg]
  refine ⟨fun h => ?_, fun h1 h2 => ?_, fun h => ?_⟩
  · rw [if_neg (by omega), if_pos h, strN_nb]
  · rw [if_pos (by omega), if_neg (by omega)]
    obtain ⟨g1, g2⟩ := hB j h2
    have hk := kOf_le (p := p) hp (mask.getD (j - k0) 0)
    generalize kOf p (mask.getD (j - k0) 0) = K at *
    have hks : ((B j).extract 0 K).size = K := by rw [ByteArray.size_extract]; omega
    rw [hks, List.drop_replicate, nb_ext0]
    by_cases hK : (K : Int) < p
    · refine Or.inr ⟨K, hK, ?_⟩
      have e := tornS_nb (X := B j) (P := p) (K := K) g2 hK
      rw [show (p - (K : Int)).toNat = p.toNat - K by omega] at e
      rw [← e, strN_nb]
    · refine Or.inl ?_
      rw [show p.toNat - K = 0 by omega, List.replicate_zero, List.append_nil, List.take_of_length_le (by rw [nb_len]; omega), strN_nb]
  · rw [if_neg (by omega), if_neg (by omega)]
    rw [strN_rep]
    rfl
/-- The pages behind a crash: as they were written, or no frames. -/
def PgT (n m : Nat) (B f : Nat → ByteArray) (k0 L : Nat) : Prop := ∀ j, j < n * (m + 1) → (j < k0 → f j = B j) ∧ ((f j = B j ∧ j < L) ∨ (readF (f j)).2 ≠ 0)
theorem pgT_of (hR : RightG p s n) (hs : s = (m : Int) + 1) (hm : 1 ≤ m) {N c u : Nat} (h : Pos m N c u) (hN : N ≤ n * m) (hx : ∀ i, i < N → FmOk p (fr i) ∧ ((fr i).t.size : Int) + 16 ≤ p) (k0 : Nat) (hk : k0 ≤ lim m c u) (mask : List Int) :
    PgT n m (runB p m fr) (fun j => heldD (crashD p (devF p s n (runB p m fr) k0 (lim m c u)) mask) p (j : Int)) k0 (lim m c u) := by
  intro j hj
  have hsz := fun i hi => runB_size hR hs hm h hN (fun i hi => (hx i hi).1) i hi
  obtain ⟨h1, h2, h3⟩ := torn_held hR (runB p m fr) k0 (lim m c u) hk mask hsz j (in_pages hs hj)
  obtain ⟨r1, r2, r3, r4, r5, r6⟩ := id hR
  refine ⟨h1, ?_⟩
  dsimp only
  by_cases c1 : j < k0
  · exact Or.inl ⟨h1 c1, by omega⟩
  · by_cases c2 : j < lim m c u
    · rcases h2 (by omega) c2 with e | ⟨K, hK, e⟩
      · exact Or.inl ⟨e, c2⟩
      · -- a torn page
        rw [e]
        obtain ⟨i, hi⟩ : ∃ i, i = j / (m + 1) := ⟨_, rfl⟩
        obtain ⟨x, hx9⟩ : ∃ x, x = j % (m + 1) := ⟨_, rfl⟩
        have hxm : x < m + 1 := by rw [hx9]; exact Nat.mod_lt _ (by omega)
        have hjx : j = i * (m + 1) + x := by rw [hi, hx9, Nat.mul_comm]; exact (Nat.div_add_mod j (m + 1)).symm
        clear hi hx9
        subst hjx
        have hic : i < c := by
          by_cases hc : i < c
          · exact hc
          · exact absurd c2 ((lim_at h hm i x (by omega)).2 (by omega)).1
        have hxl := ((lim_at h hm i x (by omega)).1 hic).1 c2
        have hcn : i < n := by
          have := (pos_lt h hm i).1 hic
          have : i * m < n * m := by omega
          exact Nat.lt_of_mul_lt_mul_right this
        rcases Nat.eq_zero_or_pos x with h0 | h0
        · subst h0
          rw [Nat.add_zero] at c2 ⊢
          rw [runB_head]
          rcases torn_law (headOk hR ((i : Int) + 1) (i : Int) (by omega) (by omega)) (by show (((0 : Nat) : Int)) + 16 ≤ p; omega) K hK with e2 | e2
          · exact Or.inl ⟨e2, c2⟩
          · exact Or.inr e2
        · rw [runB_frame p m fr i x h0 (by omega)]
          obtain ⟨y1, y2⟩ := hx (i * m + x - 1) (by omega)
          rcases torn_law (y1.pg hR) y2 K hK with e2 | e2
          · exact Or.inl ⟨e2, c2⟩
          · exact Or.inr e2
    · refine Or.inr ?_
      rw [h3 (by omega)]
      exact (blank_bad r1 r2).1
/-- What is found in a region behind a crash. -/
theorem torn_reg (hR : RightG p s n) (hm : 1 ≤ m) {N c u : Nat} (h : Pos m N c u) (hx : Parts p fr N) {f : Nat → ByteArray} {k0 : Nat} (hf : PgT n m (runB p m fr) f k0 (lim m c u)) (i : Nat) (hi : i < n) :
    (regF (i : Int) (rowP m f i)).fs.length ≤ m ∧ ∀ x (hx : x < (regF (i : Int) (rowP m f i)).fs.length), (regF (i : Int) (rowP m f i)).ep = (i : Int) + 1 ∧ (regF (i : Int) (rowP m f i)).fs[x] = toFr (fr (i * m + x)) ∧ i * m + x < N := by
  obtain ⟨r1, r2, r3, r4, r5, r6⟩ := id hR
  have hin : ∀ x, x ≤ m → i * (m + 1) + x < n * (m + 1) := fun x hx => by
    have : (i + 1) * (m + 1) ≤ n * (m + 1) := Nat.mul_le_mul_right _ hi
    rw [Nat.succ_mul] at this
    omega
  rw [rowP_cons]
  rcases (hf (i * (m + 1)) (by have := hin 0 (by omega); omega)).2 with ⟨e0, l0⟩ | e0
  · have hic : i < c := by
      by_cases hc : i < c
      · exact hc
      · exact absurd (by rw [Nat.add_zero]; exact l0) ((lim_at h hm i 0 (by omega)).2 (by omega)).1
    have he : epF (i : Int) (f (i * (m + 1))) = some ((i : Int) + 1) := by
      rw [e0, runB_head, head_ep hR _ _ _ (by omega) (by omega) (by omega), if_pos rfl]
    obtain ⟨l, hlst⟩ : ∃ l, l = (List.range m).map fun x => f (i * (m + 1) + (x + 1)) := ⟨_, rfl⟩
    have hll : l.length = m := by rw [hlst]; simp
    have hget : ∀ x (hx : x < l.length), l[x] = f (i * (m + 1) + (x + 1)) := by
      intro x hx
      subst hlst
      rw [List.getElem_map, List.getElem_range]
    rw [← hlst, regF_cons_some he]
    obtain ⟨cnt, k1, k2, k3, k4⟩ := fd_pref l
    dsimp only
    have hlen : (fdFrames l).length = cnt := by rw [k2, List.length_map, List.length_take]; omega
    refine ⟨by omega, fun x hx9 => ?_⟩
    rw [hlen] at hx9
    have hg := k3 x hx9
    rw [List.getD_eq_getElem?_getD, List.getElem?_eq_getElem (by omega), Option.getD_some, hget x (by omega)] at hg
    rcases (hf (i * (m + 1) + (x + 1)) (hin _ (by omega))).2 with ⟨e1, l1⟩ | e1
    · have hxl := ((lim_at h hm i (x + 1) (by omega)).1 hic).1 l1
      have hxN : i * m + x < N := by omega
      refine ⟨rfl, ?_, hxN⟩
      have hq : (fdFrames l)[x]? = some (toFr (fr (i * m + x))) := by
        rw [k2, List.getElem?_map, List.getElem?_take, if_pos hx9, List.getElem?_eq_getElem (by omega), hget x (by omega), e1, runB_frame p m fr i (x + 1) (by omega) (by omega), show i * m + (x + 1) - 1 = i * m + x by omega]
        exact congrArg some (page_scP ((hx _ hxN).1.pg hR)).2
      rw [List.getElem?_eq_getElem (by omega)] at hq
      exact Option.some.inj hq
    · rw [(bad_page e1 0).1] at hg
      cases hg
  · rw [regF_cons_none (bad_page e0 _).2]
    exact ⟨by simp, fun x hx => by simp at hx⟩
/-- What was flushed is found. -/
theorem torn_first (hR : RightG p s n) (hm : 1 ≤ m) (hn : 0 < n) {N n0 c0 u0 : Nat} (h0 : Pos m n0 c0 u0) (hN : n0 ≤ N) (hnm : n0 ≤ m) (hx : Parts p fr N) {f : Nat → ByteArray} {L : Nat} (hf : PgT n m (runB p m fr) f (lim m c0 u0) L) :
    n0 ≤ (regF ((0 : Nat) : Int) (rowP m f 0)).fs.length := by
  rcases Nat.eq_zero_or_pos n0 with z | z
  · omega
  · have hin : ∀ x, x ≤ m → x < n * (m + 1) := fun x hx => by
      have : 1 * (m + 1) ≤ n * (m + 1) := Nat.mul_le_mul_right _ hn
      omega
    have hc0 : 0 < c0 := (pos_lt h0 hm 0).2 (by omega)
    have hpg : ∀ x, x ≤ n0 → f x = runB p m fr x := fun x hx => by
      have := ((lim_at h0 hm 0 x (by omega)).1 hc0).2 (by omega)
      exact (hf x (hin x (by omega))).1 (by omega)
    rw [rowP_cons, Nat.zero_mul]
    have he : epF ((0 : Nat) : Int) (f 0) = some (((0 : Nat) : Int) + 1) := by
      have e9 := runB_head p m fr 0
      rw [Nat.zero_mul] at e9
      rw [hpg 0 (by omega), e9, head_ep hR _ _ _ (by omega) (by omega) (by omega), if_pos rfl]
    obtain ⟨l, hlst⟩ : ∃ l, l = (List.range m).map fun x => f (0 + (x + 1)) := ⟨_, rfl⟩
    have hll : l.length = m := by rw [hlst]; simp
    have hget : ∀ x (hx : x < l.length), l[x] = f (x + 1) := by
      intro x hx
      subst hlst
      rw [List.getElem_map, List.getElem_range, Nat.zero_add]
    rw [← hlst, regF_cons_some he]
    obtain ⟨cnt, k1, k2, k3, k4⟩ := fd_pref l
    dsimp only
    have hlen : (fdFrames l).length = cnt := by rw [k2, List.length_map, List.length_take]; omega
    rw [hlen]
    by_cases hlt : cnt < n0
    · have hg := k4 (by omega)
      have hrf := runB_frame p m fr 0 (cnt + 1) (by omega) (by omega)
      rw [show 0 * (m + 1) + (cnt + 1) = cnt + 1 by omega, show 0 * m + (cnt + 1) - 1 = cnt by omega] at hrf
      rw [List.getD_eq_getElem?_getD, List.getElem?_eq_getElem (by omega), Option.getD_some, hget cnt (by omega), hpg (cnt + 1) (by omega), hrf, (hx cnt (by omega)).2] at hg
      cases hg
    · omega
theorem tcrash {X : List (Nat × Obj)} {w0 W : World} {tb g ib ic h q : Nat} {d : Dev} {v : Value} {l : List (Int × Int)} {o : Int} (t : TpS X w0 W tb g ib ic h q p s d v l o) (A : Option Addr) (cM : Nat) (mask : List Int) (hM : NumsAt .i64 W A mask) (hA : 0 < mask.length → ∀ q, A = some q → q.block < w0.heap.size) (hmw : ∀ x ∈ mask, -9223372036854775808 ≤ x ∧ x ≤ 9223372036854775807) :
    Calls Try.prog 27 #[.pointer (some ⟨g, 0, none⟩), .slice A mask.length cM] W fun e w' => e = .returned (.tuple #[]) ∧ ∃ v2, TpS X w0 w' tb g ib ic h q p s (crashD p d mask) v2 l o :=
  (fcrash t.fl.at_ t.fl.ok A cM mask hM (fun h1 q h2 hm => by have := hA h1 q h2; have := t.fl.new _ hm; omega) hmw).mono fun _ _ ⟨h1, v2, h2, h3⟩ => ⟨h1, v2, t.stepF h2 h3 (crashD_ok t.fl.ok mask)⟩
theorem sc_end2 {X : List (Nat × Obj)} {w2 W : World} {tb g ib ic h q N c u : Nat} {wv v : Value} {d : Dev} {o : Int} (t : TpS X w2 W tb g ib ic h q p s d v (RL n m c u) o) (hd : d.down = false) (ho : W.ownsRow w2.heap.size 33 4 wv N (fvs (frsF fr 0 N))) :
    ScEnd w2 W g ib ic p s n m (fun j => heldD d p (j : Int)) wv N fr d v := by
  have h1 := t.fl
  rw [RL_len] at h1
  exact ⟨h1, hd, fun j hj => rfl, ho⟩
end
end Go.Proofs.Ytecelmhiffcaeaa
