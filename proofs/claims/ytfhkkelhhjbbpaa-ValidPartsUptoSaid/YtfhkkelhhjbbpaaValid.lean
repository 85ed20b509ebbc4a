/- The contracts of package valid and of the reference's Clash. -/
import Derived.Test.YtfhkkelhhjbbpaaSlices
namespace Go.Proofs.Ytfhkkelhhjbbpaa
open Go.RowKit
set_option linter.unusedVariables false

/-- A read: its key, of which batch, how often keys had been forgotten. -/
structure Rd where
  key : ByteArray
  fr : Int
  fg : Int
/-- A slice of reads, nil let in. -/
def RdsAt (w : World) (A : Option Addr) (rs : List Rd) : Prop :=
  rs.length ≤ 9223372036854775807 ∧ (0 < rs.length → ∃ b off, A = some ⟨b, off, none⟩ ∧ ∀ j (h : j < rs.length),
    w.cell? ⟨b, off + j * 3, none⟩ = some (.string rs[j].key) ∧ w.cell? ⟨b, off + j * 3 + 1, none⟩ = some (.int .u32 rs[j].fr) ∧ w.cell? ⟨b, off + j * 3 + 2, none⟩ = some (.int .u32 rs[j].fg))
theorem RdsAt.keep {w w' : World} {A : Option Addr} {rs : List Rd} (h : RdsAt w A rs) (k : Kp w w') : RdsAt w' A rs :=
  ⟨h.1, fun hn => by
    obtain ⟨b, off, e, hc⟩ := h.2 hn
    exact ⟨b, off, e, fun j hj => ⟨k.cell (hc j hj).1, k.cell (hc j hj).2.1, k.cell (hc j hj).2.2⟩⟩⟩
/-- A slice of numbers, nil let in. -/
def NumsAt (k : IntKind) (w : World) (A : Option Addr) (xs : List Int) : Prop :=
  xs.length ≤ 9223372036854775807 ∧ (0 < xs.length → ∃ b off, A = some ⟨b, off, none⟩ ∧ ∀ j (h : j < xs.length), w.cell? ⟨b, off + j, none⟩ = some (.int k xs[j]))
theorem NumsAt.keep {k : IntKind} {w w' : World} {A : Option Addr} {xs : List Int} (h : NumsAt k w A xs) (k' : Kp w w') : NumsAt k w' A xs :=
  ⟨h.1, fun hn => by
    obtain ⟨b, off, e, hc⟩ := h.2 hn
    exact ⟨b, off, e, fun j hj => k'.cell (hc j hj)⟩⟩

/-- A read's cells. -/
def rcells (r : Rd) : List Value := [.string r.key, .int .u32 r.fr, .int .u32 r.fg]
def flat (rs : List Rd) : List Value := rs.flatMap rcells
theorem flat_cons (r : Rd) (rs : List Rd) : flat (r :: rs) = rcells r ++ flat rs := by simp [flat]
theorem flat_append (rs ts : List Rd) : flat (rs ++ ts) = flat rs ++ flat ts := by simp [flat]
theorem flat_len (rs : List Rd) : (flat rs).length = rs.length * 3 := by
  induction rs with
  | nil => rfl
  | cons r rs ih => rw [flat_cons, List.length_append, ih, List.length_cons]; simp only [rcells, List.length_cons, List.length_nil]; omega
theorem flat_one (rs : List Rd) : ∀ u ∈ flat rs, u.oneCell' = true := by
  intro u hu
  obtain ⟨r, _, h⟩ := List.mem_flatMap.1 hu
  simp only [rcells, List.mem_cons, List.not_mem_nil, or_false] at h
  rcases h with rfl | rfl | rfl <;> rfl
theorem flat_at (rs : List Rd) : ∀ (j : Nat) (h : j < rs.length), (flat rs)[j * 3]? = some (.string rs[j].key) ∧ (flat rs)[j * 3 + 1]? = some (.int .u32 rs[j].fr) ∧ (flat rs)[j * 3 + 2]? = some (.int .u32 rs[j].fg) := by
  induction rs with
  | nil => intro j h; simp at h
  | cons r rs ih =>
    intro j h
    rw [flat_cons]
    rcases j with _ | j
    · exact ⟨rfl, rfl, rfl⟩
    · have := ih j (by simpa using h)
      have e : (rcells r).length = 3 := rfl
      refine ⟨?_, ?_, ?_⟩
      · rw [List.getElem?_append_right (by rw [e]; omega), e, show (j + 1) * 3 - 3 = j * 3 by omega]; exact this.1
      · rw [List.getElem?_append_right (by rw [e]; omega), e, show (j + 1) * 3 + 1 - 3 = j * 3 + 1 by omega]; exact this.2.1
      · rw [List.getElem?_append_right (by rw [e]; omega), e, show (j + 1) * 3 + 2 - 3 = j * 3 + 2 by omega]; exact this.2.2
theorem flat_set (rs : List Rd) (f : Int) : ∀ (j : Nat) (h : j < rs.length), (flat rs).set (j * 3 + 2) (.int .u32 f) = flat (rs.set j { rs[j] with fg := f }) := by
  induction rs with
  | nil => intro j h; simp at h
  | cons r rs ih =>
    intro j h
    rcases j with _ | j
    · rfl
    · have e : (rcells r).length = 3 := rfl
      rw [flat_cons, List.set_append_right _ _ (by rw [e]; omega), e, show (j + 1) * 3 + 2 - 3 = j * 3 + 2 by omega, ih j (by simpa using h)]
      simp [flat_cons]
theorem RdsAt.src {w : World} {A : Option Addr} {rs : List Rd} (h : RdsAt w A rs) : Src w A (flat rs) := fun hn => by
  rw [flat_len] at hn
  obtain ⟨b, off, e, hc⟩ := h.2 (by omega)
  refine ⟨b, off, e, fun i hi => ?_⟩
  rw [flat_len] at hi
  have hq : i / 3 < rs.length := by omega
  obtain ⟨c0, c1, c2⟩ := hc (i / 3) hq
  obtain ⟨d0, d1, d2⟩ := flat_at rs (i / 3) hq
  have hi' := List.getElem?_eq_getElem (l := flat rs) (i := i) (by rw [flat_len]; omega)
  have h3 : i = i / 3 * 3 ∨ i = i / 3 * 3 + 1 ∨ i = i / 3 * 3 + 2 := by omega
  rcases h3 with h3 | h3 | h3
  · rw [← hi', show off + i = off + i / 3 * 3 by omega, c0, ← d0]; congr 1; omega
  · rw [← hi', show off + i = off + i / 3 * 3 + 1 by omega, c1, ← d1]; congr 1; omega
  · rw [← hi', show off + i = off + i / 3 * 3 + 2 by omega, c2, ← d2]; congr 1; omega
theorem Src.rds {w : World} {A : Option Addr} {rs : List Rd} (h : Src w A (flat rs)) (hl : rs.length ≤ 9223372036854775807) : RdsAt w A rs :=
  ⟨hl, fun hn => by
    obtain ⟨b, off, e, hc⟩ := h (by rw [flat_len]; omega)
    refine ⟨b, off, e, fun j hj => ?_⟩
    obtain ⟨d0, d1, d2⟩ := flat_at rs j hj
    have k : ∀ (i : Nat) (u : Value), (flat rs)[i]? = some u → w.cell? ⟨b, off + i, none⟩ = some u := fun i u hu => by
      obtain ⟨hlt, rfl⟩ := List.getElem?_eq_some_iff.1 hu
      exact hc i hlt
    exact ⟨k _ _ d0, by rw [Nat.add_assoc]; exact k _ _ d1, by rw [Nat.add_assoc]; exact k _ _ d2⟩⟩
theorem NumsAt.src {k : IntKind} {w : World} {A : Option Addr} {xs : List Int} (h : NumsAt k w A xs) : Src w A (xs.map (Value.int k)) := fun hn => by
  simp only [List.length_map] at hn
  obtain ⟨b, off, e, hc⟩ := h.2 hn
  exact ⟨b, off, e, fun j hj => by simp only [List.length_map] at hj; simp [hc j hj]⟩
theorem Src.nums {k : IntKind} {w : World} {A : Option Addr} {xs : List Int} (h : Src w A (xs.map (Value.int k))) (hl : xs.length ≤ 9223372036854775807) : NumsAt k w A xs :=
  ⟨hl, fun hn => by
    obtain ⟨b, off, e, hc⟩ := h (by simpa using hn)
    exact ⟨b, off, e, fun j hj => by rw [hc j (by simpa using hj)]; simp⟩⟩
theorem nums_one (k : IntKind) (xs : List Int) : ∀ u ∈ xs.map (Value.int k), u.oneCell' = true := by
  intro u hu
  obtain ⟨x, _, rfl⟩ := List.mem_map.1 hu
  rfl
theorem info_rd : (Try.prog.info? 27).map (fun i => (i.zero, i.size, i.bytes)) = some (some (.agg #[.string ⟨#[]⟩, .int .u32 0, .int .u32 0]), 3, 24) := by kernel_rfl
theorem info_u32 : (Try.prog.info? 24).map (fun i => (i.zero, i.size, i.bytes)) = some (some (.int .u32 0), 1, 4) := by kernel_rfl

/-- What the read j is held against. -/
def nowAt (xs : List Int) (j : Nat) : Int := xs.getD j 0
/-- Is the read j no longer so? -/
def badAt (rs : List Rd) (xs : List Int) (f : Int) (j : Nat) : Bool :=
  match rs[j]? with
  | none => false
  | some r => decide (r.fr ≠ nowAt xs j) || (decide (r.fr = 0) && decide (r.fg ≠ f))
def clash (rs : List Rd) (xs : List Int) (f : Int) : Option Nat := (List.range rs.length).find? (badAt rs xs f)
def clashV (o : Option Nat) : Value := match o with
  | none => .tuple #[.int .i64 0, .bool false]
  | some i => .tuple #[.int .i64 i, .bool true]
theorem clash_some {rs : List Rd} {xs : List Int} {f : Int} {k : Nat} (hk : k < rs.length) (hb : badAt rs xs f k = true) (hp : ∀ j, j < k → badAt rs xs f j = false) : clash rs xs f = some k := by
  unfold clash
  rw [List.find?_range_eq_some]
  exact ⟨hb, by simpa using hk, fun j hj => by simp [hp j hj]⟩
theorem clash_none {rs : List Rd} {xs : List Int} {f : Int} (hp : ∀ j, j < rs.length → badAt rs xs f j = false) : clash rs xs f = none := by
  unfold clash
  rw [List.find?_range_eq_none]
  intro j hj
  simp [hp j hj]
theorem badAt_eq {rs : List Rd} {xs : List Int} {f : Int} {k : Nat} (hk : k < rs.length) : badAt rs xs f k = (decide (rs[k].fr ≠ nowAt xs k) || (decide (rs[k].fr = 0) && decide (rs[k].fg ≠ f))) := by
  unfold badAt
  rw [List.getElem?_eq_getElem hk]

theorem step_ok {p : Nat → Bool} {k : Nat} (h : ∀ j, j < k → p j = false) (hb : p k = false) : ∀ j, j < k + 1 → p j = false := fun j hj => by
  by_cases e : j = k
  · subst e; exact hb
  · exact h j (by omega)

set_option maxHeartbeats 1600000 in
theorem clash_any (rs : List Rd) (A : Option Addr) (c : Nat) (xs : List Int) (B : Option Addr) (d : Nat) (f : Int) (w : World) (hR : RdsAt w A rs) (hX : NumsAt .u32 w B xs) :
    Calls Try.prog 8 #[.slice A rs.length c, .slice B xs.length d, .int .u32 f] w fun e w' => e = .returned (clashV (clash rs xs f)) ∧ Kp w w' := by
  have hz := hR.1
  go_enter Try.func8, Try.ntmps8
  go_wp2_with fail
  go_loopw [13] (fun i wr => ∃ k : Nat, k ≤ rs.length ∧ i = .int .i64 k ∧ Kp w wr ∧ ∀ j, j < k → badAt rs xs f j = false) (fun i _ => rs.length - (intOf i).toNat)
  case atStart => exact ⟨0, by omega, rfl, Kp.refl _, by omega⟩
  case round =>
    obtain ⟨k, hk, rfl, hK, hp⟩ := hrel
    have HP := Lib.hid hp
    clear hp
    by_cases hlt : k < rs.length
    · obtain ⟨b, off, rfl, hc⟩ := hR.2 (by omega)
      obtain ⟨u0, u1, u2⟩ := hc k hlt
      have c0 := hK.cell u0
      have c1 := hK.cell u1
      have c2 := hK.cell u2
      have HB := Lib.hid (badAt_eq (xs := xs) (f := f) hlt)
      clear hc u0 u1 u2
      generalize rs[k] = r at *
      by_cases hx : k < xs.length
      · obtain ⟨b', off', rfl, hc'⟩ := hX.2 (by omega)
        have c3 := fun o => (hK.alloc o).cell (hc' k hx)
        have HN : Hid (nowAt xs k = xs[k]) := by show nowAt xs k = xs[k]; unfold nowAt; simp [List.getD_eq_getElem?_getD, hx]
        generalize xs[k] = x at *
        clear hc'
        go_wp2_with fail
        all_goals first
          | (have hb : badAt rs xs f k = true := by rw [HB.out, HN.out]; simp_all
             go_ret2
             exact ⟨by rw [clash_some hlt hb HP.out]; rfl, hK.alloc _⟩)
          | (have hb : badAt rs xs f k = false := by rw [HB.out, HN.out]; simp_all
             go_roundw
             case rel => exact ⟨k + 1, by omega, by go_num, hK.alloc _, step_ok HP.out hb⟩
             case measure => simp [intOf]; omega)
      · have HN : Hid (nowAt xs k = 0) := by show nowAt xs k = 0; unfold nowAt; simp [List.getD_eq_getElem?_getD, hx]
        go_wp2_with fail
        all_goals first
          | (have hb : badAt rs xs f k = true := by rw [HB.out, HN.out]; simp_all
             go_ret2
             exact ⟨by rw [clash_some hlt hb HP.out]; rfl, hK.alloc _⟩)
          | (have hb : badAt rs xs f k = false := by rw [HB.out, HN.out]; simp_all
             go_roundw
             case rel => exact ⟨k + 1, by omega, by go_num, hK.alloc _, step_ok HP.out hb⟩
             case measure => simp [intOf]; omega)
    · obtain rfl : k = rs.length := by omega
      go_wp2_with fail
      go_ret2
      exact ⟨by rw [clash_none HP.out]; rfl, hK⟩
set_option maxHeartbeats 1600000 in
theorem rclash_any (rs : List Rd) (A : Option Addr) (c : Nat) (xs : List Int) (B : Option Addr) (d : Nat) (f : Int) (w : World) (hR : RdsAt w A rs) (hX : NumsAt .u32 w B xs) :
    Calls Try.prog 9 #[.slice A rs.length c, .slice B xs.length d, .int .u32 f] w fun e w' => e = .returned (clashV (clash rs xs f)) ∧ Kp w w' := by
  have hz := hR.1
  go_enter Try.func9, Try.ntmps9
  go_wp2_with fail
  go_loopw [8] (fun i wr => ∃ k : Nat, k ≤ rs.length ∧ i = .int .i64 k ∧ Kp w wr ∧ ∀ j, j < k → badAt rs xs f j = false) (fun i _ => rs.length - (intOf i).toNat)
  case atStart => exact ⟨0, by omega, rfl, Kp.refl _, by omega⟩
  case round =>
    obtain ⟨k, hk, rfl, hK, hp⟩ := hrel
    have HP := Lib.hid hp
    clear hp
    by_cases hlt : k < rs.length
    · obtain ⟨b, off, rfl, hc⟩ := hR.2 (by omega)
      obtain ⟨u0, u1, u2⟩ := hc k hlt
      have c0 := hK.cell u0
      have c1 := hK.cell u1
      have c2 := hK.cell u2
      have HB := Lib.hid (badAt_eq (xs := xs) (f := f) hlt)
      clear hc u0 u1 u2
      generalize rs[k] = r at *
      by_cases hx : k < xs.length
      · obtain ⟨b', off', rfl, hc'⟩ := hX.2 (by omega)
        have c3 := hK.cell (hc' k hx)
        have HN : Hid (nowAt xs k = xs[k]) := by show nowAt xs k = xs[k]; unfold nowAt; simp [List.getD_eq_getElem?_getD, hx]
        generalize xs[k] = x at *
        clear hc'
        go_wp2_with fail
        all_goals first
          | (have hb : badAt rs xs f k = true := by rw [HB.out, HN.out]; simp_all
             go_ret2
             exact ⟨by rw [clash_some hlt hb HP.out]; rfl, hK⟩)
          | (have hb : badAt rs xs f k = false := by rw [HB.out, HN.out]; simp_all
             go_roundw
             case rel => exact ⟨k + 1, by omega, by go_num, hK, step_ok HP.out hb⟩
             case measure => simp [intOf]; omega)
      · have HN : Hid (nowAt xs k = 0) := by show nowAt xs k = 0; unfold nowAt; simp [List.getD_eq_getElem?_getD, hx]
        go_wp2_with fail
        all_goals first
          | (have hb : badAt rs xs f k = true := by rw [HB.out, HN.out]; simp_all
             go_ret2
             exact ⟨by rw [clash_some hlt hb HP.out]; rfl, hK⟩)
          | (have hb : badAt rs xs f k = false := by rw [HB.out, HN.out]; simp_all
             go_roundw
             case rel => exact ⟨k + 1, by omega, by go_num, hK, step_ok HP.out hb⟩
             case measure => simp [intOf]; omega)
    · obtain rfl : k = rs.length := by omega
      go_wp2_with fail
      go_ret2
      exact ⟨by rw [clash_none HP.out]; rfl, hK⟩

/-- How many reads found nothing. -/
def missN (rs : List Rd) : Nat := (rs.filter fun r => decide (r.fr = 0)).length
theorem missN_le (rs : List Rd) : missN rs ≤ rs.length := List.length_filter_le _ _
theorem missN_take (rs : List Rd) (k : Nat) (h : k < rs.length) : missN (rs.take (k + 1)) = missN (rs.take k) + if rs[k].fr = 0 then 1 else 0 := by
  unfold missN
  rw [List.take_succ_eq_append_getElem h, List.filter_append, List.length_append]
  congr 1
  by_cases e : rs[k].fr = 0 <;> simp [List.filter_cons, e]
set_option maxHeartbeats 800000 in
theorem misses_any (rs : List Rd) (A : Option Addr) (c : Nat) (w : World) (hR : RdsAt w A rs) :
    Calls Try.prog 11 #[.slice A rs.length c] w fun e w' => e = .returned (.int .i64 (missN rs : Nat)) ∧ Kp w w' := by
  have hz := hR.1
  go_enter Try.func11, Try.ntmps11
  go_wp2_with fail
  go_loopw [3, 8] (fun n i wr => ∃ k : Nat, k ≤ rs.length ∧ i = .int .i64 k ∧ n = .int .i64 (missN (rs.take k) : Nat) ∧ Kp w wr) (fun _ i _ => rs.length - (intOf i).toNat)
  case atStart => exact ⟨0, by omega, rfl, rfl, Kp.refl _⟩
  case round =>
    obtain ⟨k, hk, rfl, rfl, hK⟩ := hrel
    by_cases hlt : k < rs.length
    · obtain ⟨b, off, rfl, hc⟩ := hR.2 (by omega)
      obtain ⟨u0, u1, u2⟩ := hc k hlt
      have c0 := hK.cell u0
      have c1 := hK.cell u1
      have c2 := hK.cell u2
      have HM := Lib.hid (missN_take rs k hlt)
      have hb := missN_le (rs.take k)
      have hb2 : (rs.take k).length ≤ k := List.length_take_le _ _
      generalize missN (rs.take k) = N at *
      clear hc u0 u1 u2
      generalize rs[k] = r at *
      by_cases h0 : r.fr = 0
      · have h0' : (r.fr == 0) = true := by simp [h0]
        have H0 := Lib.hid h0
        clear h0
        go_wp2_with fail
        go_roundw
        case rel => exact ⟨k + 1, by omega, by go_num, by rw [HM.out, if_pos H0.out]; go_num, hK.alloc _⟩
        case measure => simp [intOf]; omega
      · have h0' : (r.fr == 0) = false := by simp [h0]
        go_wp2_with fail
        go_roundw
        case rel => exact ⟨k + 1, by omega, by go_num, by rw [HM.out, if_neg h0]; go_num, hK.alloc _⟩
        case measure => simp [intOf]; omega
    · obtain rfl : k = rs.length := by omega
      rw [List.take_length]
      go_wp2_with fail
      go_ret
      exact ⟨rfl, hK⟩
end Go.Proofs.Ytfhkkelhhjbbpaa
