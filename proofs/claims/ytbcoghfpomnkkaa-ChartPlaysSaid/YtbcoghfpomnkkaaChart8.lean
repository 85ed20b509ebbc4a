/- The contracts of package chart: Oldest, Resume; facts on lists. -/
import Derived.Test.YtbcoghfpomnkkaaChart7
namespace Go.Proofs.Ytbcoghfpomnkkaa
open Go.RowKit
set_option linter.unusedVariables false

theorem nwst_ge (l : List (Int × Int)) : ∀ m k : Nat, k < m → epo l k ≤ (nwst l m).2
  | 0, k, h => by omega
  | m + 1, k, h => by
    have ih := nwst_ge l m
    unfold nwst
    by_cases e : k = m
    · subst e; split <;> simp_all
    · have := ih k (by omega); split <;> simp <;> omega
theorem epo_set (l : List (Int × Int)) (k j : Nat) (x : Int × Int) (hk : k < l.length) : epo (l.set k x) j = if j = k then x.1 else epo l j := by
  unfold epo
  simp only [List.getD_eq_getElem?_getD, List.getElem?_set]
  by_cases h : k = j
  · subst h; simp [hk]
  · rw [if_neg h, if_neg (fun e => h e.symm)]
theorem uso_set (l : List (Int × Int)) (k j : Nat) (x : Int × Int) (hk : k < l.length) : uso (l.set k x) j = if j = k then x.2 else uso l j := by
  unfold uso
  simp only [List.getD_eq_getElem?_getD, List.getElem?_set]
  by_cases h : k = j
  · subst h; simp [hk]
  · rw [if_neg h, if_neg (fun e => h e.symm)]
theorem frees_set_lo (l : List (Int × Int)) (k : Nat) (x : Int × Int) (hk : k < l.length) : ∀ m, m ≤ k → frees (l.set k x) m = frees l m
  | 0, _ => rfl
  | m + 1, h => by simp only [frees]; rw [frees_set_lo l k x hk m (by omega), epo_set l k m x hk, if_neg (by omega : ¬ m = k)]
theorem frees_set (l : List (Int × Int)) (k : Nat) (x : Int × Int) (hk : k < l.length) : ∀ m, k < m → frees (l.set k x) m + (if epo l k = 0 then 1 else 0) = frees l m + (if x.1 = 0 then 1 else 0)
  | m + 1, h => by
    rw [frees, frees, epo_set _ _ _ _ hk]
    by_cases e : m = k
    · subst e; rw [if_pos rfl, frees_set_lo l m x hk m (Nat.le_refl _)]; split <;> split <;> omega
    · have := frees_set l k x hk m (by omega); rw [if_neg e]; omega
theorem frees_rep (n : Nat) : ∀ m, frees (List.replicate n (0, 0)) m = m
  | 0 => rfl
  | m + 1 => by rw [frees, frees_rep n m, (rep0 n m).1]; rfl
theorem repOk (p s : Int) (n : Nat) (h : RightG p s n) : ChOk p s (List.replicate n (0, 0)) (-1) := by
  obtain ⟨r1, r2, r3, r4, r5, r6⟩ := id h
  refine ⟨by rw [List.length_replicate]; exact h, fun k => ?_, fun k => ?_, fun k => ?_, fun k => ?_, Or.inl rfl⟩
  · rw [(rep0 n k).1]; omega
  · rw [(rep0 n k).1]; omega
  · rw [(rep0 n k).2]; omega
  · rw [(rep0 n k).2]; omega

/-- The taken region of the least epoch that is not open. -/
def oldF (l : List (Int × Int)) (o : Int) : Nat → Nat × Bool
  | 0 => (0, false)
  | k + 1 => if 0 < epo l k ∧ o ≠ k ∧ ((oldF l o k).2 = false ∨ epo l k < epo l (oldF l o k).1) then (k, true) else oldF l o k
theorem oldF_lt (l : List (Int × Int)) (o : Int) : ∀ k, (oldF l o k).1 ≤ k
  | 0 => Nat.le_refl _
  | k + 1 => by have := oldF_lt l o k; unfold oldF; split <;> simp <;> omega
theorem oldF_in (l : List (Int × Int)) (o : Int) : ∀ k, 0 < k → (oldF l o k).1 < k
  | k + 1, _ => by have := oldF_lt l o k; unfold oldF; split <;> simp <;> omega

theorem copened_any (W : World) (g q : Nat) (p s : Int) (l : List (Int × Int)) (o : Int) (h : ChAt W g q p s l o) (ok : ChOk p s l o) :
    Calls Try.prog 36 #[.pointer (some ⟨g, 0, none⟩)] W fun e w' => e = .returned (.bool (decide (0 ≤ o))) ∧ Kp W w' := by
  have hlen := ok.len
  rcases ok.op with rfl | ⟨k, hk, rfl, he⟩
  · exact copened_no W g q p s l h
  · have : decide (0 ≤ (k : Int)) = true := by simp
    rw [this]; exact copened_yes W g q p s l k h (by omega) hk he

set_option maxRecDepth 20000 in
set_option maxHeartbeats 3200000 in
theorem coldest_any (W0 : World) (g q : Nat) (p s : Int) (l : List (Int × Int)) (o : Int) (h : ChAt W0 g q p s l o) (ok : ChOk p s l o) :
    Calls Try.prog 23 #[.pointer (some ⟨g, 0, none⟩)] W0 fun e w' => e = .returned (.tuple #[.int .i64 (oldF l o l.length).1, .bool (oldF l o l.length).2]) ∧ Kp W0 w' := by
  have hlen := ok.len
  obtain ⟨c0, c1, c2, c3, c4⟩ := h.c5
  go_enter Try.func23, Try.ntmps23
  go_wp2_with fail
  go_loopw [2, 3, 13] (fun a t i wr => ∃ k : Nat, k ≤ l.length ∧ i = .int .i64 k ∧ a = .int .i64 (oldF l o k).1 ∧ t = .bool (oldF l o k).2 ∧ Kp W0 wr) (fun _ _ i _ => l.length - (intOf i).toNat)
  case atStart => exact ⟨0, by omega, rfl, rfl, rfl, Kp.refl W0⟩
  case round =>
    obtain ⟨k, hk, rfl, rfl, rfl, hKr⟩ := hrel
    clear c0 c1 c2 c3 c4
    by_cases hlt : k < l.length
    · have hr := h.keep hKr
      obtain ⟨e0, e1⟩ := hr.eu k hlt
      have hs : oldF l o (k + 1) = if 0 < epo l k ∧ o ≠ k ∧ ((oldF l o k).2 = false ∨ epo l k < epo l (oldF l o k).1) then (k, true) else oldF l o k := rfl
      have HS := Lib.hid hs
      have hzl := oldF_lt l o k
      clear hs
      generalize oldF l o k = z at *
      obtain ⟨z1, z2⟩ := z
      simp only at hzl HS ⊢
      have hz1 : z1 < l.length := by omega
      have hz1' : (z1 : Int) < (l.length : Int) := by omega
      have ex := ok.ep0 k
      have hbox := Bk.new wr 62 [.int .u32 (epo l k), .int .i64 (uso l k)]
      by_cases hz : epo l k = 0
      · have hd : decide (0 < epo l k) = false := by rw [hz]; rfl
        have hn : oldF l o (k + 1) = (z1, z2) := by rw [HS.out, if_neg (by omega)]
        have HN := Lib.hid hn
        have HB := Lib.hid (fun W (kk : Kp (wr.alloc (.cells #[.int .u32 (epo l k), .int .i64 (uso l k)] 62)) W) => (⟨(hbox.keep kk).cell 0, (hbox.keep kk).cell 1⟩ : W.cell? ⟨wr.heap.size, 0, none⟩ = some (.int .u32 (epo l k)) ∧ W.cell? ⟨wr.heap.size, 1, none⟩ = some (.int .i64 (uso l k))))
        clear hn HS hz
        go_wp2_with fail
        have hInh := fun (x v : Value) => (⟨fun h => h _ ((Kp.refl _).drew), fun h _ _ => h⟩ : (∀ W, (fun W => Kp (wr.alloc (.cells #[.int .u32 (epo l k), .int .i64 (uso l k)] 62)) W) W → x = v) ↔ x = v)
        dsimp only at hInh
        refine wp_region_quietC (C := fun W => Kp (wr.alloc (.cells #[.int .u32 (epo l k), .int .i64 (uso l k)] 62)) W) (by kernel_rfl) (by kernel_rfl) ((Kp.refl _).drew) ?_
        repeat (first | go_big_quiet_step ((intro hW; first | fail | (with_reducible rfl) | (obtain ⟨b0, b1⟩ := HB.out _ hW; (try go_simp); first | done | with_reducible rfl | exact ⟨rfl, rfl⟩))) | quiet_step ((intro hW; first | fail | (with_reducible rfl) | (obtain ⟨b0, b1⟩ := HB.out _ hW; (try go_simp); first | done | with_reducible rfl | exact ⟨rfl, rfl⟩))))
        refine wpQuiet_nil ?_
        intro wq hwq
        clear hInh
        go_wp2_with fail
        go_roundw
        case rel => exact ⟨k + 1, by omega, by go_num, by rw [HN.out], by rw [HN.out], (hKr.alloc _).trans hwq⟩
        case measure => simp [intOf]; omega
      · have hp : 0 < epo l k := by omega
        have hd : decide (0 < epo l k) = true := by simpa using hp
        have HB := Lib.hid (fun W (kk : Kp (wr.alloc (.cells #[.int .u32 (epo l k), .int .i64 (uso l k)] 62)) W) => (⟨(hbox.keep kk).cell 0, (hbox.keep kk).cell 1⟩ : W.cell? ⟨wr.heap.size, 0, none⟩ = some (.int .u32 (epo l k)) ∧ W.cell? ⟨wr.heap.size, 1, none⟩ = some (.int .i64 (uso l k))))
        have HC := Lib.hid (fun W (kk : Kp (wr.alloc (.cells #[.int .u32 (epo l k), .int .i64 (uso l k)] 62)) W) => (⟨((hr.keep (Kp.one _ _)).keep kk).c5, ((hr.keep (Kp.one _ _)).keep kk).eu z1 hz1⟩ : _ ∧ _))
        by_cases ho : o = k
        · have hn : oldF l o (k + 1) = (z1, z2) := by rw [HS.out, if_neg (fun hx => hx.2.1 ho)]
          have HN := Lib.hid hn
          have HO := Lib.hid (fun W (kk : Kp (wr.alloc (.cells #[.int .u32 (epo l k), .int .i64 (uso l k)] 62)) W) => (copened_any W g q p s l o ((hr.keep (Kp.one _ _)).keep kk) ok).mono (fun e w' hx => (⟨hx.1.trans (by rw [show decide (0 ≤ o) = true by simp; omega]), hx.2⟩ : e = .returned (.bool true) ∧ Kp W w')))
          have hb : ((k : Int) == o) = true := by simp [ho]
          clear hn HS
          go_wp2_with fail
          have hInh := fun (x v : Value) => (⟨fun h => h _ ((Kp.refl _).drew), fun h _ _ => h⟩ : (∀ W, (fun W => Kp (wr.alloc (.cells #[.int .u32 (epo l k), .int .i64 (uso l k)] 62)) W) W → x = v) ↔ x = v)
          dsimp only at hInh
          refine wp_region_quietC (C := fun W => Kp (wr.alloc (.cells #[.int .u32 (epo l k), .int .i64 (uso l k)] 62)) W) (by kernel_rfl) (by kernel_rfl) ((Kp.refl _).drew) ?_
          repeat (first | go_big_quiet_step ((intro hW; first | (go_at_call 36; refine (HO.out _ hW).mono ?_; rintro e w' ⟨rfl, hk9⟩; exact ⟨rfl, hW.trans hk9⟩) | (with_reducible rfl) | (obtain ⟨b0, b1⟩ := HB.out _ hW; obtain ⟨⟨c0, c1, c2, c3, c4⟩, x0, x1⟩ := HC.out _ hW; (try go_simp); first | done | with_reducible rfl | exact ⟨rfl, rfl⟩))) | quiet_step ((intro hW; first | (go_at_call 36; refine (HO.out _ hW).mono ?_; rintro e w' ⟨rfl, hk9⟩; exact ⟨rfl, hW.trans hk9⟩) | (with_reducible rfl) | (obtain ⟨b0, b1⟩ := HB.out _ hW; obtain ⟨⟨c0, c1, c2, c3, c4⟩, x0, x1⟩ := HC.out _ hW; (try go_simp); first | done | with_reducible rfl | exact ⟨rfl, rfl⟩))))
          refine wpQuiet_nil ?_
          intro wq hwq
          clear hInh
          go_wp2_with fail
          go_roundw
          case rel => exact ⟨k + 1, by omega, by go_num, by rw [HN.out], by rw [HN.out], (hKr.alloc _).trans hwq⟩
          case measure => simp [intOf]; omega
        · have hb : ((k : Int) == o) = false := beq_eq_false_iff_ne.2 (fun hx => ho hx.symm)
          have hopen : ∃ B : Bool, ∀ W, Kp (wr.alloc (.cells #[.int .u32 (epo l k), .int .i64 (uso l k)] 62)) W → Calls Try.prog 36 #[.pointer (some ⟨g, 0, none⟩)] W fun e w' => e = .returned (.bool B) ∧ Kp W w' := ⟨_, fun W kk => copened_any W g q p s l o ((hr.keep (Kp.one _ _)).keep kk) ok⟩
          obtain ⟨B, hB⟩ := hopen
          have HO := Lib.hid hB
          clear hB
          rcases z2 with _ | _
          · have hn : oldF l o (k + 1) = (k, true) := by rw [HS.out, if_pos ⟨hp, ho, Or.inl rfl⟩]
            have HN := Lib.hid hn
            clear hn HS
            rcases B with _ | _
            all_goals
              go_wp2_with fail
              have hInh := fun (x v : Value) => (⟨fun h => h _ ((Kp.refl _).drew), fun h _ _ => h⟩ : (∀ W, (fun W => Kp (wr.alloc (.cells #[.int .u32 (epo l k), .int .i64 (uso l k)] 62)) W) W → x = v) ↔ x = v)
              dsimp only at hInh
              refine wp_region_quietC (C := fun W => Kp (wr.alloc (.cells #[.int .u32 (epo l k), .int .i64 (uso l k)] 62)) W) (by kernel_rfl) (by kernel_rfl) ((Kp.refl _).drew) ?_
              repeat (first | go_big_quiet_step ((intro hW; first | (go_at_call 36; refine (HO.out _ hW).mono ?_; rintro e w' ⟨rfl, hk9⟩; exact ⟨rfl, hW.trans hk9⟩) | (with_reducible rfl) | (obtain ⟨b0, b1⟩ := HB.out _ hW; obtain ⟨⟨c0, c1, c2, c3, c4⟩, x0, x1⟩ := HC.out _ hW; (try go_simp); first | done | with_reducible rfl | exact ⟨rfl, rfl⟩))) | quiet_step ((intro hW; first | (go_at_call 36; refine (HO.out _ hW).mono ?_; rintro e w' ⟨rfl, hk9⟩; exact ⟨rfl, hW.trans hk9⟩) | (with_reducible rfl) | (obtain ⟨b0, b1⟩ := HB.out _ hW; obtain ⟨⟨c0, c1, c2, c3, c4⟩, x0, x1⟩ := HC.out _ hW; (try go_simp); first | done | with_reducible rfl | exact ⟨rfl, rfl⟩))))
              refine wpQuiet_nil ?_
              intro wq hwq
              clear hInh
              go_wp2_with fail
              go_roundw
              case rel => exact ⟨k + 1, by omega, by go_num, by rw [HN.out], by rw [HN.out], (hKr.alloc _).trans hwq⟩
              case measure => simp [intOf]; omega
          · by_cases hc : epo l k < epo l z1
            · have hn : oldF l o (k + 1) = (k, true) := by rw [HS.out, if_pos ⟨hp, ho, Or.inr hc⟩]
              have HN := Lib.hid hn
              have hcd : decide (epo l k < epo l z1) = true := by simpa using hc
              clear hn HS
              rcases B with _ | _
              all_goals
                go_wp2_with fail
                have hInh := fun (x v : Value) => (⟨fun h => h _ ((Kp.refl _).drew), fun h _ _ => h⟩ : (∀ W, (fun W => Kp (wr.alloc (.cells #[.int .u32 (epo l k), .int .i64 (uso l k)] 62)) W) W → x = v) ↔ x = v)
                dsimp only at hInh
                refine wp_region_quietC (C := fun W => Kp (wr.alloc (.cells #[.int .u32 (epo l k), .int .i64 (uso l k)] 62)) W) (by kernel_rfl) (by kernel_rfl) ((Kp.refl _).drew) ?_
                repeat (first | go_big_quiet_step ((intro hW; first | (go_at_call 36; refine (HO.out _ hW).mono ?_; rintro e w' ⟨rfl, hk9⟩; exact ⟨rfl, hW.trans hk9⟩) | (with_reducible rfl) | (obtain ⟨b0, b1⟩ := HB.out _ hW; obtain ⟨⟨c0, c1, c2, c3, c4⟩, x0, x1⟩ := HC.out _ hW; (try go_simp); first | done | with_reducible rfl | exact ⟨rfl, rfl⟩))) | quiet_step ((intro hW; first | (go_at_call 36; refine (HO.out _ hW).mono ?_; rintro e w' ⟨rfl, hk9⟩; exact ⟨rfl, hW.trans hk9⟩) | (with_reducible rfl) | (obtain ⟨b0, b1⟩ := HB.out _ hW; obtain ⟨⟨c0, c1, c2, c3, c4⟩, x0, x1⟩ := HC.out _ hW; (try go_simp); first | done | with_reducible rfl | exact ⟨rfl, rfl⟩))))
                refine wpQuiet_nil ?_
                intro wq hwq
                clear hInh
                go_wp2_with fail
                go_roundw
                case rel => exact ⟨k + 1, by omega, by go_num, by rw [HN.out], by rw [HN.out], (hKr.alloc _).trans hwq⟩
                case measure => simp [intOf]; omega
            · have hn : oldF l o (k + 1) = (z1, true) := by rw [HS.out, if_neg (fun hx => by rcases hx.2.2 with h9 | h9; exact absurd h9 (by simp); exact hc h9)]
              have HN := Lib.hid hn
              have hcd : decide (epo l k < epo l z1) = false := by simpa using hc
              clear hn HS
              rcases B with _ | _
              all_goals
                go_wp2_with fail
                have hInh := fun (x v : Value) => (⟨fun h => h _ ((Kp.refl _).drew), fun h _ _ => h⟩ : (∀ W, (fun W => Kp (wr.alloc (.cells #[.int .u32 (epo l k), .int .i64 (uso l k)] 62)) W) W → x = v) ↔ x = v)
                dsimp only at hInh
                refine wp_region_quietC (C := fun W => Kp (wr.alloc (.cells #[.int .u32 (epo l k), .int .i64 (uso l k)] 62)) W) (by kernel_rfl) (by kernel_rfl) ((Kp.refl _).drew) ?_
                repeat (first | go_big_quiet_step ((intro hW; first | (go_at_call 36; refine (HO.out _ hW).mono ?_; rintro e w' ⟨rfl, hk9⟩; exact ⟨rfl, hW.trans hk9⟩) | (with_reducible rfl) | (obtain ⟨b0, b1⟩ := HB.out _ hW; obtain ⟨⟨c0, c1, c2, c3, c4⟩, x0, x1⟩ := HC.out _ hW; (try go_simp); first | done | with_reducible rfl | exact ⟨rfl, rfl⟩))) | quiet_step ((intro hW; first | (go_at_call 36; refine (HO.out _ hW).mono ?_; rintro e w' ⟨rfl, hk9⟩; exact ⟨rfl, hW.trans hk9⟩) | (with_reducible rfl) | (obtain ⟨b0, b1⟩ := HB.out _ hW; obtain ⟨⟨c0, c1, c2, c3, c4⟩, x0, x1⟩ := HC.out _ hW; (try go_simp); first | done | with_reducible rfl | exact ⟨rfl, rfl⟩))))
                refine wpQuiet_nil ?_
                intro wq hwq
                clear hInh
                go_wp2_with fail
                go_roundw
                case rel => exact ⟨k + 1, by omega, by go_num, by rw [HN.out], by rw [HN.out], (hKr.alloc _).trans hwq⟩
                case measure => simp [intOf]; omega
    · obtain rfl : k = l.length := by omega
      go_wp2_with fail
      go_ret2
      exact ⟨rfl, hKr⟩
end Go.Proofs.Ytbcoghfpomnkkaa
