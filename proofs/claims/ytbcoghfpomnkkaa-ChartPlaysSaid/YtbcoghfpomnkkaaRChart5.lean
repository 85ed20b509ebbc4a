/- The contracts of the reference's account: Oldest. -/
import Derived.Test.YtbcoghfpomnkkaaRChart4
namespace Go.Proofs.Ytbcoghfpomnkkaa
open Go.RowKit
set_option linter.unusedVariables false

theorem oldF_no (l : List (Int × Int)) (o : Int) : ∀ k, (oldF l o k).2 = false → (oldF l o k).1 = 0
  | 0, _ => rfl
  | k + 1, h => by
    have ih := oldF_no l o k
    rw [oldF] at h ⊢
    split
    · rename_i hc; rw [if_pos hc] at h; cases h
    · rename_i hc; rw [if_neg hc] at h; exact ih h
/-- The reference's 'at'. -/
def oldAt (z : Nat × Bool) : Int := if z.2 = true then z.1 else -1

set_option maxRecDepth 20000 in
set_option maxHeartbeats 3200000 in
theorem roldest_any (W0 : World) (g b u : Nat) (p s : Int) (l : List (Int × Int)) (o : Int) (h : RcAt W0 g b u p s l o) (ok : ChOk p s l o) :
    Calls Try.prog 43 #[.pointer (some ⟨g, 0, none⟩)] W0 fun e w' => e = .returned (.tuple #[.int .i64 (oldF l o l.length).1, .bool (oldF l o l.length).2]) ∧ Kp W0 w' := by
  have hlen := ok.len
  have HNO := Lib.hid (oldF_no l o l.length)
  have HIN := Lib.hid (oldF_in l o l.length (by omega))
  obtain ⟨c0, c1, c2, c3, c4, c5⟩ := h.c6
  go_enter Try.func43, Try.ntmps43
  go_wp2_with fail
  go_loopw [4, 5] (fun a i wr => ∃ k : Nat, k ≤ l.length ∧ i = .int .i64 k ∧ a = .int .i64 (oldAt (oldF l o k)) ∧ Kp W0 wr) (fun _ i _ => l.length - (intOf i).toNat)
  case atStart => exact ⟨0, by omega, rfl, rfl, Kp.refl W0⟩
  case round =>
    obtain ⟨k, hk, rfl, rfl, hKr⟩ := hrel
    clear c0 c1 c2 c3 c4 c5
    have hr := h.keep hKr
    obtain ⟨c0, c1, c2, c3, c4, c5⟩ := hr.c6
    by_cases hlt : k < l.length
    · have hs : oldF l o (k + 1) = if 0 < epo l k ∧ o ≠ k ∧ ((oldF l o k).2 = false ∨ epo l k < epo l (oldF l o k).1) then (k, true) else oldF l o k := rfl
      have HS := Lib.hid hs
      have hzl := oldF_lt l o k
      clear hs
      generalize oldF l o k = z at *
      obtain ⟨z1, z2⟩ := z
      simp only at hzl HS ⊢
      have hlt2 : (k : Int) < (l.length : Int) := by omega
      have hz1 : z1 < l.length := by omega
      have hz1' : (z1 : Int) < (l.length : Int) := by omega
      have ex := ok.ep0 k
      have HC := Lib.hid (fun W (k9 : Kp wr W) => (hr.keep k9).c6)
      have HE := Lib.hid (fun W (k9 : Kp wr W) => (hr.keep k9).c2 k hlt)
      have HE2 := Lib.hid (fun W (k9 : Kp wr W) => (hr.keep k9).c2 z1 hz1)
      by_cases hz : epo l k = 0
      · have hb1 : (epo l k != 0) = false := by simp [hz]
        have hb2 : (epo l k == 0) = true := by simp [hz]
        have hn : oldF l o (k + 1) = (z1, z2) := by rw [HS.out, if_neg (by omega)]
        have HN := Lib.hid hn
        clear hn HS hz
        have hgen : ∃ az, oldAt (z1, z2) = az := ⟨_, rfl⟩
        obtain ⟨az, haz⟩ := hgen
        rw [haz]
        have HAZ := Lib.hid haz
        clear haz
        go_wp2_with fail
        have hInh := fun (x v : Value) => (⟨fun h => h _ ((Kp.refl wr).drew), fun h _ _ => h⟩ : (∀ W, (fun W => Kp wr W) W → x = v) ↔ x = v)
        dsimp only at hInh
        refine wp_region_quietC (C := fun W => Kp wr W) (by kernel_rfl) (by kernel_rfl) ((Kp.refl wr).drew) ?_
        repeat (first | go_big_quiet_step ((intro hW; first | fail | (with_reducible rfl) | (obtain ⟨c0, c1, c2, c3, c4, c5⟩ := HC.out _ hW; obtain ⟨e0, e1⟩ := HE.out _ hW; obtain ⟨e2, e3⟩ := HE2.out _ hW; (try go_simp); first | done | with_reducible rfl | exact ⟨rfl, rfl⟩))) | quiet_step ((intro hW; first | fail | (with_reducible rfl) | (obtain ⟨c0, c1, c2, c3, c4, c5⟩ := HC.out _ hW; obtain ⟨e0, e1⟩ := HE.out _ hW; obtain ⟨e2, e3⟩ := HE2.out _ hW; (try go_simp); first | done | with_reducible rfl | exact ⟨rfl, rfl⟩))))
        refine wpQuiet_nil ?_
        intro wq hwq
        clear hInh
        go_wp2_with fail
        go_roundw
        case rel => exact ⟨k + 1, by omega, by go_num, by rw [HN.out, HAZ.out], hKr.trans hwq⟩
        case measure => simp [intOf]; omega
      · have hp : 0 < epo l k := by omega
        have hb1 : (epo l k != 0) = true := by simp [hz]
        have hb2 : (epo l k == 0) = false := by simp [hz]
        by_cases ho : o = k
        · have hn : oldF l o (k + 1) = (z1, z2) := by rw [HS.out, if_neg (fun hx => hx.2.1 ho)]
          have HN := Lib.hid hn
          have hb3 : ((k : Int) != o) = false := by simp [ho]
          have hb4 : ((k : Int) == o) = true := by simp [ho]
          have hgen : ∃ az, oldAt (z1, z2) = az := ⟨_, rfl⟩
          obtain ⟨az, haz⟩ := hgen
          rw [haz]
          have HAZ := Lib.hid haz
          clear haz hn HS hz ho
          go_wp2_with fail
          have hInh := fun (x v : Value) => (⟨fun h => h _ ((Kp.refl wr).drew), fun h _ _ => h⟩ : (∀ W, (fun W => Kp wr W) W → x = v) ↔ x = v)
          dsimp only at hInh
          refine wp_region_quietC (C := fun W => Kp wr W) (by kernel_rfl) (by kernel_rfl) ((Kp.refl wr).drew) ?_
          repeat (first | go_big_quiet_step ((intro hW; first | fail | (with_reducible rfl) | (obtain ⟨c0, c1, c2, c3, c4, c5⟩ := HC.out _ hW; obtain ⟨e0, e1⟩ := HE.out _ hW; obtain ⟨e2, e3⟩ := HE2.out _ hW; (try go_simp); first | done | with_reducible rfl | exact ⟨rfl, rfl⟩))) | quiet_step ((intro hW; first | fail | (with_reducible rfl) | (obtain ⟨c0, c1, c2, c3, c4, c5⟩ := HC.out _ hW; obtain ⟨e0, e1⟩ := HE.out _ hW; obtain ⟨e2, e3⟩ := HE2.out _ hW; (try go_simp); first | done | with_reducible rfl | exact ⟨rfl, rfl⟩))))
          refine wpQuiet_nil ?_
          intro wq hwq
          clear hInh
          go_wp2_with fail
          go_roundw
          case rel => exact ⟨k + 1, by omega, by go_num, by rw [HN.out, HAZ.out], hKr.trans hwq⟩
          case measure => simp [intOf]; omega
        · have hb3 : ((k : Int) != o) = true := bne_iff_ne.2 (fun hx => ho hx.symm)
          have hb4 : ((k : Int) == o) = false := beq_eq_false_iff_ne.2 (fun hx => ho hx.symm)
          rcases z2 with _ | _
          · have hn : oldF l o (k + 1) = (k, true) := by rw [HS.out, if_pos ⟨hp, ho, Or.inl rfl⟩]
            have HN := Lib.hid hn
            rw [show oldAt (z1, false) = -1 from rfl]
            clear hn HS hz ho
            go_wp2_with fail
            have hInh := fun (x v : Value) => (⟨fun h => h _ ((Kp.refl wr).drew), fun h _ _ => h⟩ : (∀ W, (fun W => Kp wr W) W → x = v) ↔ x = v)
            dsimp only at hInh
            refine wp_region_quietC (C := fun W => Kp wr W) (by kernel_rfl) (by kernel_rfl) ((Kp.refl wr).drew) ?_
            repeat (first | go_big_quiet_step ((intro hW; first | fail | (with_reducible rfl) | (obtain ⟨c0, c1, c2, c3, c4, c5⟩ := HC.out _ hW; obtain ⟨e0, e1⟩ := HE.out _ hW; obtain ⟨e2, e3⟩ := HE2.out _ hW; (try go_simp); first | done | with_reducible rfl | exact ⟨rfl, rfl⟩))) | quiet_step ((intro hW; first | fail | (with_reducible rfl) | (obtain ⟨c0, c1, c2, c3, c4, c5⟩ := HC.out _ hW; obtain ⟨e0, e1⟩ := HE.out _ hW; obtain ⟨e2, e3⟩ := HE2.out _ hW; (try go_simp); first | done | with_reducible rfl | exact ⟨rfl, rfl⟩))))
            refine wpQuiet_nil ?_
            intro wq hwq
            clear hInh
            go_wp2_with fail
            go_roundw
            case rel => exact ⟨k + 1, by omega, by go_num, by rw [HN.out]; rfl, hKr.trans hwq⟩
            case measure => simp [intOf]; omega
          · rw [show oldAt (z1, true) = (z1 : Int) from rfl]
            by_cases hc : epo l k < epo l z1
            · have hn : oldF l o (k + 1) = (k, true) := by rw [HS.out, if_pos ⟨hp, ho, Or.inr hc⟩]
              have HN := Lib.hid hn
              have hcd : decide (epo l k < epo l z1) = true := by simpa using hc
              clear hn HS hz ho
              go_wp2_with fail
              have hInh := fun (x v : Value) => (⟨fun h => h _ ((Kp.refl wr).drew), fun h _ _ => h⟩ : (∀ W, (fun W => Kp wr W) W → x = v) ↔ x = v)
              dsimp only at hInh
              refine wp_region_quietC (C := fun W => Kp wr W) (by kernel_rfl) (by kernel_rfl) ((Kp.refl wr).drew) ?_
              repeat (first | go_big_quiet_step ((intro hW; first | fail | (with_reducible rfl) | (obtain ⟨c0, c1, c2, c3, c4, c5⟩ := HC.out _ hW; obtain ⟨e0, e1⟩ := HE.out _ hW; obtain ⟨e2, e3⟩ := HE2.out _ hW; (try go_simp); first | done | with_reducible rfl | exact ⟨rfl, rfl⟩))) | quiet_step ((intro hW; first | fail | (with_reducible rfl) | (obtain ⟨c0, c1, c2, c3, c4, c5⟩ := HC.out _ hW; obtain ⟨e0, e1⟩ := HE.out _ hW; obtain ⟨e2, e3⟩ := HE2.out _ hW; (try go_simp); first | done | with_reducible rfl | exact ⟨rfl, rfl⟩))))
              refine wpQuiet_nil ?_
              intro wq hwq
              clear hInh
              go_wp2_with fail
              go_roundw
              case rel => exact ⟨k + 1, by omega, by go_num, by rw [HN.out]; rfl, hKr.trans hwq⟩
              case measure => simp [intOf]; omega
            · have hn : oldF l o (k + 1) = (z1, true) := by rw [HS.out, if_neg (fun hx => hx.2.2.elim (fun h => by cases h) hc)]
              have HN := Lib.hid hn
              have hcd : decide (epo l k < epo l z1) = false := by simpa using hc
              clear hn HS hz ho
              go_wp2_with fail
              have hInh := fun (x v : Value) => (⟨fun h => h _ ((Kp.refl wr).drew), fun h _ _ => h⟩ : (∀ W, (fun W => Kp wr W) W → x = v) ↔ x = v)
              dsimp only at hInh
              refine wp_region_quietC (C := fun W => Kp wr W) (by kernel_rfl) (by kernel_rfl) ((Kp.refl wr).drew) ?_
              repeat (first | go_big_quiet_step ((intro hW; first | fail | (with_reducible rfl) | (obtain ⟨c0, c1, c2, c3, c4, c5⟩ := HC.out _ hW; obtain ⟨e0, e1⟩ := HE.out _ hW; obtain ⟨e2, e3⟩ := HE2.out _ hW; (try go_simp); first | done | with_reducible rfl | exact ⟨rfl, rfl⟩))) | quiet_step ((intro hW; first | fail | (with_reducible rfl) | (obtain ⟨c0, c1, c2, c3, c4, c5⟩ := HC.out _ hW; obtain ⟨e0, e1⟩ := HE.out _ hW; obtain ⟨e2, e3⟩ := HE2.out _ hW; (try go_simp); first | done | with_reducible rfl | exact ⟨rfl, rfl⟩))))
              refine wpQuiet_nil ?_
              intro wq hwq
              clear hInh
              go_wp2_with fail
              go_roundw
              case rel => exact ⟨k + 1, by omega, by go_num, by rw [HN.out]; rfl, hKr.trans hwq⟩
              case measure => simp [intOf]; omega
    · obtain rfl : k = l.length := by omega
      have hno := HNO.out
      clear HNO HIN
      obtain ⟨z1, z2, hzz⟩ : ∃ z1 z2, oldF l o l.length = (z1, z2) := ⟨_, _, rfl⟩
      rw [hzz] at hno ⊢
      have HZZ := Lib.hid hzz
      clear hzz
      rcases z2 with _ | _
      · obtain rfl : z1 = 0 := hno rfl
        rw [show oldAt (0, false) = -1 from rfl]
        go_wp2_with fail
        go_ret2
        exact ⟨by rw [HZZ.out]; rfl, hKr⟩
      · rw [show oldAt (z1, true) = (z1 : Int) from rfl]
        clear hno
        go_wp2_with fail
        go_ret2
        exact ⟨by rw [HZZ.out]; rfl, hKr⟩
end Go.Proofs.Ytbcoghfpomnkkaa
