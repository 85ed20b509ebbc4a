/- The contracts of package chart: Left, Avail, Take, Erase, Set, New and the small ones. -/
import Derived.Test.YtbcoghfpomnkkaaChart3
namespace Go.Proofs.Ytbcoghfpomnkkaa
open Go.RowKit
set_option linter.unusedVariables false

def leftF (s : Int) (l : List (Int × Int)) (o : Int) : Int := if o < 0 then 0 else s - 1 - uso l o.toNat
theorem slotsK (p s r : Int) (h : RightG p s r) (w : World) :
    Calls Try.prog 35 #[geo p s r] w fun e w' => e = .returned (.int .i64 (s - 1)) ∧ Kp w w' :=
  (slots_yes p s r h w).mono fun _ _ ⟨he, hw⟩ => ⟨he, hw ▸ ((Kp.one _ _).alloc _)⟩
set_option maxHeartbeats 800000 in
theorem cleft_any (W0 : World) (g q : Nat) (p s : Int) (l : List (Int × Int)) (o : Int) (h : ChAt W0 g q p s l o) (ok : ChOk p s l o) :
    Calls Try.prog 20 #[.pointer (some ⟨g, 0, none⟩)] W0 fun e w' => e = .returned (.int .i64 (leftF s l o)) ∧ Kp W0 w' := by
  have hlen := ok.len
  rcases ok.op with rfl | ⟨k, hk, rfl, he⟩
  · have H1 := Lib.hid (copened_no W0 g q p s l h)
    go_enter Try.func20, Try.ntmps20
    go_wp2_with fail
    refine (H1.out).mono ?_
    rintro e w1 ⟨rfl, hk1⟩
    go_wp2_with fail
    go_ret
    exact ⟨rfl, hk1⟩
  · have H1 := Lib.hid (copened_yes W0 g q p s l k h (by omega) hk he)
    have hl : leftF s l (k : Int) = s - 1 - uso l k := by unfold leftF; rw [if_neg (by omega)]; simp
    rw [hl]
    have hR := ok.right
    have u0 := ok.us0 k
    have u1 := ok.us1 k
    obtain ⟨r1, r2, r3, r4, r5, r6⟩ := id ok.right
    have hk2 : (k : Int) < (l.length : Int) := by omega
    have hwr : IntKind.i64.wrap (s - 1 - uso l k) = s - 1 - uso l k := IntWalk.i64_in _ (by omega)
    go_enter Try.func20, Try.ntmps20
    go_wp2_with fail
    refine (H1.out).mono ?_
    rintro e w1 ⟨rfl, hk1⟩
    have HC := Lib.hid (fun W (k : Kp w1 W) => ((h.keep hk1).keep k).c5)
    have HE := Lib.hid (fun W (k9 : Kp w1 W) => ((h.keep hk1).keep k9).eu k hk)
    go_wp2_with fail
    have hInh := fun (x v : Value) => (⟨fun h => h _ ((Kp.refl w1).drew), fun h _ _ => h⟩ : (∀ W, (fun W => Kp w1 W) W → x = v) ↔ x = v)
    dsimp only at hInh
    refine wp_region_quietC (C := fun W => Kp w1 W) (by kernel_rfl) (by kernel_rfl) ((Kp.refl w1).drew) ?_
    repeat (first | go_big_quiet_step ((intro hW; first | (go_at_call 35; refine (slotsK p s _ hR _).mono ?_; rintro e w' ⟨rfl, hk9⟩; exact ⟨rfl, hW.trans hk9⟩) | (with_reducible rfl) | (obtain ⟨c0, c1, c2, c3, c4⟩ := HC.out _ hW; obtain ⟨e0, e1⟩ := HE.out _ hW; (try go_simp); first | done | with_reducible rfl | exact ⟨rfl, rfl⟩))) | quiet_step ((intro hW; first | (go_at_call 35; refine (slotsK p s _ hR _).mono ?_; rintro e w' ⟨rfl, hk9⟩; exact ⟨rfl, hW.trans hk9⟩) | (with_reducible rfl) | (obtain ⟨c0, c1, c2, c3, c4⟩ := HC.out _ hW; obtain ⟨e0, e1⟩ := HE.out _ hW; (try go_simp); first | done | with_reducible rfl | exact ⟨rfl, rfl⟩))))
    refine wpQuiet_nil ?_
    intro wq hwq
    clear hInh
    go_wp2_with fail
    go_ret
    exact ⟨rfl, hk1.trans hwq⟩
/-- What may be taken. -/
def availF (s : Int) (l : List (Int × Int)) (o : Int) : Int := leftF s l o + (s - 1) * (if (frees l l.length : Int) - 2 < 0 then 0 else (frees l l.length : Int) - 2)
theorem leftF_bd {p s : Int} {l : List (Int × Int)} {o : Int} (ok : ChOk p s l o) : 0 ≤ leftF s l o ∧ leftF s l o ≤ 9 := by
  obtain ⟨r1, r2, r3, r4, r5, r6⟩ := ok.right
  have := ok.us0 o.toNat
  have := ok.us1 o.toNat
  unfold leftF; split <;> omega
set_option maxHeartbeats 800000 in
theorem cavail_any (W0 : World) (g q : Nat) (p s : Int) (l : List (Int × Int)) (o : Int) (h : ChAt W0 g q p s l o) (ok : ChOk p s l o) :
    Calls Try.prog 21 #[.pointer (some ⟨g, 0, none⟩)] W0 fun e w' => e = .returned (.int .i64 (availF s l o)) ∧ Kp W0 w' := by
  have hlen := ok.len
  have hR := ok.right
  obtain ⟨r1, r2, r3, r4, r5, r6⟩ := id ok.right
  have hfr := frees_le l l.length
  have hlb := leftF_bd ok
  have HC := Lib.hid (fun W (k : Kp W0 W) => (h.keep k).c5)
  have HL := Lib.hid (fun W (k : Kp W0 W) => cleft_any W g q p s l o (h.keep k) ok)
  have HF := Lib.hid (fun W (k : Kp W0 W) => cfree_any W g q p s l o (h.keep k) (by omega) ok.ep0)
  have hav : availF s l o = leftF s l o + (s - 1) * (if (frees l l.length : Int) - 2 < 0 then 0 else (frees l l.length : Int) - 2) := rfl
  have HAV := Lib.hid hav
  clear hav
  generalize leftF s l o = lf at *
  generalize hn : frees l l.length = n at *
  have hw1 : IntKind.i64.wrap ((n : Int) - 2) = (n : Int) - 2 := IntWalk.i64_in _ (by omega)
  by_cases hn2 : (n : Int) - 2 < 0
  · have hm : (s - 1) * 0 = 0 := Int.mul_zero _
    have ho : availF s l o = lf := by rw [HAV.out, if_pos hn2]; omega
    rw [ho]
    have hw3 : IntKind.i64.wrap lf = lf := IntWalk.i64_in _ (by omega)
    have hd : (n : Int) < 2 := by omega
    clear hn HAV ho
    go_enter Try.func21, Try.ntmps21
    go_wp2_with fail
    have hInh := fun (x v : Value) => (⟨fun h => h _ ((Kp.refl W0).drew), fun h _ _ => h⟩ : (∀ W, (fun W => Kp W0 W) W → x = v) ↔ x = v)
    dsimp only at hInh
    refine wp_region_quietC (C := fun W => Kp W0 W) (by kernel_rfl) (by kernel_rfl) ((Kp.refl W0).drew) ?_
    repeat (first | go_big_quiet_step ((intro hW; first | (first | (go_at_call 35; refine (slotsK p s _ hR _).mono ?_; rintro e w' ⟨rfl, hk9⟩; exact ⟨rfl, hW.trans hk9⟩) | (go_at_call 20; refine (HL.out _ hW).mono ?_; rintro e w' ⟨rfl, hk9⟩; exact ⟨rfl, hW.trans hk9⟩) | (go_at_call 16; refine (HF.out _ hW).mono ?_; rintro e w' ⟨rfl, hk9⟩; exact ⟨rfl, hW.trans hk9⟩)) | (with_reducible rfl) | (obtain ⟨c0, c1, c2, c3, c4⟩ := HC.out _ hW; (try go_simp); first | done | with_reducible rfl | exact ⟨rfl, rfl⟩))) | quiet_step ((intro hW; first | (first | (go_at_call 35; refine (slotsK p s _ hR _).mono ?_; rintro e w' ⟨rfl, hk9⟩; exact ⟨rfl, hW.trans hk9⟩) | (go_at_call 20; refine (HL.out _ hW).mono ?_; rintro e w' ⟨rfl, hk9⟩; exact ⟨rfl, hW.trans hk9⟩) | (go_at_call 16; refine (HF.out _ hW).mono ?_; rintro e w' ⟨rfl, hk9⟩; exact ⟨rfl, hW.trans hk9⟩)) | (with_reducible rfl) | (obtain ⟨c0, c1, c2, c3, c4⟩ := HC.out _ hW; (try go_simp); first | done | with_reducible rfl | exact ⟨rfl, rfl⟩))))
    refine wpQuiet_nil ?_
    intro wq hwq
    clear hInh
    go_wp2_with fail
    go_ret
    exact ⟨rfl, hwq⟩
  · have hb := mul2 (a := s - 1) (b := (n : Int) - 2) (by omega) (by omega) (by omega) (by omega)
    have ho : availF s l o = lf + (s - 1) * ((n : Int) - 2) := by rw [HAV.out, if_neg hn2]
    rw [ho]
    have hw3 : IntKind.i64.wrap ((s - 1) * ((n : Int) - 2)) = (s - 1) * ((n : Int) - 2) := IntWalk.i64_in _ (by omega)
    have hw4 : IntKind.i64.wrap (lf + (s - 1) * ((n : Int) - 2)) = lf + (s - 1) * ((n : Int) - 2) := IntWalk.i64_in _ (by omega)
    have hd : ¬ ((n : Int) < 2) := by omega
    clear hn HAV ho
    go_enter Try.func21, Try.ntmps21
    go_wp2_with fail
    have hInh := fun (x v : Value) => (⟨fun h => h _ ((Kp.refl W0).drew), fun h _ _ => h⟩ : (∀ W, (fun W => Kp W0 W) W → x = v) ↔ x = v)
    dsimp only at hInh
    refine wp_region_quietC (C := fun W => Kp W0 W) (by kernel_rfl) (by kernel_rfl) ((Kp.refl W0).drew) ?_
    repeat (first | go_big_quiet_step ((intro hW; first | (first | (go_at_call 35; refine (slotsK p s _ hR _).mono ?_; rintro e w' ⟨rfl, hk9⟩; exact ⟨rfl, hW.trans hk9⟩) | (go_at_call 20; refine (HL.out _ hW).mono ?_; rintro e w' ⟨rfl, hk9⟩; exact ⟨rfl, hW.trans hk9⟩) | (go_at_call 16; refine (HF.out _ hW).mono ?_; rintro e w' ⟨rfl, hk9⟩; exact ⟨rfl, hW.trans hk9⟩)) | (with_reducible rfl) | (obtain ⟨c0, c1, c2, c3, c4⟩ := HC.out _ hW; (try go_simp); first | done | with_reducible rfl | exact ⟨rfl, rfl⟩))) | quiet_step ((intro hW; first | (first | (go_at_call 35; refine (slotsK p s _ hR _).mono ?_; rintro e w' ⟨rfl, hk9⟩; exact ⟨rfl, hW.trans hk9⟩) | (go_at_call 20; refine (HL.out _ hW).mono ?_; rintro e w' ⟨rfl, hk9⟩; exact ⟨rfl, hW.trans hk9⟩) | (go_at_call 16; refine (HF.out _ hW).mono ?_; rintro e w' ⟨rfl, hk9⟩; exact ⟨rfl, hW.trans hk9⟩)) | (with_reducible rfl) | (obtain ⟨c0, c1, c2, c3, c4⟩ := HC.out _ hW; (try go_simp); first | done | with_reducible rfl | exact ⟨rfl, rfl⟩))))
    refine wpQuiet_nil ?_
    intro wq hwq
    clear hInh
    go_wp2_with fail
    go_ret
    exact ⟨rfl, hwq⟩
end Go.Proofs.Ytbcoghfpomnkkaa
