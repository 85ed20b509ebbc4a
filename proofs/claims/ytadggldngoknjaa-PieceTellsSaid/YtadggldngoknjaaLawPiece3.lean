/- 'shaped': some frame. -/
import Derived.Test.YtadggldngoknjaaLawPiece2
import Derived.Test.YtadggldngoknjaaFill
namespace Go.Proofs.Ytadggldngoknjaa
open Go.RowKit
set_option linter.unusedVariables false

def SomeFrame (w : World) (e : Ending) (w' : World) : Prop := ∃ (k a b : Int) (s : ByteArray), s.size ≤ 9223372036854775807 ∧ e = .returned (frv k a b s) ∧ Kp w w'
/-- A text's first bytes. -/
def cutS (s : ByteArray) (N : Int) : ByteArray := s.extract 0 N.toNat
theorem cutS_size (s : ByteArray) (N : Int) (h : 0 ≤ N) : ((cutS s N).size : Int) ≤ N ∧ (cutS s N).size ≤ s.size := by
  unfold cutS; simp [ByteArray.size_extract]; omega
theorem short_cut (s : ByteArray) (N : Int) (hs : s.size ≤ 9223372036854775807) (h0 : 0 ≤ N) (hn : N ≤ 9223372036854775807) (w : World) :
    Calls Try.prog 24 #[.string s, .int .i64 N] w fun e w' => e = .returned (.string (cutS s N)) ∧ w = w' := by
  have := short_any s N.toNat hs (by omega) w
  rwa [Int.toNat_of_nonneg h0] at this
theorem pick6 (n : Int) (h1 : -9223372036854775808 ≤ n) (h2 : n ≤ 9223372036854775807) (c : Int) (hc : n % 6 = c) (w : World) :
    Calls Try.prog 12 #[.int .i64 n, .int .i64 6] w fun e w' => e = .returned (.int .i64 c) ∧ w = w' := by
  subst hc; exact pick_any n 6 (by omega) (by omega) h1 h2 w
theorem put4_k (c : Int) (h0 : 0 ≤ c) (hc : c ≤ 4294967295) (w : World) :
    Calls Try.prog 8 #[.int .u32 c] w fun e w' => e = .returned (.string (put c.toNat)) ∧ Kp w w' :=
  (put4_x c h0 hc w).mono fun _ _ ⟨h, k⟩ => ⟨h, k ▸ Kp.one _ _⟩

set_option maxRecDepth 20000 in
set_option maxHeartbeats 1600000 in
theorem shaped_0 (k a b : Int) (s : ByteArray) (h1 : -9223372036854775808 ≤ k) (h2 : k ≤ 9223372036854775807) (hs : s.size ≤ 140737488351232) (w : World) :
    Calls Try.prog 11 #[frv k a b s, .int .i64 0] w (SomeFrame w) := by
  go_enter Try.func11, Try.ntmps11
  go_wp2_with fail
  refine (pick6 k h1 h2 _ rfl _).mono ?_
  rintro e w1 ⟨rfl, rfl⟩
  go_wp2_with fail
  refine bodyPost_ret (v := frv (k % 6) a b s) (by simp [results, Try.results11, go_sem]) rfl ⟨_, _, _, _, by omega, rfl, ?_⟩
  (repeat (first | with_reducible exact Kp.refl _ | with_reducible assumption | with_reducible refine Kp.alloc ?_ _ | with_reducible refine Kp.drew ?_ | with_reducible refine Kp.drewN ?_ _ | exact Kp.refl _ | assumption | refine Kp.alloc ?_ _ | refine Kp.drew ?_ | refine Kp.drewN ?_ _ | refine Kp.trans ?_ (by assumption)))

theorem box_two (w : World) (l l' m : List Value) (t t' t'' : TypeId) : Bk (((w.alloc (.cells l.toArray t)).alloc (.cells l'.toArray t')).alloc (.cells m.toArray t'')) w.heap.size t l ∧
    Bk (((w.alloc (.cells l.toArray t)).alloc (.cells l'.toArray t')).alloc (.cells m.toArray t'')) (w.heap.size + 1) t' l' :=
  ⟨((Bk.new w t l).alloc _).alloc _, (Bk.at _ t' l' _ (World.size_alloc _ _)).alloc _⟩
theorem store4 {w wc : World} {g : Nat} (hK : Kp w wc) (hg : w.heap.size ≤ g) (a b c d : Value) :
    Kp w ((((wc.setCell ⟨g, 0, none⟩ a).setCell ⟨g, 1, none⟩ b).setCell ⟨g, 2, none⟩ c).setCell ⟨g, 3, none⟩ d) :=
  Kp.set (Kp.set (Kp.set (Kp.set hK hg _) hg _) hg _) hg _
end Go.Proofs.Ytadggldngoknjaa
