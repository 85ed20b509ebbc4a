/- 'shaped'; FrameBack. -/
import Derived.Test.YtdolclmeflaipaaFrRoom
namespace Go.Proofs.Ytdolclmeflaipaa
open Go.RowKit
set_option linter.unusedVariables false
theorem put4 {w w1 : World} {g : Nat} {t : TypeId} {a b c d : Value} (h : Bk w1 g t [a, b, c, d]) (hK : Kp w w1) (hg : w.heap.size ≤ g) (x y z u : Value) :
    Bk ((((w1.setCell ⟨g, 0, none⟩ x).setCell ⟨g, 1, none⟩ y).setCell ⟨g, 2, none⟩ z).setCell ⟨g, 3, none⟩ u) g t [x, y, z, u] ∧ Kp w ((((w1.setCell ⟨g, 0, none⟩ x).setCell ⟨g, 1, none⟩ y).setCell ⟨g, 2, none⟩ z).setCell ⟨g, 3, none⟩ u) :=
  ⟨(((h.put 0 x).put 1 y).put 2 z).put 3 u, (((hK.set (p := ⟨g, 0, none⟩) hg x).set (p := ⟨g, 1, none⟩) hg y).set (p := ⟨g, 2, none⟩) hg z).set (p := ⟨g, 3, none⟩) hg u⟩
theorem far4 {w1 : World} {g g' : Nat} {t : TypeId} {cs : List Value} (h : Bk w1 g' t cs) (hn : g' ≠ g) (x y z u : Value) :
    Bk ((((w1.setCell ⟨g, 0, none⟩ x).setCell ⟨g, 1, none⟩ y).setCell ⟨g, 2, none⟩ z).setCell ⟨g, 3, none⟩ u) g' t cs := (((h.far (p := ⟨g, 0, none⟩) hn x).far (p := ⟨g, 1, none⟩) hn y).far (p := ⟨g, 2, none⟩) hn z).far (p := ⟨g, 3, none⟩) hn u
def cutF (P : Int) (t : ByteArray) : ByteArray := t.extract 0 (P - 15).toNat
set_option maxRecDepth 20000 in
set_option maxHeartbeats 3200000 in
theorem shaped_any (P S N : Int) (hR : RightG P S N) (k a b : Int) (t : ByteArray) (hk : -9223372036854775808 ≤ k ∧ k ≤ 9223372036854775807) (ht : t.size ≤ 9223372036854775807) (w : World) :
    Calls Try.prog 20 #[geo P S N, frv k a b t] w fun e w' => e = .returned (frv (1 + k % 4) a b (cutF P t)) ∧ Kp w w' := by
  have hP : 32 ≤ P ∧ P ≤ 128 := by unfold RightG at hR; omega
  have HPK := Lib.hid (fun w => pick_any k 4 (by omega) (by omega) hk.1 hk.2 w)
  have HRO := Lib.hid (fun w => rroom_any P S N hR w)
  have hsh := fun w => short_any t (P - 15).toNat ht (by omega) w
  rw [show (((P - 15).toNat : Nat) : Int) = P - 15 by omega] at hsh
  have HSH := Lib.hid hsh
  clear hsh
  have hk4 : 0 ≤ k % 4 ∧ k % 4 < 4 := by omega
  have q1 : IntKind.i64.wrap (1 + k % 4) = 1 + k % 4 := IntWalk.i64_in _ (by omega)
  rw [show t.extract 0 (P - 15).toNat = cutF P t from rfl] at HSH
  generalize k % 4 = k' at *
  generalize cutF P t = t' at *
  have hG1 : Bk (((w.alloc (gob P S N)).alloc (fob (1 + k') a b t)).alloc (fob 0 0 0 ⟨#[]⟩)) w.heap.size 23 [.int .i64 P, .int .i64 S, .int .i64 N] := ((Bk.new w 23 [.int .i64 P, .int .i64 S, .int .i64 N]).alloc (fob (1 + k') a b t)).alloc (fob 0 0 0 ⟨#[]⟩)
  have hF1 : Bk (((w.alloc (gob P S N)).alloc (fob (1 + k') a b t)).alloc (fob 0 0 0 ⟨#[]⟩)) (w.heap.size + 1) 26 [.int .i64 (1 + k'), .int .u32 a, .int .u32 b, .string t] := by
    have := (Bk.new (w.alloc (gob P S N)) 26 [.int .i64 (1 + k'), .int .u32 a, .int .u32 b, .string t]).alloc (fob 0 0 0 ⟨#[]⟩)
    simpa using this
  have hO1 : Bk (((w.alloc (gob P S N)).alloc (fob (1 + k') a b t)).alloc (fob 0 0 0 ⟨#[]⟩)) (w.heap.size + 1 + 1) 26 [.int .i64 0, .int .u32 0, .int .u32 0, .string ⟨#[]⟩] := by
    have := Bk.new ((w.alloc (gob P S N)).alloc (fob (1 + k') a b t)) 26 [.int .i64 0, .int .u32 0, .int .u32 0, .string ⟨#[]⟩]
    simpa using this
  have hK1 := ((Kp.one w (gob P S N)).alloc (fob (1 + k') a b t)).alloc (fob 0 0 0 ⟨#[]⟩)
  go_enter Try.func20, Try.ntmps20
  go_wp2_with fail
  refine (HPK.out _).mono ?_
  rintro e w1 ⟨rfl, rfl⟩
  go_wp2_with fail
  generalize ((w.alloc (gob P S N)).alloc (fob (1 + k') a b t)).alloc (fob 0 0 0 ⟨#[]⟩) = w2 at *
  have HC := Lib.hid (fun W (hh : Kp w2 W) => And.intro ((hG1.keep hh).c3g) ((hF1.keep hh).cell 3))
  refine wp_region_relH (R := Kp) (C := fun W => Kp w2 W) 6 (by kernel_rfl) (by kernel_rfl) (Kp.refl w2).drew (fun _ _ h k => h.trans k) Kp.refl (fun _ _ _ h k => h.trans k) ?_
  simp only [List.take_succ_cons, List.take_zero, List.drop_succ_cons, List.drop_zero]
  repeat (refine wpRel_step (fun K hK => ?_); apply rel_eq; (case ob => (intro f W hW hd; (obtain ⟨⟨g0, g1, g2⟩, f3⟩ := HC.out _ hW); (try simp [deps, factOf, Region.binds] at hd); unfold relOp; go_simp; (first | exact ⟨Kp.refl _, rfl⟩ | exact Kp.refl _ | (refine ⟨Kp.refl _, ?_⟩; (first | (go_at_call 24; refine (HRO.out _).mono ?_; rintro e w' ⟨rfl, rfl⟩; exact ⟨rfl, Kp.one _ _⟩) | (go_at_call 23; refine (HSH.out _).mono ?_; rintro e w' ⟨rfl, rfl⟩; exact ⟨rfl, Kp.refl _⟩)))))); go_simp; refine hK _ _ ?_; clear hK K)
  refine wpRel_nil ?_
  intro f W hW hall
  have h4 : f 4 = .string t' := allF_get hall 4 _ rfl
  have h5 : f 5 = .pointer (some ⟨w.heap.size + 1, 3, none⟩) := allF_get hall 5 _ rfl
  clear hall HC
  dsimp only
  rw [h4, h5]
  have hF2 := hF1.keep hW
  have hO2 := hO1.keep hW
  have hK2 := hK1.trans hW
  clear h4 h5 hG1 hF1 hO1 hK1 hW
  obtain ⟨f0, f1, f2, f3⟩ := hF2.c4g
  have u3 := hF2.free 3
  have hne : w.heap.size + 1 + 1 ≠ w.heap.size + 1 := by omega
  have hO3 := hO2.far (p := ⟨w.heap.size + 1, 3, none⟩) hne (.string t')
  have hK3 := hK2.set (p := ⟨w.heap.size + 1, 3, none⟩) (by simp) (.string t')
  obtain ⟨y0, y1, y2, y3⟩ := hO3.c4g
  have v0 := hO3.free 0
  have v1 := hO3.free 1
  have v2 := hO3.free 2
  have v3 := hO3.free 3
  obtain ⟨hO4, hK4⟩ := put4 hO3 hK3 (by omega) (.int .i64 (1 + k')) (.int .u32 a) (.int .u32 b) (.string t')
  go_wp2_with fail
  clear hO2 hK2 hF2 hO3 hK3
  obtain ⟨z0, z1, z2, z3⟩ := hO4.c4g
  generalize (((((W.setCell ⟨w.heap.size + 1, 3, none⟩ (.string t')).setCell ⟨w.heap.size + 1 + 1, 0, none⟩ (.int .i64 (1 + k'))).setCell ⟨w.heap.size + 1 + 1, 1, none⟩ (.int .u32 a)).setCell ⟨w.heap.size + 1 + 1, 2, none⟩ (.int .u32 b)).setCell ⟨w.heap.size + 1 + 1, 3, none⟩ (.string t')) = w9 at *
  clear y0 y1 y2 y3 v0 v1 v2 v3 f0 f1 f2 f3 u3
  refine bodyPost_ret (v := frv (1 + k') a b t') (by simp [results, Try.results20, go_sem, z0, z1, z2, z3]) rfl ⟨rfl, hK4⟩
end Go.Proofs.Ytdolclmeflaipaa
