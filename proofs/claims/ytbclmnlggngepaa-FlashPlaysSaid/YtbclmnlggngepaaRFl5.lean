/- The contract of the reference's NewFlash. -/
import Derived.Test.YtbclmnlggngepaaRFl4
namespace Go.Proofs.Ytbclmnlggngepaa
open Go.RowKit
set_option linter.unusedVariables false

theorem rsizeK (p s r : Int) (h : RightG p s r) (w : World) : Calls Try.prog 14 #[geo p s r] w fun e w' => e = .returned (.int .i64 (p * s * r)) ∧ Kp w w' :=
  (rsize_any p s r h w).mono fun _ _ ⟨he, hw⟩ => ⟨he, hw ▸ Kp.one _ _⟩
def RNewPost (w : World) (p s r : Int) (image : ByteArray) (e : Ending) (w' : World) : Prop :=
  ∃ g ib ic, e = .returned (.pointer (some ⟨g, 0, none⟩)) ∧ w.heap.size ≤ g ∧ w.heap.size ≤ ib ∧ RfX w' g ib ic p s r (newD p s r image) (.slice none 0 0) ∧ Kp w w'
set_option maxRecDepth 20000 in
set_option maxHeartbeats 1600000 in
theorem rnewf (p s r : Int) (h : RightG p s r) (image : ByteArray) (hl : (image.size : Int) ≤ p * s * r) (w : World) :
    Calls Try.prog 31 #[geo p s r, .string image] w (RNewPost w p s r image) := by
  obtain ⟨m1, m2, m3, m4⟩ := mul3 h
  have HG := Lib.hid (fun (W : World) (k : Kp (w.alloc (gob p s r)) W) => (Gat.new w p s r).keep k)
  have q1 : IntKind.i64.wrap (p * s * r - (image.size : Int)) = p * s * r - (image.size : Int) := IntWalk.i64_in _ (by omega)
  have hN0 : 0 ≤ p * s * r - (image.size : Int) := by omega
  have hN1 : p * s * r - (image.size : Int) ≤ 140737488351232 := by omega
  have HIM := Lib.hid (newD_img p s r image)
  have hlen2 : (image ++ fillS 255 (p * s * r - image.size).toNat).size = (newD p s r image).img.length := by
    rw [ByteArray.size_append, fillS_size]
    unfold newD
    simp only [List.length_append, List.length_replicate, nb_len]
  have HL2 := Lib.hid hlen2
  clear hlen2
  have HSZ := Lib.hid (fun W => rsizeK p s r h W)
  have HFI := Lib.hid (fun W => fill_any 255 (p * s * r - (image.size : Int)) (by omega) hN1 W)
  have hsum : image.size + (fillS 255 (p * s * r - (image.size : Int)).toNat).size ≤ 9223372036854775807 := by rw [fillS_size]; omega
  generalize (fillS 255 (p * s * r - (image.size : Int)).toNat) = fl at *
  have HLF : Hid (image.size + fl.size = (newD p s r image).img.length) := Lib.hid (by rw [← HL2.out, ByteArray.size_append])
  clear q1 hN0 hN1
  have HIS : Hid ((image ++ fl).size = image.size + fl.size) := Lib.hid ByteArray.size_append
  have hsum2 : ¬ (9223372036854775807 < image.size + fl.size) := by omega
  go_enter Try.func31, Try.ntmps31
  go_wp2_with fail
  have q1 : IntKind.i64.wrap (p * s * r - (image.size : Int)) = p * s * r - (image.size : Int) := IntWalk.i64_in _ (by omega)
  refine wp_region_rel (R := Kp) (C := fun W' => Kp (w.alloc (gob p s r)) W') (by kernel_rfl) (by kernel_rfl) (Kp.refl _).drew (fun _ _ h k => h.trans k) Kp.refl (fun _ _ _ h k => h.trans k) ?_
  repeat (refine wpRel_step (fun K hK => ?_); apply rel_eq; (case ob => (intro f W hW hd; (obtain ⟨g0, g1, g2⟩ := HG.out _ hW); (try simp [deps, factOf, Region.binds] at hd); unfold relOp; go_simp; (first | exact ⟨Kp.refl _, rfl⟩ | exact Kp.refl _ | (refine ⟨Kp.refl _, ?_⟩; (first | (go_at_call 14; refine (HSZ.out _).mono ?_; rintro e w' ⟨rfl, hk9⟩; exact ⟨rfl, hk9⟩) | (go_at_call 16; refine (HFI.out _).mono ?_; rintro e w' ⟨rfl, hk9⟩; exact ⟨rfl, hk9⟩)))))); go_simp; refine hK _ _ ?_; clear hK K)
  refine wpRel_step (fun K hK => ?_)
  apply rel_fact (fun v W => ∃ q c, v = .slice (some ⟨q, 0, none⟩) (image ++ fl).size c ∧ By W q (sb (image ++ fl)) ∧ w.heap.size < q ∧ (image ++ fl).size ≤ c) (fun v W W' hr ⟨q, c, h1, h2, h3⟩ => ⟨q, c, h1, h2.keep hr, h3⟩)
  case ob =>
    intro f W hW hd
    (obtain ⟨W1, c, hcv, hby, hkb, hsz, hcap⟩ := bytes_of2 W (image ++ fl) 9 Try.underlying9)
    (try simp [deps, factOf, Region.binds] at hd)
    unfold relOp
    go_simp
    (have hz9 := hW.size; simp at hz9; rw [ByteArray.size_append] at hcap; exact ⟨W.heap.size, c, ⟨rfl, rfl⟩, hby, by omega, hcap⟩)
  go_simp
  refine hK _ _ ?_
  clear hK K
  refine wpRel_step (fun K hK => ?_)
  apply rel_fact (fun v W => ∃ q c, v = .agg #[.int .i64 p, .int .i64 s, .int .i64 r, .slice (some ⟨q, 0, none⟩) (image ++ fl).size c, .slice none 0 0, .bool false, .int .i64 0, .bool false] ∧ By W q (sb (image ++ fl)) ∧ w.heap.size < q ∧ (image ++ fl).size ≤ c) (fun v W W' hr ⟨q, c, h1, h2, h3⟩ => ⟨q, c, h1, h2.keep hr, h3⟩)
  case ob =>
    intro f W hW hd
    (simp [deps, factOf, Region.binds] at hd; obtain ⟨e0, q, c, e9, hby, hq1, hq2⟩ := hd)
    (try simp [deps, factOf, Region.binds] at hd)
    unfold relOp
    go_simp
    exact ⟨Kp.refl _, q, c, ⟨rfl, rfl⟩, hby, hq1, hq2⟩
  go_simp
  refine hK _ _ ?_
  clear hK K
  refine wpRel_step (fun K hK => ?_)
  apply rel_fact (fun v W => ∃ g q c, v = .pointer (some ⟨g, 0, none⟩) ∧ Bk W g 73 [.int .i64 p, .int .i64 s, .int .i64 r, .slice (some ⟨q, 0, none⟩) (image.size + fl.size) c, .slice none 0 0, .bool false, .int .i64 0, .bool false] ∧ By W q (sb (image ++ fl)) ∧ w.heap.size < q ∧ q < g ∧ image.size + fl.size ≤ c) (fun v W W' hr ⟨g, q, c, h1, h2, h3, h4⟩ => ⟨g, q, c, h1, h2.keep hr, h3.keep hr, h4⟩)
  case ob =>
    intro f W hW hd
    (simp [deps, factOf, Region.binds] at hd; obtain ⟨q, c, e10, hby, hq1, hq2⟩ := hd; have hlt := hby.lt)
    (try simp [deps, factOf, Region.binds] at hd)
    unfold relOp
    go_simp
    exact ⟨Kp.one _ _, q, c, Bk.new _ _ _, hby.alloc _, hq1, hlt, hq2⟩
  go_simp
  refine hK _ _ ?_
  clear hK K
  refine wpRel_step (fun K hK => ?_)
  apply rel_fact (fun v W => ∃ g q c, v = .pointer (some ⟨g, 0, none⟩) ∧ Bk W g 73 [.int .i64 p, .int .i64 s, .int .i64 r, .slice (some ⟨q, 0, none⟩) (image.size + fl.size) c, .slice none 0 0, .bool false, .int .i64 0, .bool false] ∧ By W q (sb (image ++ fl)) ∧ w.heap.size < q ∧ q < g ∧ image.size + fl.size ≤ c) (fun v W W' hr ⟨g, q, c, h1, h2, h3, h4⟩ => ⟨g, q, c, h1, h2.keep hr, h3.keep hr, h4⟩)
  case ob =>
    intro f W hW hd
    (simp [deps, factOf, Region.binds] at hd; obtain ⟨g, q, c, e11, hbk, hby, hq1, hq2⟩ := hd)
    (try simp [deps, factOf, Region.binds] at hd)
    unfold relOp
    go_simp
    first | exact Kp.refl _ | exact ⟨Kp.refl _, q, c, hbk, hby, hq1, hq2⟩
  go_simp
  refine hK _ _ ?_
  clear hK K
  refine wpRel_nil ?_
  intro f W' hW hall
  obtain ⟨g, h12, q, c, hbk, hby, hq1, hq2, hq3⟩ := allF_get hall 12 _ rfl
  rw [Nat.zero_add] at h12
  clear hall
  dsimp only
  rw [h12]
  go_wp2_with fail
  refine bodyPost_ret (v := .pointer (some ⟨g, 0, none⟩)) (by simp [results, Try.results31, go_sem]) rfl ?_
  rw [HLF.out] at hbk hq3
  refine ⟨g, q, c, rfl, by omega, by omega, ⟨hbk, ?_, World.ownsRow_nil _ _ _ _, by omega, hq3, ?_⟩, (Kp.one w (gob p s r)).trans hW⟩
  · rw [HIM.out]
    exact hby
  · intro k hk
    simp [Value.ownBlock] at hk
end Go.Proofs.Ytbclmnlggngepaa
