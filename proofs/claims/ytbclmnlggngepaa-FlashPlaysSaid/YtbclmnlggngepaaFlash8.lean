/- The contracts of package flash: New. -/
import Derived.Test.YtbclmnlggngepaaFlash7
import Derived.Test.YtbclmnlggngepaaBlank
namespace Go.Proofs.Ytbclmnlggngepaa
open Go.RowKit
set_option linter.unusedVariables false

theorem frightY (p s r : Int) (h : RightG p s r) (w : World) : Calls Try.prog 34 #[geo p s r] w fun e w' => e = .returned (.bool true) ∧ Kp w w' :=
  (right_yes p s r h w).mono fun e w' ⟨h1, h2⟩ => ⟨h1, h2 ▸ Kp.one _ _⟩
theorem frightN (p s r : Int) (h : ¬ RightG p s r) (w : World) : Calls Try.prog 34 #[geo p s r] w fun e w' => e = .returned (.bool false) ∧ Kp w w' :=
  (right_no p s r h w).mono fun e w' ⟨h1, h2⟩ => ⟨h1, h2 ▸ Kp.one _ _⟩
theorem fbytesK (p s r : Int) (h : RightG p s r) (w : World) : Calls Try.prog 35 #[geo p s r] w fun e w' => e = .returned (.int .i64 (p * s * r)) ∧ Kp w w' :=
  (bytes_yes p s r h w).mono fun e w' ⟨h1, h2⟩ => ⟨h1, h2 ▸ (Kp.one _ _).alloc _⟩
def newD (p s r : Int) (image : ByteArray) : Dev := ⟨nb image ++ List.replicate (p * s * r - image.size).toNat 255, [], false, false, 0⟩
theorem newD_img (p s r : Int) (image : ByteArray) : ints (newD p s r image).img = sb (image ++ fillS 255 (p * s * r - image.size).toNat) := by
  rw [sb_nb, nb_append, nb_fillS]
  rfl
theorem newD_ok {p s r : Int} (h : RightG p s r) (image : ByteArray) (hl : (image.size : Int) ≤ p * s * r) : DevOk p s r (newD p s r image) := by
  refine ⟨h, ?_, ?_, ?_, ?_, ?_⟩
  · unfold newD
    simp only [List.length_append, List.length_replicate, nb_len]
    omega
  · intro n hn
    unfold newD at hn
    simp only [List.mem_append, List.mem_replicate] at hn
    rcases hn with hn | ⟨-, rfl⟩
    · exact nb_lt _ n hn
    · omega
  · intro x hx
    exact absurd hx (by simp [newD])
  · intro hx
    simp [newD] at hx
  · simp [newD]
theorem bytes_of2 (W : World) (s : ByteArray) (src : TypeId) {u : TypeDesc} (hs : Try.prog.underlying src = some u) :
    ∃ W' c, (convert src 53 (.string s)).run Try.prog W = .ok (.slice (some ⟨W.heap.size, 0, none⟩) s.size c) W' ∧ By W' W.heap.size (sb s) ∧ Kp W W' ∧ W'.heap.size = W.heap.size + 1 ∧ s.size ≤ c := by
  obtain ⟨W', c, h1, h2, h3, h4⟩ := bytes_of W s src hs
  refine ⟨W', c, h1, h2, h3, h4, ?_⟩
  have h5 := Lib.run_convert_string_bytes (P := Try.prog) W src 53 5 s hs Try.underlying53 Try.underlying5
  rw [h1] at h5
  injection h5 with h6 h7
  injection h6 with h8 h9 h10
  rw [h10]
  exact grownCap_ge W s.size 0 5
def NewPost (w : World) (p s r : Int) (image : ByteArray) (e : Ending) (w' : World) : Prop :=
  ∃ g ib ic, e = .returned (.tuple #[.pointer (some ⟨g, 0, none⟩), .int .i64 0]) ∧ w.heap.size ≤ g ∧ w.heap.size ≤ ib ∧ FlAt w' g ib ic p s r (newD p s r image) (.slice none 0 0) ∧ Kp w w'
set_option maxRecDepth 20000 in
set_option maxHeartbeats 1600000 in
theorem fnew_yes (p s r : Int) (h : RightG p s r) (image : ByteArray) (hl : (image.size : Int) ≤ p * s * r) (w : World) :
    Calls Try.prog 11 #[geo p s r, .string image] w (NewPost w p s r image) := by
  obtain ⟨m1, m2, m3, m4⟩ := mul3 h
  have HG := Lib.hid (fun (W : World) (k : Kp (w.alloc (gob p s r)) W) => (Gat.new w p s r).keep k)
  have q1 : IntKind.i64.wrap (p * s * r - (image.size : Int)) = p * s * r - (image.size : Int) := IntWalk.i64_in _ (by omega)
  have hN0 : 0 ≤ p * s * r - (image.size : Int) := by omega
  have hN1 : p * s * r - (image.size : Int) ≤ 140737488351232 := by omega
  have HL := Lib.hid hl
  have HIM := Lib.hid (newD_img p s r image)
  have hlen2 : (image ++ fillS 255 (p * s * r - image.size).toNat).size = (newD p s r image).img.length := by
    rw [ByteArray.size_append, fillS_size]
    unfold newD
    simp only [List.length_append, List.length_replicate, nb_len]
  have HL2 := Lib.hid hlen2
  clear hlen2
  have hd0 : decide (p * s * r < (image.size : Int)) = false := by simp; omega
  go_enter Try.func11, Try.ntmps11
  go_wp2_with fail
  refine (frightY p s r h _).mono ?_
  rintro e w1 ⟨rfl, hk1⟩
  obtain ⟨g0, g1, g2⟩ := HG.out _ hk1
  go_wp2_with fail
  refine (fbytesK p s r h _).mono ?_
  rintro e w2 ⟨rfl, hk2⟩
  clear g0 g1 g2
  obtain ⟨g0, g1, g2⟩ := HG.out _ (hk1.trans hk2)
  go_wp2_with fail
  refine (fbytesK p s r h _).mono ?_
  rintro e w3 ⟨rfl, hk3⟩
  go_wp2_with fail
  refine (repK _ hN0 hN1 _).mono ?_
  rintro e w4 ⟨rfl, hk4⟩
  have hsum : image.size + (fillS 255 (p * s * r - (image.size : Int)).toNat).size ≤ 9223372036854775807 := by rw [fillS_size]; omega
  generalize (fillS 255 (p * s * r - (image.size : Int)).toNat) = fl at *
  obtain ⟨W1, c, hcv, hby, hkb, hsz, hcap⟩ := bytes_of2 w4 (image ++ fl) 9 Try.underlying9
  have hK5 := (((hk1.trans hk2).trans hk3).trans hk4).trans hkb
  clear g0 g1 g2
  obtain ⟨g0, g1, g2⟩ := HG.out _ hK5
  have hKw := (Kp.one w (gob p s r)).trans hK5
  have hk45 := (((Kp.one w (gob p s r)).trans hk1).trans (hk2.trans (hk3.trans hk4)))
  have HBY := Lib.hid hby
  have HCP := Lib.hid hcap
  clear hcap
  clear hby q1 hN0 hN1
  go_wp2_with fail
  refine bodyPost_ret (v := .tuple #[.pointer (some ⟨w4.heap.size + 1, 0, none⟩), .int .i64 0]) (by simp [results, Try.results11, go_sem]) rfl ?_
  have hll : image.size + fl.size = (newD p s r image).img.length := by rw [← HL2.out, ByteArray.size_append]
  rw [hll]
  have hNB := Bk.new W1 65 [.int .i64 p, .int .i64 s, .int .i64 r, .slice (some ⟨w4.heap.size, 0, none⟩) (newD p s r image).img.length c, .slice none 0 0, .bool false, .bool false, .int .i64 0]
  rw [hsz] at hNB
  have hw4 := hk45.size
  refine ⟨w4.heap.size + 1, w4.heap.size, c, rfl, by omega, by omega, ⟨hNB, ?_, World.ownsRow_nil _ _ _ _, by omega, ?_, ?_⟩, hKw.alloc _⟩
  · rw [HIM.out]
    exact HBY.out.keep (Kp.one _ _)
  · rw [← HL2.out]
    exact HCP.out
  · intro k hk
    simp [Value.ownBlock] at hk
set_option maxHeartbeats 800000 in
theorem fnew_no (p s r : Int) (image : ByteArray) (h : ¬ RightG p s r ∨ (RightG p s r ∧ p * s * r < (image.size : Int))) (his : image.size ≤ 9223372036854775807) (w : World) :
    Calls Try.prog 11 #[geo p s r, .string image] w fun e w' => e = .returned (.tuple #[.pointer none, .int .i64 1]) ∧ Kp w w' := by
  have HG := Lib.hid (fun (W : World) (k : Kp (w.alloc (gob p s r)) W) => (Gat.new w p s r).keep k)
  rcases h with h | ⟨h, h2⟩
  · go_enter Try.func11, Try.ntmps11
    go_wp2_with fail
    refine (frightN p s r h _).mono ?_
    rintro e w1 ⟨rfl, hk1⟩
    go_wp2_with fail
    refine bodyPost_ret (v := .tuple #[.pointer none, .int .i64 1]) (by simp [results, Try.results11, go_sem]) rfl ⟨rfl, (Kp.one _ _).trans hk1⟩
  · go_enter Try.func11, Try.ntmps11
    go_wp2_with fail
    refine (frightY p s r h _).mono ?_
    rintro e w1 ⟨rfl, hk1⟩
    obtain ⟨g0, g1, g2⟩ := HG.out _ hk1
    go_wp2_with fail
    refine (fbytesK p s r h _).mono ?_
    rintro e w2 ⟨rfl, hk2⟩
    go_wp2_with fail
    refine bodyPost_ret (v := .tuple #[.pointer none, .int .i64 1]) (by simp [results, Try.results11, go_sem]) rfl ⟨rfl, ((Kp.one _ _).trans hk1).trans hk2⟩
end Go.Proofs.Ytbclmnlggngepaa
