/- The contracts of the reference's device: done, Flush. -/
import Derived.Test.YtbclmnlggngepaaRFl2
namespace Go.Proofs.Ytbclmnlggngepaa
open Go.RowKit
set_option linter.unusedVariables false

theorem nb_ext0 (b : ByteArray) (k : Nat) : nb (b.extract 0 k) = (nb b).take k := by
  unfold nb
  rw [ByteArray.data_extract]
  simp [Array.toList_extract, List.extract, List.map_take]
theorem splice_snoc (img : List Nat) (o : Nat) (bs : List Nat) (x : Nat) (h : o + bs.length < img.length) : spliceN img o (bs ++ [x]) = (spliceN img o bs).set (o + bs.length) x := by
  unfold spliceN
  rw [List.set_append_right _ _ (by simp only [List.length_append, List.length_take]; omega)]
  have e1 : o + bs.length - (img.take o ++ bs).length = 0 := by simp only [List.length_append, List.length_take]; omega
  rw [e1, List.drop_eq_getElem_cons h]
  simp [List.append_assoc, Nat.add_assoc]
theorem doD_step (p : Int) (img : List Nat) (page : Int) (b : ByteArray) (k : Nat) (hk : k < b.size) (h : (page * p).toNat + k < img.length) :
    doD p img page (b.extract 0 (k + 1)) = (doD p img page (b.extract 0 k)).set ((page * p).toNat + k) b[k].toNat := by
  unfold doD
  rw [nb_ext0, nb_ext0, nb_take b k hk]
  have hl : ((nb b).take k).length = k := by rw [List.length_take, nb_len]; omega
  have := splice_snoc img (page * p).toNat ((nb b).take k) b[k].toNat (by rw [hl]; exact h)
  rw [hl] at this
  exact this
theorem doD_zero (p : Int) (img : List Nat) (page : Int) (b : ByteArray) : doD p img page (b.extract 0 0) = img := by
  unfold doD
  rw [nb_ext0, List.take_zero]
  simp [spliceN]
theorem doD_ext_len {p s r : Int} {img : List Nat} {page : Int} {b : ByteArray} (hR : RightG p s r) (hl : (img.length : Int) = p * s * r) (h0 : 0 ≤ page) (h1 : page < s * r) (k : Nat) (hk : (k : Int) ≤ p) : (doD p img page (b.extract 0 k)).length = img.length := by
  obtain ⟨b1, b2, b3, b4, b5⟩ := page_bd hR h0 h1
  refine spliceN_len _ _ _ ?_
  rw [nb_ext0, List.length_take]
  omega
section
variable {W : World} {g ib ic : Nat} {p s r : Int} {d : Dev} {v : Value}
set_option maxRecDepth 20000 in
set_option maxHeartbeats 1600000 in
theorem rdone (h : RfX W g ib ic p s r d v) (hR : RightG p s r) (hlen : (d.img.length : Int) = p * s * r) (page : Int) (h0 : 0 ≤ page) (h1 : page < s * r) (b : ByteArray) (n : Nat) (hn : n ≤ b.size) (hp : (n : Int) ≤ p) (hbs : b.size ≤ 9223372036854775807) :
    Calls Try.prog 57 #[.pointer (some ⟨g, 0, none⟩), .agg #[.int .i64 page, .string b], .int .i64 (n : Int)] W fun e w' => e = .returned (.tuple #[]) ∧ RfX w' g ib ic p s r { d with img := doD p d.img page (b.extract 0 n) } v ∧ FlMv W w' g ib v v := by
  obtain ⟨b1, b2, b3, b4, b5⟩ := page_bd hR h0 h1
  obtain ⟨r1, r2, r3, r4, r5, r6⟩ := id hR
  have hB := Bk.new W 86 [.int .i64 page, .string b]
  have h9 := h.keep (Kp.one W (.cells [.int .i64 page, .string b].toArray 86))
  have hM9 := FlMv.of (v := v) (g := g) (ib := ib) (Kp.one W (.cells [.int .i64 page, .string b].toArray 86))
  have hfl := h.foot_lt
  have hqi : W.heap.size ≠ ib := by have := hfl ib (by simp [foot]); omega
  have q1 : IntKind.i64.wrap (page * p) = page * p := IntWalk.i64_in _ (by omega)
  clear b3
  go_enter Try.func57, Try.ntmps57
  go_wp2_with fail
  go_loopw [6] (fun i wr => ∃ k : Nat, k ≤ n ∧ i = .int .i64 k ∧ RfX wr g ib ic p s r { d with img := doD p d.img page (b.extract 0 k) } v ∧ FlMv W wr g ib v v ∧ Bk wr W.heap.size 86 [.int .i64 page, .string b]) (fun i _ => n - (intOf i).toNat)
  case atStart => exact ⟨0, by omega, rfl, by rw [doD_zero]; exact h9, hM9, hB⟩
  case round =>
    obtain ⟨k, hk, rfl, hfr, hMr, hBr⟩ := hrel
    clear h9 hM9 hB h
    by_cases hlt : k < n
    · have hkb : k < b.size := by omega
      have hkb2 : (k : Int) < (b.size : Int) := by omega
      have hlt2 : (k : Int) < (n : Int) := by omega
      have hst := doD_step p d.img page b k hkb (by omega)
      have HST := Lib.hid hst
      have hll := doD_ext_len (b := b) hR hlen h0 h1 k (by omega)
      have hcap := hfr.capok
      dsimp only at hcap
      have HC := Lib.hid (fun W' (k' : Kp wr W') => (hfr.keep k').c8)
      have HB := Lib.hid (fun W' (k' : Kp wr W') => And.intro ((hBr.keep k').cell 0) ((hBr.keep k').cell 1))
      have HBY := Lib.hid (fun W' (k' : Kp wr W') => (hfr.keep k').byte ((page * p).toNat + k) (by dsimp only; omega))
      have HSET := Lib.hid (fun W' (k' : Kp wr W') => (hfr.keep k').setImg1 ((page * p).toNat + k) b[k].toNat (by dsimp only; omega))
      have HBK := Lib.hid (fun W' (k' : Kp wr W') => (hBr.keep k').far (p := ⟨ib, (page * p).toNat + k, none⟩) hqi (.int .u8 (b[k].toNat : Nat)))
      have q2 : IntKind.i64.wrap (page * p + (k : Int)) = page * p + (k : Int) := IntWalk.i64_in _ (by omega)
      have z1 : 0 ≤ page * p + (k : Int) := by omega
      have z2 : page * p + (k : Int) < p * s * r := by omega
      have z3 : (page * p + (k : Int)).toNat = (page * p).toNat + k := by omega
      clear hst hcap
      go_wp2_with fail
      refine wp_region_relH (R := Kp) (C := fun W' => Kp wr W') 19 (by kernel_rfl) (by kernel_rfl) (Kp.refl wr).drew (fun _ _ h k => h.trans k) Kp.refl (fun _ _ _ h k => h.trans k) ?_
      simp only [List.take_succ_cons, List.take_zero, List.drop_succ_cons, List.drop_zero]
      repeat (refine wpRel_step (fun K hK => ?_); apply rel_eq; (case ob => (intro f W hW hd; (obtain ⟨c0, c1, c2, c3, c4, c5, c6, c7⟩ := HC.out _ hW; obtain ⟨y1, y2⟩ := HB.out _ hW); (try simp [deps, factOf, Region.binds] at hd); unfold relOp; go_simp; (first | exact ⟨Kp.refl _, rfl⟩ | exact Kp.refl _ | (refine ⟨Kp.refl _, ?_⟩; fail)))); go_simp; refine hK _ _ ?_; clear hK K)
      refine wpRel_nil ?_
      intro f W' hW hall
      have h17 : f 17 = .int .u8 (b[k].toNat : Nat) := allF_get hall 17 _ rfl
      have h18 : f 18 = .pointer (some ⟨ib, (page * p).toNat + k, none⟩) := allF_get hall 18 _ rfl
      clear hall HC HB
      dsimp only
      rw [h17, h18]
      obtain ⟨y1, y2⟩ := HBY.out _ hW
      have hres := HSET.out _ hW
      have hbk := HBK.out _ hW
      rw [← HST.out] at hres
      have hM5 : FlMv W (W'.setCell ⟨ib, (page * p).toNat + k, none⟩ (.int .u8 (b[k].toNat : Nat))) g ib v v := ⟨(hMr.1.trans (Mv.of hW)).set (by simp [foot]) _, fun x hx => Or.inl hx⟩
      have HR5 := Lib.hid hres
      have HB5 := Lib.hid hbk
      have HM5 := Lib.hid hM5
      clear hres hbk hM5 HSET HBK HBY HST h17 h18
      go_wp2_with fail
      go_roundw
      case rel => exact ⟨k + 1, by omega, by go_num, HR5.out, HM5.out, HB5.out⟩
      case measure => simp [intOf]; omega
    · obtain rfl : k = n := by omega
      go_wp2_with fail
      exact bodyPost_end (v := .tuple #[]) (by simp [results, Try.results57]) rfl ⟨rfl, hfr, hMr⟩
/-- All of a page. -/
theorem rdoneA (h : RfX W g ib ic p s r d v) (hR : RightG p s r) (hlen : (d.img.length : Int) = p * s * r) (page : Int) (h0 : 0 ≤ page) (h1 : page < s * r) (b : ByteArray) (hb : (b.size : Int) = p) :
    Calls Try.prog 57 #[.pointer (some ⟨g, 0, none⟩), .agg #[.int .i64 page, .string b], .int .i64 p] W fun e w' => e = .returned (.tuple #[]) ∧ RfX w' g ib ic p s r { d with img := doD p d.img page b } v ∧ FlMv W w' g ib v v := by
  have := rdone h hR hlen page h0 h1 b b.size (Nat.le_refl _) (by omega) (by obtain ⟨r1, r2, r3, r4, r5, r6⟩ := id hR; omega)
  rw [hb, extract_all] at this
  exact this
def rflushD (p : Int) (d : Dev) : Dev × Int :=
  if d.down = true then (d, 6) else if (rcountD d).2 = true then ((rcountD d).1, 6) else ({ (rcountD d).1 with img := doAll p (rcountD d).1.img (rcountD d).1.row, row := [] }, 0)
def RfPost (W : World) (g ib ic : Nat) (p s r : Int) (v : Value) (dc : Dev × Int) (e : Ending) (w' : World) : Prop := e = .returned (.int .i64 dc.2) ∧ ∃ v', RfX w' g ib ic p s r dc.1 v' ∧ FlMv W w' g ib v v'
set_option maxRecDepth 20000 in
set_option maxHeartbeats 1600000 in
theorem rflush (h : RfX W g ib ic p s r d v) (ok : DevOk p s r d) :
    Calls Try.prog 43 #[.pointer (some ⟨g, 0, none⟩)] W (RfPost W g ib ic p s r v (rflushD p d)) := by
  have HCN := Lib.hid (rcount h ok.left)
  have hrl := ok.rl
  obtain ⟨si, sr⟩ := rcountD_same d
  obtain ⟨c0, c1, c2, c3, c4, c5, c6, c7⟩ := h.c8
  rcases hdn : d.down with _ | _
  · rw [hdn] at c7
    have e1 : rflushD p d = if (rcountD d).2 = true then ((rcountD d).1, 6) else ({ (rcountD d).1 with img := doAll p (rcountD d).1.img (rcountD d).1.row, row := [] }, 0) := by unfold rflushD; rw [if_neg (by rw [hdn]; simp)]
    rw [e1]
    clear e1 hdn
    unfold RCountPost at HCN
    generalize rcountD d = cd at *
    obtain ⟨c, cb⟩ := cd
    have hrows := ok.rows
    have hlen := ok.len
    dsimp only at si sr HCN ⊢
    rw [← sr] at hrows hrl
    rw [← si] at hlen
    have hR := ok.right
    clear si sr ok
    rcases cb with _ | _
    · rw [if_neg (by simp)]
      have HLN := Lib.hid hlen
      have HRS := Lib.hid hrows
      clear hlen hrows
      go_enter Try.func43, Try.ntmps43
      go_wp2_with fail
      refine (HCN.out).mono ?_
      rintro e w2 ⟨rfl, hf2, hm2⟩
      clear c0 c1 c2 c3 c4 c5 c6 c7
      obtain ⟨c0, c1, c2, c3, c4, c5, c6, c7⟩ := hf2.c8
      obtain ⟨A, cc, hv, -⟩ := hf2.rows
      have HV := Lib.hid hv
      rw [hv] at c4
      clear hv
      clear HCN h
      go_wp2_with fail
      go_loopw [3] (fun i wr => ∃ k : Nat, k ≤ c.row.length ∧ i = .int .i64 k ∧ RfX wr g ib ic p s r { c with img := doAll p c.img (c.row.take k) } v ∧ FlMv W wr g ib v v) (fun i _ => c.row.length - (intOf i).toNat)
      case atStart => exact ⟨0, by omega, rfl, by rw [List.take_zero]; exact hf2, hm2⟩
      case round =>
        obtain ⟨k, hk, rfl, hfr, hMr⟩ := hrel
        clear hf2 hm2 c0 c1 c2 c3 c4 c5 c6 c7
        obtain ⟨c0, c1, c2, c3, c4, c5, c6, c7⟩ := hfr.c8
        rw [HV.out] at c4
        by_cases hlt : k < c.row.length
        · obtain ⟨A', cc', hv', hrw⟩ := hfr.rows
          have hAA : A' = A := by rw [HV.out] at hv'; injection hv' with e1; exact e1.symm
          subst hAA
          obtain ⟨q, hq, e1, e2⟩ := hrw k hlt
          have hmem := HRS.out c.row[k] (List.getElem_mem hlt)
          have hl2 : ((doAll p c.img (c.row.take k)).length : Int) = p * s * r := by
            rw [doAll_len hR _ _ HLN.out (fun x hx => HRS.out x (List.mem_of_mem_take hx))]
            exact HLN.out
          subst hq
          clear hv' hrw
          have HE := Lib.hid (fun W' (kk : Kp wr W') => (And.intro (kk.cell e1) (kk.cell e2)))
          have HCR := Lib.hid (fun W' (kk : Kp wr W') => (hfr.keep kk).c8)
          have HDO := Lib.hid (fun W' (kk : Kp wr W') => rdoneA (hfr.keep kk) hR hl2 c.row[k].1 hmem.1 hmem.2.1 c.row[k].2 hmem.2.2)
          have HMQ := Lib.hid (fun W' (kk : Kp wr W') => hMr.trans (FlMv.of (v := v) (g := g) (ib := ib) kk))
          have HST := Lib.hid (doAll_take p c.img c.row k hlt)
          clear hl2
          have hkl : (k : Int) < (c.row.length : Int) := by omega
          clear hmem
          generalize hx1 : c.row[k].1 = pg at *
          generalize hx2 : c.row[k].2 = bb at *
          clear c0 c1 c2 c3 c5 c6 c7 e1 e2
          go_wp2_with fail
          refine wp_region_relH (R := Kp) (C := fun W' => Kp wr W') 13 (by kernel_rfl) (by kernel_rfl) (Kp.refl wr).drew (fun _ _ h k => h.trans k) Kp.refl (fun _ _ _ h k => h.trans k) ?_
          simp only [List.take_succ_cons, List.take_zero, List.drop_succ_cons, List.drop_zero]
          repeat (refine wpRel_step (fun K hK => ?_); apply rel_eq; (case ob => (intro f W hW hd; (obtain ⟨c0, c1, c2, c3, c4, c5, c6, c7⟩ := HCR.out _ hW; rw [HV.out] at c4; obtain ⟨e1, e2⟩ := HE.out _ hW); (try simp [deps, factOf, Region.binds] at hd); unfold relOp; go_simp; (first | exact ⟨Kp.refl _, rfl⟩ | exact Kp.refl _ | (refine ⟨Kp.refl _, ?_⟩; fail)))); go_simp; refine hK _ _ ?_; clear hK K)
          refine wpRel_nil ?_
          intro f W' hW hall
          have h0 : f 0 = .pointer (some ⟨g, 0, none⟩) := allF_get hall 0 _ rfl
          have h7 : f 7 = .agg #[.int .i64 pg, .string bb] := allF_get hall 7 _ rfl
          have h12 : f 12 = .int .i64 p := allF_get hall 12 _ rfl
          clear hall HCR HE
          dsimp only
          rw [h0, h7, h12]
          have HD5 := Lib.hid (HDO.out _ hW)
          have HM5 := Lib.hid (HMQ.out _ hW)
          clear HDO HMQ h0 h7 h12
          go_wp2_with fail
          refine (HD5.out).mono ?_
          rintro e w5 ⟨rfl, hf5, hm5⟩
          have hM6 := HM5.out.trans hm5
          go_wp2_with fail
          go_roundw
          case rel => exact ⟨k + 1, by omega, by go_num, by rw [HST.out]; exact hf5, hM6⟩
          case measure => simp [intOf]; omega
        · have hke : k = c.row.length := by omega
          subst hke
          rw [List.take_length] at hfr
          have f4 := hfr.fr 4
          have HF := Lib.hid hfr.setNil
          go_wp2_with fail
          go_ret
          exact ⟨rfl, _, HF.out, hMr.setNil⟩
    · rw [if_pos rfl]
      clear hlen hrows
      go_enter Try.func43, Try.ntmps43
      go_wp2_with fail
      refine (HCN.out).mono ?_
      rintro e w2 ⟨rfl, hf2, hm2⟩
      go_wp2_with fail
      go_ret
      exact ⟨rfl, v, hf2, hm2⟩
  · rw [hdn] at c7
    have e1 : rflushD p d = (d, 6) := by unfold rflushD; rw [if_pos hdn]
    rw [e1]
    clear e1 hdn HCN
    go_enter Try.func43, Try.ntmps43
    go_wp2_with fail
    go_ret
    exact ⟨rfl, v, h, FlMv.refl _ _ _ _⟩
end
end Go.Proofs.Ytbclmnlggngepaa
