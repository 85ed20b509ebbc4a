/- The walk of CrcAdds. -/
import Derived.Test.YtinkookmjnflhaaLawCrc
import Derived.Test.YtinkookmjnflhaaBytes
import Derived.Test.YtinkookmjnflhaaRel
namespace Go.Proofs.Ytinkookmjnflhaa
open Go.RowKit
set_option linter.unusedVariables false

/-- Byte by byte. -/
def x3 (a b c : ByteArray) (i : Nat) : Nat := byteAt a i ^^^ byteAt b i ^^^ byteAt c i
def xrow (a b c : ByteArray) (n k : Nat) : List Int := (List.range n).map fun i => if i < k then (x3 a b c i : Int) else 0
theorem xrow_len (a b c : ByteArray) (n k : Nat) : (xrow a b c n k).length = n := by simp [xrow]
theorem xrow_zero (a b c : ByteArray) (n : Nat) : xrow a b c n 0 = List.replicate n 0 := by
  apply List.ext_getElem
  · simp [xrow]
  · intro i h1 h2; simp [xrow]
theorem xrow_step (a b c : ByteArray) (n k : Nat) (h : k < n) : (xrow a b c n k).set k (x3 a b c k : Int) = xrow a b c n (k + 1) := by
  apply List.ext_getElem
  · simp [xrow]
  · intro i h1 h2
    simp only [xrow, List.getElem_set, List.getElem_map, List.getElem_range]
    by_cases e : k = i
    · subst e; simp
    · rw [if_neg e]
      by_cases e2 : i < k
      · rw [if_pos e2, if_pos (by omega)]
      · rw [if_neg e2, if_neg (by omega)]
theorem x3_lt (a b c : ByteArray) (i : Nat) : x3 a b c i < 256 :=
  Nat.xor_lt_two_pow (n := 8) (Nat.xor_lt_two_pow (n := 8) (byteAt_lt _ _) (byteAt_lt _ _)) (byteAt_lt _ _)
theorem xor3_u8 (a b c : ByteArray) (i : Nat) (ha : i < a.size) (hb : i < b.size) (hc : i < c.size) :
    bits .xor .u8 (bits .xor .u8 (a[i].toNat : Int) (b[i].toNat : Int)) (c[i].toNat : Int) = (x3 a b c i : Int) := by
  rw [u8_xor_nat _ _ a[i].toNat_lt b[i].toNat_lt, u8_xor_nat _ _ (Nat.xor_lt_two_pow (n := 8) a[i].toNat_lt b[i].toNat_lt) c[i].toNat_lt]
  unfold x3
  rw [byteAt_get a i ha, byteAt_get b i hb, byteAt_get c i hc]

/-- The least of the three lengths, as the walk meets it. -/
def Least (a b c : ByteArray) (n : Nat) : Prop :=
  (a.size = n ∧ n ≤ b.size ∧ n ≤ c.size) ∨ (b.size = n ∧ n < a.size ∧ n ≤ c.size) ∨ (c.size = n ∧ n < a.size ∧ n < b.size)
theorem least (a b c : ByteArray) : ∃ n, Least a b c n := by
  by_cases h1 : b.size < a.size
  · by_cases h2 : c.size < b.size
    · exact ⟨c.size, .inr (.inr ⟨rfl, by omega, by omega⟩)⟩
    · exact ⟨b.size, .inr (.inl ⟨rfl, by omega, by omega⟩)⟩
  · by_cases h2 : c.size < a.size
    · exact ⟨c.size, .inr (.inr ⟨rfl, by omega, by omega⟩)⟩
    · exact ⟨a.size, .inl ⟨rfl, by omega, by omega⟩⟩
theorem Least.le {a b c : ByteArray} {n : Nat} (h : Least a b c n) : n ≤ a.size ∧ n ≤ b.size ∧ n ≤ c.size := by
  rcases h with h | h | h <;> omega

/-! plain -/
theorem nb_cut (s : ByteArray) (k : Nat) : nb (s.extract 0 k) = (nb s).take k := by
  unfold nb
  rw [ByteArray.data_extract]
  simp [Array.toList_extract, List.extract, List.map_take]
theorem cut_get (s : ByteArray) (k i : Nat) (h : i < (nb (s.extract 0 k)).length) : (nb (s.extract 0 k))[i] = byteAt s i := by
  have h2 : i < ((nb s).take k).length := by rw [← nb_cut]; exact h
  have e : (nb (s.extract 0 k))[i] = ((nb s).take k)[i] := by congr 1; exact nb_cut s k
  rw [e, List.getElem_take]
  unfold byteAt
  rw [List.getD_eq_getElem?_getD, List.getElem?_eq_getElem (by rw [List.length_take] at h2; omega)]
  rfl
theorem xrow_str (a b c : ByteArray) (n : Nat) : strOfNums (xrow a b c n n) = strN ((List.range n).map (x3 a b c)) := by
  unfold strN
  congr 1
  rw [List.map_map]
  unfold xrow
  apply List.map_congr_left
  intro i hi
  rw [if_pos (by simpa using hi)]
  rfl
theorem adds_law (a b c : ByteArray) (n : Nat) (ha : n ≤ a.size) (hb : n ≤ b.size) (hc : n ≤ c.size) :
    crcN (strOfNums (xrow a b c n n)) = crcN (a.extract 0 n) ^^^ crcN (b.extract 0 n) ^^^ crcN (c.extract 0 n) := by
  have la : (nb (a.extract 0 n)).length = n := by rw [nb_cut, List.length_take, nb_len]; omega
  have lb : (nb (b.extract 0 n)).length = n := by rw [nb_cut, List.length_take, nb_len]; omega
  have lc : (nb (c.extract 0 n)).length = n := by rw [nb_cut, List.length_take, nb_len]; omega
  have hz : nb (strOfNums (xrow a b c n n)) = List.zipWith (· ^^^ ·) (List.zipWith (· ^^^ ·) (nb (a.extract 0 n)) (nb (b.extract 0 n))) (nb (c.extract 0 n)) := by
    rw [xrow_str, nb_strN _ (fun x hx => by obtain ⟨i, _, rfl⟩ := List.mem_map.1 hx; exact x3_lt a b c i)]
    apply List.ext_getElem
    · simp only [List.length_map, List.length_range, List.length_zipWith, la, lb, lc]; omega
    · intro i h1 h2
      simp only [List.getElem_map, List.getElem_range, List.getElem_zipWith, cut_get]
      rfl
  have hF : Crc.F ^^^ Crc.F ^^^ Crc.F = Crc.F := by decide +kernel
  have := Crc.adds n (nb (a.extract 0 n)) (nb (b.extract 0 n)) (nb (c.extract 0 n)) Crc.F Crc.F Crc.F la lb lc
  rw [hF, ← hz] at this
  unfold crcN crcOf
  show Crc.crcs Crc.F _ ^^^ Crc.F = (Crc.crcs Crc.F _ ^^^ Crc.F) ^^^ (Crc.crcs Crc.F _ ^^^ Crc.F) ^^^ (Crc.crcs Crc.F _ ^^^ Crc.F)
  rw [this]
  generalize Crc.crcs Crc.F (nb (a.extract 0 n)) = x
  generalize Crc.crcs Crc.F (nb (b.extract 0 n)) = y
  generalize Crc.crcs Crc.F (nb (c.extract 0 n)) = z
  have e : (x ^^^ Crc.F) ^^^ (y ^^^ Crc.F) ^^^ (z ^^^ Crc.F) = (x ^^^ y ^^^ z) ^^^ (Crc.F ^^^ Crc.F ^^^ Crc.F) := by ac_rfl
  rw [e, hF]
set_option maxRecDepth 20000 in
set_option maxHeartbeats 6400000 in
theorem CrcAdds_a (w : World) (a : ByteArray) (ha : a.size ≤ 140737488351232) (b : ByteArray) (hb : b.size ≤ 140737488351232) (c : ByteArray) (hc : c.size ≤ 140737488351232) (n : Nat) (hle : n ≤ a.size ∧ n ≤ b.size ∧ n ≤ c.size) (hna : a.size = n) (eb0 : n ≤ b.size) (ec0 : n ≤ c.size) :
    Calls Try.prog 7 #[.string a, .string b, .string c] w fun e w' => e = .returned (.bool true) ∧ Kp w w' := by
  have hmk := make_bytes n (by omega)
  go_enter Try.func7, Try.ntmps7
  go_wp2_with fail
  have hB := Bk.new w 5 (vb (List.replicate n 0))
  have hK := Kp.one w (.cells (vb (List.replicate n 0)).toArray 5)
  generalize hw1 : w.alloc (.cells (vb (List.replicate n 0)).toArray 5) = w1 at hB hK ⊢
  clear hw1 hna eb0 ec0 hmk
  obtain ⟨ea, eb, ec⟩ := hle
  go_loopw [9] (fun i wr => ∃ k : Nat, k ≤ n ∧ i = .int .i64 k ∧ Bk wr w.heap.size 5 (vb (xrow a b c n k)) ∧ Kp w wr) (fun i _ => n - (intOf i).toNat)
  case atStart => exact ⟨0, by omega, rfl, by rw [xrow_zero]; exact hB, hK⟩
  case round =>
    obtain ⟨k, hk, rfl, hBr, hKr⟩ := hrel
    by_cases hlt : k < n
    · have hcell := hBr.cell k
      rw [vb_get _ _ (by rw [xrow_len]; exact hlt)] at hcell
      have hfree := hBr.free k
      have ka : k < a.size := by omega
      have kb : k < b.size := by omega
      have kc : k < c.size := by omega
      clear hB hK
      go_wp2_with fail
      go_region
      all_goals
        go_wp2_with fail
        have hput := (hBr.put k (.int .u8 (x3 a b c k : Int))).drew
        rw [vb_set, xrow_step a b c n k hlt] at hput
        rw [xor3_u8 a b c k ka kb kc]
        go_roundw
        case rel => exact ⟨k + 1, by omega, by go_num, hput, (hKr.set (Nat.le_refl _) _).drew⟩
        case measure => simp [intOf]; omega
    · obtain rfl : k = n := by omega
      clear hB hK
      have law := adds_law a b c k ea eb ec
      have HBK := Lib.hid hBr
      have s0 : (strOfNums (xrow a b c k k)).size ≤ 9223372036854775807 := by rw [strOfNums_size, xrow_len]; omega
      have s1 : (a.extract 0 k).size ≤ 9223372036854775807 := by rw [ByteArray.size_extract]; omega
      have s2 : (b.extract 0 k).size ≤ 9223372036854775807 := by rw [ByteArray.size_extract]; omega
      have s3 : (c.extract 0 k).size ≤ 9223372036854775807 := by rw [ByteArray.size_extract]; omega
      have HCV := Lib.hid (fun W' (kk : Kp wr W') => conv_bk (hBr.keep kk) (xrow_len a b c k k))
      have x1 := u32_xor_nat (crcN (a.extract 0 k)) (crcN (b.extract 0 k)) (crcN_lt _) (crcN_lt _)
      have x2 := u32_xor_nat (crcN (a.extract 0 k) ^^^ crcN (b.extract 0 k)) (crcN (c.extract 0 k)) (Nat.xor_lt_two_pow (n := 32) (crcN_lt _) (crcN_lt _)) (crcN_lt _)
      have law2 : (((crcN (strOfNums (xrow a b c k k)) : Nat) : Int) == ((crcN (a.extract 0 k) ^^^ crcN (b.extract 0 k) ^^^ crcN (c.extract 0 k) : Nat) : Int)) = true := by rw [law]; simp
      have HLAW := Lib.hid law2
      have HX1 := Lib.hid x1
      have HX2 := Lib.hid x2
      clear law law2 x1 x2 hBr
      generalize hz0 : strOfNums (xrow a b c k k) = z0 at *
      clear hz0
      go_wp2_with fail
      refine wp_region_rel (R := Kp) (C := fun W' => Kp wr W') (by kernel_rfl) (by kernel_rfl) (Kp.refl wr).drew (fun _ _ h k => h.trans k) Kp.refl (fun _ _ _ h k => h.trans k) ?_
      repeat (refine wpRel_step (fun K hK => ?_); apply rel_eq; (case ob => (intro f W hW hd; (skip); (try simp [deps, factOf, Region.binds] at hd); unfold relOp; go_simp; (first | exact ⟨Kp.refl _, rfl⟩ | exact Kp.refl _ | (refine ⟨Kp.refl _, ?_⟩; (go_at_call 9; refine (alive_any _).mono ?_; rintro e w' ⟨rfl, hk9⟩; exact ⟨rfl, hk9⟩))))); go_simp; refine hK _ _ ?_; clear hK K)
      refine wpRel_step (fun K hK => ?_)
      apply rel_fact (fun v _ => v = .string z0) (fun _ _ _ _ h => h)
      case ob =>
        intro f W hW hd
        have hcv := HCV.out _ hW
        (try simp [deps, factOf, Region.binds] at hd)
        unfold relOp
        go_simp
        first | exact ⟨Kp.refl _, rfl⟩ | exact Kp.refl _
      go_simp
      refine hK _ _ ?_
      clear hK K
      refine wpRel_step (fun K hK => ?_)
      apply rel_fact (fun v W => ∃ q, v = .slice (some ⟨q, 0, none⟩) 1 1 ∧ W.cell? ⟨q, 0, none⟩ = some (.string z0)) (fun v W W' hr ⟨q, h1, h2⟩ => ⟨q, h1, hr.cell h2⟩)
      case ob =>
        intro f W hW hd
        skip
        (try simp [deps, factOf, Region.binds] at hd)
        unfold relOp
        go_simp
        first | exact ⟨Kp.one _ _, one_cell _ _ _⟩ | exact Kp.one _ _
      go_simp
      refine hK _ _ ?_
      clear hK K
      refine wpRel_step (fun K hK => ?_)
      apply rel_fact (fun v _ => v = .int .u32 (crcN z0 : Nat)) (fun _ _ _ _ h => h)
      case ob =>
        intro f W hW hd
        (simp [deps, factOf, Region.binds] at hd; first | obtain ⟨⟨q, e3, hq⟩, e1⟩ := hd | obtain ⟨⟨q, e3, hq⟩, e1, e0⟩ := hd | obtain ⟨e0, ⟨q, e3, hq⟩, e1⟩ := hd)
        (try simp [deps, factOf, Region.binds] at hd)
        unfold relOp
        go_simp
        (refine ⟨Kp.refl _, ?_⟩; refine (sum1 _ s0 _ _ hq).mono ?_; rintro e w' ⟨rfl, rfl⟩; exact ⟨rfl, Kp.refl _⟩)
      go_simp
      refine hK _ _ ?_
      clear hK K
      repeat (refine wpRel_step (fun K hK => ?_); apply rel_eq; (case ob => (intro f W hW hd; (skip); (try simp [deps, factOf, Region.binds] at hd); unfold relOp; go_simp; (first | exact ⟨Kp.refl _, rfl⟩ | exact Kp.refl _ | (refine ⟨Kp.refl _, ?_⟩; fail)))); go_simp; refine hK _ _ ?_; clear hK K)
      refine wpRel_step (fun K hK => ?_)
      apply rel_fact (fun v W => ∃ q, v = .slice (some ⟨q, 0, none⟩) 1 1 ∧ W.cell? ⟨q, 0, none⟩ = some (.string (a.extract 0 k))) (fun v W W' hr ⟨q, h1, h2⟩ => ⟨q, h1, hr.cell h2⟩)
      case ob =>
        intro f W hW hd
        skip
        (try simp [deps, factOf, Region.binds] at hd)
        unfold relOp
        go_simp
        first | exact ⟨Kp.one _ _, one_cell _ _ _⟩ | exact Kp.one _ _
      go_simp
      refine hK _ _ ?_
      clear hK K
      refine wpRel_step (fun K hK => ?_)
      apply rel_fact (fun v _ => v = .int .u32 (crcN (a.extract 0 k) : Nat)) (fun _ _ _ _ h => h)
      case ob =>
        intro f W hW hd
        (simp [deps, factOf, Region.binds] at hd; first | obtain ⟨⟨q, e3, hq⟩, e1⟩ := hd | obtain ⟨⟨q, e3, hq⟩, e1, e0⟩ := hd | obtain ⟨e0, ⟨q, e3, hq⟩, e1⟩ := hd)
        (try simp [deps, factOf, Region.binds] at hd)
        unfold relOp
        go_simp
        (refine ⟨Kp.refl _, ?_⟩; refine (sum1 _ s1 _ _ hq).mono ?_; rintro e w' ⟨rfl, rfl⟩; exact ⟨rfl, Kp.refl _⟩)
      go_simp
      refine hK _ _ ?_
      clear hK K
      repeat (refine wpRel_step (fun K hK => ?_); apply rel_eq; (case ob => (intro f W hW hd; (skip); (try simp [deps, factOf, Region.binds] at hd); unfold relOp; go_simp; (first | exact ⟨Kp.refl _, rfl⟩ | exact Kp.refl _ | (refine ⟨Kp.refl _, ?_⟩; fail)))); go_simp; refine hK _ _ ?_; clear hK K)
      refine wpRel_step (fun K hK => ?_)
      apply rel_fact (fun v W => ∃ q, v = .slice (some ⟨q, 0, none⟩) 1 1 ∧ W.cell? ⟨q, 0, none⟩ = some (.string (b.extract 0 k))) (fun v W W' hr ⟨q, h1, h2⟩ => ⟨q, h1, hr.cell h2⟩)
      case ob =>
        intro f W hW hd
        skip
        (try simp [deps, factOf, Region.binds] at hd)
        unfold relOp
        go_simp
        first | exact ⟨Kp.one _ _, one_cell _ _ _⟩ | exact Kp.one _ _
      go_simp
      refine hK _ _ ?_
      clear hK K
      refine wpRel_step (fun K hK => ?_)
      apply rel_fact (fun v _ => v = .int .u32 (crcN (b.extract 0 k) : Nat)) (fun _ _ _ _ h => h)
      case ob =>
        intro f W hW hd
        (simp [deps, factOf, Region.binds] at hd; first | obtain ⟨⟨q, e3, hq⟩, e1⟩ := hd | obtain ⟨⟨q, e3, hq⟩, e1, e0⟩ := hd | obtain ⟨e0, ⟨q, e3, hq⟩, e1⟩ := hd)
        (try simp [deps, factOf, Region.binds] at hd)
        unfold relOp
        go_simp
        (refine ⟨Kp.refl _, ?_⟩; refine (sum1 _ s2 _ _ hq).mono ?_; rintro e w' ⟨rfl, rfl⟩; exact ⟨rfl, Kp.refl _⟩)
      go_simp
      refine hK _ _ ?_
      clear hK K
      repeat (refine wpRel_step (fun K hK => ?_); apply rel_eq; (case ob => (intro f W hW hd; (have hx1 := HX1.out); (try simp [deps, factOf, Region.binds] at hd); unfold relOp; go_simp; (first | exact ⟨Kp.refl _, rfl⟩ | exact Kp.refl _ | (refine ⟨Kp.refl _, ?_⟩; fail)))); go_simp; refine hK _ _ ?_; clear hK K)
      refine wpRel_step (fun K hK => ?_)
      apply rel_fact (fun v W => ∃ q, v = .slice (some ⟨q, 0, none⟩) 1 1 ∧ W.cell? ⟨q, 0, none⟩ = some (.string (c.extract 0 k))) (fun v W W' hr ⟨q, h1, h2⟩ => ⟨q, h1, hr.cell h2⟩)
      case ob =>
        intro f W hW hd
        skip
        (try simp [deps, factOf, Region.binds] at hd)
        unfold relOp
        go_simp
        first | exact ⟨Kp.one _ _, one_cell _ _ _⟩ | exact Kp.one _ _
      go_simp
      refine hK _ _ ?_
      clear hK K
      refine wpRel_step (fun K hK => ?_)
      apply rel_fact (fun v _ => v = .int .u32 (crcN (c.extract 0 k) : Nat)) (fun _ _ _ _ h => h)
      case ob =>
        intro f W hW hd
        (simp [deps, factOf, Region.binds] at hd; first | obtain ⟨⟨q, e3, hq⟩, e1⟩ := hd | obtain ⟨⟨q, e3, hq⟩, e1, e0⟩ := hd | obtain ⟨e0, ⟨q, e3, hq⟩, e1⟩ := hd)
        (try simp [deps, factOf, Region.binds] at hd)
        unfold relOp
        go_simp
        (refine ⟨Kp.refl _, ?_⟩; refine (sum1 _ s3 _ _ hq).mono ?_; rintro e w' ⟨rfl, rfl⟩; exact ⟨rfl, Kp.refl _⟩)
      go_simp
      refine hK _ _ ?_
      clear hK K
      repeat (refine wpRel_step (fun K hK => ?_); apply rel_eq; (case ob => (intro f W hW hd; (have hx2 := HX2.out; have hl := HLAW.out); (try simp [deps, factOf, Region.binds] at hd); unfold relOp; go_simp; (first | exact ⟨Kp.refl _, rfl⟩ | exact Kp.refl _ | (refine ⟨Kp.refl _, ?_⟩; fail)))); go_simp; refine hK _ _ ?_; clear hK K)
      refine wpRel_nil ?_
      intro f W' hW hall
      have h25 : f 25 = .bool true := allF_get hall 25 _ rfl
      clear hall HLAW HX1 HX2 HCV
      dsimp only
      rw [h25]
      go_wp2_with fail
      go_ret
      exact ⟨rfl, hKr.trans hW⟩
set_option maxRecDepth 20000 in
set_option maxHeartbeats 6400000 in
theorem CrcAdds_b (w : World) (a : ByteArray) (ha : a.size ≤ 140737488351232) (b : ByteArray) (hb : b.size ≤ 140737488351232) (c : ByteArray) (hc : c.size ≤ 140737488351232) (n : Nat) (hle : n ≤ a.size ∧ n ≤ b.size ∧ n ≤ c.size) (hna : b.size = n) (eb0 : n < a.size) (ec0 : n ≤ c.size) :
    Calls Try.prog 7 #[.string a, .string b, .string c] w fun e w' => e = .returned (.bool true) ∧ Kp w w' := by
  have hmk := make_bytes n (by omega)
  go_enter Try.func7, Try.ntmps7
  go_wp2_with fail
  have hB := Bk.new w 5 (vb (List.replicate n 0))
  have hK := Kp.one w (.cells (vb (List.replicate n 0)).toArray 5)
  generalize hw1 : w.alloc (.cells (vb (List.replicate n 0)).toArray 5) = w1 at hB hK ⊢
  clear hw1 hna eb0 ec0 hmk
  obtain ⟨ea, eb, ec⟩ := hle
  go_loopw [9] (fun i wr => ∃ k : Nat, k ≤ n ∧ i = .int .i64 k ∧ Bk wr w.heap.size 5 (vb (xrow a b c n k)) ∧ Kp w wr) (fun i _ => n - (intOf i).toNat)
  case atStart => exact ⟨0, by omega, rfl, by rw [xrow_zero]; exact hB, hK⟩
  case round =>
    obtain ⟨k, hk, rfl, hBr, hKr⟩ := hrel
    by_cases hlt : k < n
    · have hcell := hBr.cell k
      rw [vb_get _ _ (by rw [xrow_len]; exact hlt)] at hcell
      have hfree := hBr.free k
      have ka : k < a.size := by omega
      have kb : k < b.size := by omega
      have kc : k < c.size := by omega
      clear hB hK
      go_wp2_with fail
      go_region
      all_goals
        go_wp2_with fail
        have hput := (hBr.put k (.int .u8 (x3 a b c k : Int))).drew
        rw [vb_set, xrow_step a b c n k hlt] at hput
        rw [xor3_u8 a b c k ka kb kc]
        go_roundw
        case rel => exact ⟨k + 1, by omega, by go_num, hput, (hKr.set (Nat.le_refl _) _).drew⟩
        case measure => simp [intOf]; omega
    · obtain rfl : k = n := by omega
      clear hB hK
      have law := adds_law a b c k ea eb ec
      have HBK := Lib.hid hBr
      have s0 : (strOfNums (xrow a b c k k)).size ≤ 9223372036854775807 := by rw [strOfNums_size, xrow_len]; omega
      have s1 : (a.extract 0 k).size ≤ 9223372036854775807 := by rw [ByteArray.size_extract]; omega
      have s2 : (b.extract 0 k).size ≤ 9223372036854775807 := by rw [ByteArray.size_extract]; omega
      have s3 : (c.extract 0 k).size ≤ 9223372036854775807 := by rw [ByteArray.size_extract]; omega
      have HCV := Lib.hid (fun W' (kk : Kp wr W') => conv_bk (hBr.keep kk) (xrow_len a b c k k))
      have x1 := u32_xor_nat (crcN (a.extract 0 k)) (crcN (b.extract 0 k)) (crcN_lt _) (crcN_lt _)
      have x2 := u32_xor_nat (crcN (a.extract 0 k) ^^^ crcN (b.extract 0 k)) (crcN (c.extract 0 k)) (Nat.xor_lt_two_pow (n := 32) (crcN_lt _) (crcN_lt _)) (crcN_lt _)
      have law2 : (((crcN (strOfNums (xrow a b c k k)) : Nat) : Int) == ((crcN (a.extract 0 k) ^^^ crcN (b.extract 0 k) ^^^ crcN (c.extract 0 k) : Nat) : Int)) = true := by rw [law]; simp
      have HLAW := Lib.hid law2
      have HX1 := Lib.hid x1
      have HX2 := Lib.hid x2
      clear law law2 x1 x2 hBr
      generalize hz0 : strOfNums (xrow a b c k k) = z0 at *
      clear hz0
      go_wp2_with fail
      refine wp_region_rel (R := Kp) (C := fun W' => Kp wr W') (by kernel_rfl) (by kernel_rfl) (Kp.refl wr).drew (fun _ _ h k => h.trans k) Kp.refl (fun _ _ _ h k => h.trans k) ?_
      repeat (refine wpRel_step (fun K hK => ?_); apply rel_eq; (case ob => (intro f W hW hd; (skip); (try simp [deps, factOf, Region.binds] at hd); unfold relOp; go_simp; (first | exact ⟨Kp.refl _, rfl⟩ | exact Kp.refl _ | (refine ⟨Kp.refl _, ?_⟩; (go_at_call 9; refine (alive_any _).mono ?_; rintro e w' ⟨rfl, hk9⟩; exact ⟨rfl, hk9⟩))))); go_simp; refine hK _ _ ?_; clear hK K)
      refine wpRel_step (fun K hK => ?_)
      apply rel_fact (fun v _ => v = .string z0) (fun _ _ _ _ h => h)
      case ob =>
        intro f W hW hd
        have hcv := HCV.out _ hW
        (try simp [deps, factOf, Region.binds] at hd)
        unfold relOp
        go_simp
        first | exact ⟨Kp.refl _, rfl⟩ | exact Kp.refl _
      go_simp
      refine hK _ _ ?_
      clear hK K
      refine wpRel_step (fun K hK => ?_)
      apply rel_fact (fun v W => ∃ q, v = .slice (some ⟨q, 0, none⟩) 1 1 ∧ W.cell? ⟨q, 0, none⟩ = some (.string z0)) (fun v W W' hr ⟨q, h1, h2⟩ => ⟨q, h1, hr.cell h2⟩)
      case ob =>
        intro f W hW hd
        skip
        (try simp [deps, factOf, Region.binds] at hd)
        unfold relOp
        go_simp
        first | exact ⟨Kp.one _ _, one_cell _ _ _⟩ | exact Kp.one _ _
      go_simp
      refine hK _ _ ?_
      clear hK K
      refine wpRel_step (fun K hK => ?_)
      apply rel_fact (fun v _ => v = .int .u32 (crcN z0 : Nat)) (fun _ _ _ _ h => h)
      case ob =>
        intro f W hW hd
        (simp [deps, factOf, Region.binds] at hd; first | obtain ⟨⟨q, e3, hq⟩, e1⟩ := hd | obtain ⟨⟨q, e3, hq⟩, e1, e0⟩ := hd | obtain ⟨e0, ⟨q, e3, hq⟩, e1⟩ := hd)
        (try simp [deps, factOf, Region.binds] at hd)
        unfold relOp
        go_simp
        (refine ⟨Kp.refl _, ?_⟩; refine (sum1 _ s0 _ _ hq).mono ?_; rintro e w' ⟨rfl, rfl⟩; exact ⟨rfl, Kp.refl _⟩)
      go_simp
      refine hK _ _ ?_
      clear hK K
      repeat (refine wpRel_step (fun K hK => ?_); apply rel_eq; (case ob => (intro f W hW hd; (skip); (try simp [deps, factOf, Region.binds] at hd); unfold relOp; go_simp; (first | exact ⟨Kp.refl _, rfl⟩ | exact Kp.refl _ | (refine ⟨Kp.refl _, ?_⟩; fail)))); go_simp; refine hK _ _ ?_; clear hK K)
      refine wpRel_step (fun K hK => ?_)
      apply rel_fact (fun v W => ∃ q, v = .slice (some ⟨q, 0, none⟩) 1 1 ∧ W.cell? ⟨q, 0, none⟩ = some (.string (a.extract 0 k))) (fun v W W' hr ⟨q, h1, h2⟩ => ⟨q, h1, hr.cell h2⟩)
      case ob =>
        intro f W hW hd
        skip
        (try simp [deps, factOf, Region.binds] at hd)
        unfold relOp
        go_simp
        first | exact ⟨Kp.one _ _, one_cell _ _ _⟩ | exact Kp.one _ _
      go_simp
      refine hK _ _ ?_
      clear hK K
      refine wpRel_step (fun K hK => ?_)
      apply rel_fact (fun v _ => v = .int .u32 (crcN (a.extract 0 k) : Nat)) (fun _ _ _ _ h => h)
      case ob =>
        intro f W hW hd
        (simp [deps, factOf, Region.binds] at hd; first | obtain ⟨⟨q, e3, hq⟩, e1⟩ := hd | obtain ⟨⟨q, e3, hq⟩, e1, e0⟩ := hd | obtain ⟨e0, ⟨q, e3, hq⟩, e1⟩ := hd)
        (try simp [deps, factOf, Region.binds] at hd)
        unfold relOp
        go_simp
        (refine ⟨Kp.refl _, ?_⟩; refine (sum1 _ s1 _ _ hq).mono ?_; rintro e w' ⟨rfl, rfl⟩; exact ⟨rfl, Kp.refl _⟩)
      go_simp
      refine hK _ _ ?_
      clear hK K
      repeat (refine wpRel_step (fun K hK => ?_); apply rel_eq; (case ob => (intro f W hW hd; (skip); (try simp [deps, factOf, Region.binds] at hd); unfold relOp; go_simp; (first | exact ⟨Kp.refl _, rfl⟩ | exact Kp.refl _ | (refine ⟨Kp.refl _, ?_⟩; fail)))); go_simp; refine hK _ _ ?_; clear hK K)
      refine wpRel_step (fun K hK => ?_)
      apply rel_fact (fun v W => ∃ q, v = .slice (some ⟨q, 0, none⟩) 1 1 ∧ W.cell? ⟨q, 0, none⟩ = some (.string (b.extract 0 k))) (fun v W W' hr ⟨q, h1, h2⟩ => ⟨q, h1, hr.cell h2⟩)
      case ob =>
        intro f W hW hd
        skip
        (try simp [deps, factOf, Region.binds] at hd)
        unfold relOp
        go_simp
        first | exact ⟨Kp.one _ _, one_cell _ _ _⟩ | exact Kp.one _ _
      go_simp
      refine hK _ _ ?_
      clear hK K
      refine wpRel_step (fun K hK => ?_)
      apply rel_fact (fun v _ => v = .int .u32 (crcN (b.extract 0 k) : Nat)) (fun _ _ _ _ h => h)
      case ob =>
        intro f W hW hd
        (simp [deps, factOf, Region.binds] at hd; first | obtain ⟨⟨q, e3, hq⟩, e1⟩ := hd | obtain ⟨⟨q, e3, hq⟩, e1, e0⟩ := hd | obtain ⟨e0, ⟨q, e3, hq⟩, e1⟩ := hd)
        (try simp [deps, factOf, Region.binds] at hd)
        unfold relOp
        go_simp
        (refine ⟨Kp.refl _, ?_⟩; refine (sum1 _ s2 _ _ hq).mono ?_; rintro e w' ⟨rfl, rfl⟩; exact ⟨rfl, Kp.refl _⟩)
      go_simp
      refine hK _ _ ?_
      clear hK K
      repeat (refine wpRel_step (fun K hK => ?_); apply rel_eq; (case ob => (intro f W hW hd; (have hx1 := HX1.out); (try simp [deps, factOf, Region.binds] at hd); unfold relOp; go_simp; (first | exact ⟨Kp.refl _, rfl⟩ | exact Kp.refl _ | (refine ⟨Kp.refl _, ?_⟩; fail)))); go_simp; refine hK _ _ ?_; clear hK K)
      refine wpRel_step (fun K hK => ?_)
      apply rel_fact (fun v W => ∃ q, v = .slice (some ⟨q, 0, none⟩) 1 1 ∧ W.cell? ⟨q, 0, none⟩ = some (.string (c.extract 0 k))) (fun v W W' hr ⟨q, h1, h2⟩ => ⟨q, h1, hr.cell h2⟩)
      case ob =>
        intro f W hW hd
        skip
        (try simp [deps, factOf, Region.binds] at hd)
        unfold relOp
        go_simp
        first | exact ⟨Kp.one _ _, one_cell _ _ _⟩ | exact Kp.one _ _
      go_simp
      refine hK _ _ ?_
      clear hK K
      refine wpRel_step (fun K hK => ?_)
      apply rel_fact (fun v _ => v = .int .u32 (crcN (c.extract 0 k) : Nat)) (fun _ _ _ _ h => h)
      case ob =>
        intro f W hW hd
        (simp [deps, factOf, Region.binds] at hd; first | obtain ⟨⟨q, e3, hq⟩, e1⟩ := hd | obtain ⟨⟨q, e3, hq⟩, e1, e0⟩ := hd | obtain ⟨e0, ⟨q, e3, hq⟩, e1⟩ := hd)
        (try simp [deps, factOf, Region.binds] at hd)
        unfold relOp
        go_simp
        (refine ⟨Kp.refl _, ?_⟩; refine (sum1 _ s3 _ _ hq).mono ?_; rintro e w' ⟨rfl, rfl⟩; exact ⟨rfl, Kp.refl _⟩)
      go_simp
      refine hK _ _ ?_
      clear hK K
      repeat (refine wpRel_step (fun K hK => ?_); apply rel_eq; (case ob => (intro f W hW hd; (have hx2 := HX2.out; have hl := HLAW.out); (try simp [deps, factOf, Region.binds] at hd); unfold relOp; go_simp; (first | exact ⟨Kp.refl _, rfl⟩ | exact Kp.refl _ | (refine ⟨Kp.refl _, ?_⟩; fail)))); go_simp; refine hK _ _ ?_; clear hK K)
      refine wpRel_nil ?_
      intro f W' hW hall
      have h25 : f 25 = .bool true := allF_get hall 25 _ rfl
      clear hall HLAW HX1 HX2 HCV
      dsimp only
      rw [h25]
      go_wp2_with fail
      go_ret
      exact ⟨rfl, hKr.trans hW⟩
set_option maxRecDepth 20000 in
set_option maxHeartbeats 6400000 in
theorem CrcAdds_c (w : World) (a : ByteArray) (ha : a.size ≤ 140737488351232) (b : ByteArray) (hb : b.size ≤ 140737488351232) (c : ByteArray) (hc : c.size ≤ 140737488351232) (n : Nat) (hle : n ≤ a.size ∧ n ≤ b.size ∧ n ≤ c.size) (hna : c.size = n) (eb0 : n < a.size) (ec0 : n < b.size) :
    Calls Try.prog 7 #[.string a, .string b, .string c] w fun e w' => e = .returned (.bool true) ∧ Kp w w' := by
  have hmk := make_bytes n (by omega)
  go_enter Try.func7, Try.ntmps7
  go_wp2_with fail
  have hB := Bk.new w 5 (vb (List.replicate n 0))
  have hK := Kp.one w (.cells (vb (List.replicate n 0)).toArray 5)
  generalize hw1 : w.alloc (.cells (vb (List.replicate n 0)).toArray 5) = w1 at hB hK ⊢
  clear hw1 hna eb0 ec0 hmk
  obtain ⟨ea, eb, ec⟩ := hle
  go_loopw [9] (fun i wr => ∃ k : Nat, k ≤ n ∧ i = .int .i64 k ∧ Bk wr w.heap.size 5 (vb (xrow a b c n k)) ∧ Kp w wr) (fun i _ => n - (intOf i).toNat)
  case atStart => exact ⟨0, by omega, rfl, by rw [xrow_zero]; exact hB, hK⟩
  case round =>
    obtain ⟨k, hk, rfl, hBr, hKr⟩ := hrel
    by_cases hlt : k < n
    · have hcell := hBr.cell k
      rw [vb_get _ _ (by rw [xrow_len]; exact hlt)] at hcell
      have hfree := hBr.free k
      have ka : k < a.size := by omega
      have kb : k < b.size := by omega
      have kc : k < c.size := by omega
      clear hB hK
      go_wp2_with fail
      go_region
      all_goals
        go_wp2_with fail
        have hput := (hBr.put k (.int .u8 (x3 a b c k : Int))).drew
        rw [vb_set, xrow_step a b c n k hlt] at hput
        rw [xor3_u8 a b c k ka kb kc]
        go_roundw
        case rel => exact ⟨k + 1, by omega, by go_num, hput, (hKr.set (Nat.le_refl _) _).drew⟩
        case measure => simp [intOf]; omega
    · obtain rfl : k = n := by omega
      clear hB hK
      have law := adds_law a b c k ea eb ec
      have HBK := Lib.hid hBr
      have s0 : (strOfNums (xrow a b c k k)).size ≤ 9223372036854775807 := by rw [strOfNums_size, xrow_len]; omega
      have s1 : (a.extract 0 k).size ≤ 9223372036854775807 := by rw [ByteArray.size_extract]; omega
      have s2 : (b.extract 0 k).size ≤ 9223372036854775807 := by rw [ByteArray.size_extract]; omega
      have s3 : (c.extract 0 k).size ≤ 9223372036854775807 := by rw [ByteArray.size_extract]; omega
      have HCV := Lib.hid (fun W' (kk : Kp wr W') => conv_bk (hBr.keep kk) (xrow_len a b c k k))
      have x1 := u32_xor_nat (crcN (a.extract 0 k)) (crcN (b.extract 0 k)) (crcN_lt _) (crcN_lt _)
      have x2 := u32_xor_nat (crcN (a.extract 0 k) ^^^ crcN (b.extract 0 k)) (crcN (c.extract 0 k)) (Nat.xor_lt_two_pow (n := 32) (crcN_lt _) (crcN_lt _)) (crcN_lt _)
      have law2 : (((crcN (strOfNums (xrow a b c k k)) : Nat) : Int) == ((crcN (a.extract 0 k) ^^^ crcN (b.extract 0 k) ^^^ crcN (c.extract 0 k) : Nat) : Int)) = true := by rw [law]; simp
      have HLAW := Lib.hid law2
      have HX1 := Lib.hid x1
      have HX2 := Lib.hid x2
      clear law law2 x1 x2 hBr
      generalize hz0 : strOfNums (xrow a b c k k) = z0 at *
      clear hz0
      go_wp2_with fail
      refine wp_region_rel (R := Kp) (C := fun W' => Kp wr W') (by kernel_rfl) (by kernel_rfl) (Kp.refl wr).drew (fun _ _ h k => h.trans k) Kp.refl (fun _ _ _ h k => h.trans k) ?_
      repeat (refine wpRel_step (fun K hK => ?_); apply rel_eq; (case ob => (intro f W hW hd; (skip); (try simp [deps, factOf, Region.binds] at hd); unfold relOp; go_simp; (first | exact ⟨Kp.refl _, rfl⟩ | exact Kp.refl _ | (refine ⟨Kp.refl _, ?_⟩; (go_at_call 9; refine (alive_any _).mono ?_; rintro e w' ⟨rfl, hk9⟩; exact ⟨rfl, hk9⟩))))); go_simp; refine hK _ _ ?_; clear hK K)
      refine wpRel_step (fun K hK => ?_)
      apply rel_fact (fun v _ => v = .string z0) (fun _ _ _ _ h => h)
      case ob =>
        intro f W hW hd
        have hcv := HCV.out _ hW
        (try simp [deps, factOf, Region.binds] at hd)
        unfold relOp
        go_simp
        first | exact ⟨Kp.refl _, rfl⟩ | exact Kp.refl _
      go_simp
      refine hK _ _ ?_
      clear hK K
      refine wpRel_step (fun K hK => ?_)
      apply rel_fact (fun v W => ∃ q, v = .slice (some ⟨q, 0, none⟩) 1 1 ∧ W.cell? ⟨q, 0, none⟩ = some (.string z0)) (fun v W W' hr ⟨q, h1, h2⟩ => ⟨q, h1, hr.cell h2⟩)
      case ob =>
        intro f W hW hd
        skip
        (try simp [deps, factOf, Region.binds] at hd)
        unfold relOp
        go_simp
        first | exact ⟨Kp.one _ _, one_cell _ _ _⟩ | exact Kp.one _ _
      go_simp
      refine hK _ _ ?_
      clear hK K
      refine wpRel_step (fun K hK => ?_)
      apply rel_fact (fun v _ => v = .int .u32 (crcN z0 : Nat)) (fun _ _ _ _ h => h)
      case ob =>
        intro f W hW hd
        (simp [deps, factOf, Region.binds] at hd; first | obtain ⟨⟨q, e3, hq⟩, e1⟩ := hd | obtain ⟨⟨q, e3, hq⟩, e1, e0⟩ := hd | obtain ⟨e0, ⟨q, e3, hq⟩, e1⟩ := hd)
        (try simp [deps, factOf, Region.binds] at hd)
        unfold relOp
        go_simp
        (refine ⟨Kp.refl _, ?_⟩; refine (sum1 _ s0 _ _ hq).mono ?_; rintro e w' ⟨rfl, rfl⟩; exact ⟨rfl, Kp.refl _⟩)
      go_simp
      refine hK _ _ ?_
      clear hK K
      repeat (refine wpRel_step (fun K hK => ?_); apply rel_eq; (case ob => (intro f W hW hd; (skip); (try simp [deps, factOf, Region.binds] at hd); unfold relOp; go_simp; (first | exact ⟨Kp.refl _, rfl⟩ | exact Kp.refl _ | (refine ⟨Kp.refl _, ?_⟩; fail)))); go_simp; refine hK _ _ ?_; clear hK K)
      refine wpRel_step (fun K hK => ?_)
      apply rel_fact (fun v W => ∃ q, v = .slice (some ⟨q, 0, none⟩) 1 1 ∧ W.cell? ⟨q, 0, none⟩ = some (.string (a.extract 0 k))) (fun v W W' hr ⟨q, h1, h2⟩ => ⟨q, h1, hr.cell h2⟩)
      case ob =>
        intro f W hW hd
        skip
        (try simp [deps, factOf, Region.binds] at hd)
        unfold relOp
        go_simp
        first | exact ⟨Kp.one _ _, one_cell _ _ _⟩ | exact Kp.one _ _
      go_simp
      refine hK _ _ ?_
      clear hK K
      refine wpRel_step (fun K hK => ?_)
      apply rel_fact (fun v _ => v = .int .u32 (crcN (a.extract 0 k) : Nat)) (fun _ _ _ _ h => h)
      case ob =>
        intro f W hW hd
        (simp [deps, factOf, Region.binds] at hd; first | obtain ⟨⟨q, e3, hq⟩, e1⟩ := hd | obtain ⟨⟨q, e3, hq⟩, e1, e0⟩ := hd | obtain ⟨e0, ⟨q, e3, hq⟩, e1⟩ := hd)
        (try simp [deps, factOf, Region.binds] at hd)
        unfold relOp
        go_simp
        (refine ⟨Kp.refl _, ?_⟩; refine (sum1 _ s1 _ _ hq).mono ?_; rintro e w' ⟨rfl, rfl⟩; exact ⟨rfl, Kp.refl _⟩)
      go_simp
      refine hK _ _ ?_
      clear hK K
      repeat (refine wpRel_step (fun K hK => ?_); apply rel_eq; (case ob => (intro f W hW hd; (skip); (try simp [deps, factOf, Region.binds] at hd); unfold relOp; go_simp; (first | exact ⟨Kp.refl _, rfl⟩ | exact Kp.refl _ | (refine ⟨Kp.refl _, ?_⟩; fail)))); go_simp; refine hK _ _ ?_; clear hK K)
      refine wpRel_step (fun K hK => ?_)
      apply rel_fact (fun v W => ∃ q, v = .slice (some ⟨q, 0, none⟩) 1 1 ∧ W.cell? ⟨q, 0, none⟩ = some (.string (b.extract 0 k))) (fun v W W' hr ⟨q, h1, h2⟩ => ⟨q, h1, hr.cell h2⟩)
      case ob =>
        intro f W hW hd
        skip
        (try simp [deps, factOf, Region.binds] at hd)
        unfold relOp
        go_simp
        first | exact ⟨Kp.one _ _, one_cell _ _ _⟩ | exact Kp.one _ _
      go_simp
      refine hK _ _ ?_
      clear hK K
      refine wpRel_step (fun K hK => ?_)
      apply rel_fact (fun v _ => v = .int .u32 (crcN (b.extract 0 k) : Nat)) (fun _ _ _ _ h => h)
      case ob =>
        intro f W hW hd
        (simp [deps, factOf, Region.binds] at hd; first | obtain ⟨⟨q, e3, hq⟩, e1⟩ := hd | obtain ⟨⟨q, e3, hq⟩, e1, e0⟩ := hd | obtain ⟨e0, ⟨q, e3, hq⟩, e1⟩ := hd)
        (try simp [deps, factOf, Region.binds] at hd)
        unfold relOp
        go_simp
        (refine ⟨Kp.refl _, ?_⟩; refine (sum1 _ s2 _ _ hq).mono ?_; rintro e w' ⟨rfl, rfl⟩; exact ⟨rfl, Kp.refl _⟩)
      go_simp
      refine hK _ _ ?_
      clear hK K
      repeat (refine wpRel_step (fun K hK => ?_); apply rel_eq; (case ob => (intro f W hW hd; (have hx1 := HX1.out); (try simp [deps, factOf, Region.binds] at hd); unfold relOp; go_simp; (first | exact ⟨Kp.refl _, rfl⟩ | exact Kp.refl _ | (refine ⟨Kp.refl _, ?_⟩; fail)))); go_simp; refine hK _ _ ?_; clear hK K)
      refine wpRel_step (fun K hK => ?_)
      apply rel_fact (fun v W => ∃ q, v = .slice (some ⟨q, 0, none⟩) 1 1 ∧ W.cell? ⟨q, 0, none⟩ = some (.string (c.extract 0 k))) (fun v W W' hr ⟨q, h1, h2⟩ => ⟨q, h1, hr.cell h2⟩)
      case ob =>
        intro f W hW hd
        skip
        (try simp [deps, factOf, Region.binds] at hd)
        unfold relOp
        go_simp
        first | exact ⟨Kp.one _ _, one_cell _ _ _⟩ | exact Kp.one _ _
      go_simp
      refine hK _ _ ?_
      clear hK K
      refine wpRel_step (fun K hK => ?_)
      apply rel_fact (fun v _ => v = .int .u32 (crcN (c.extract 0 k) : Nat)) (fun _ _ _ _ h => h)
      case ob =>
        intro f W hW hd
        (simp [deps, factOf, Region.binds] at hd; first | obtain ⟨⟨q, e3, hq⟩, e1⟩ := hd | obtain ⟨⟨q, e3, hq⟩, e1, e0⟩ := hd | obtain ⟨e0, ⟨q, e3, hq⟩, e1⟩ := hd)
        (try simp [deps, factOf, Region.binds] at hd)
        unfold relOp
        go_simp
        (refine ⟨Kp.refl _, ?_⟩; refine (sum1 _ s3 _ _ hq).mono ?_; rintro e w' ⟨rfl, rfl⟩; exact ⟨rfl, Kp.refl _⟩)
      go_simp
      refine hK _ _ ?_
      clear hK K
      repeat (refine wpRel_step (fun K hK => ?_); apply rel_eq; (case ob => (intro f W hW hd; (have hx2 := HX2.out; have hl := HLAW.out); (try simp [deps, factOf, Region.binds] at hd); unfold relOp; go_simp; (first | exact ⟨Kp.refl _, rfl⟩ | exact Kp.refl _ | (refine ⟨Kp.refl _, ?_⟩; fail)))); go_simp; refine hK _ _ ?_; clear hK K)
      refine wpRel_nil ?_
      intro f W' hW hall
      have h25 : f 25 = .bool true := allF_get hall 25 _ rfl
      clear hall HLAW HX1 HX2 HCV
      dsimp only
      rw [h25]
      go_wp2_with fail
      go_ret
      exact ⟨rfl, hKr.trans hW⟩
theorem CrcAdds_walk (w : World) (a : ByteArray) (ha : a.size ≤ 140737488351232) (b : ByteArray) (hb : b.size ≤ 140737488351232) (c : ByteArray) (hc : c.size ≤ 140737488351232) :
    Calls Try.prog 7 #[.string a, .string b, .string c] w fun e w' => e = .returned (.bool true) ∧ Kp w w' := by
  obtain ⟨n, hl⟩ := least a b c
  have hle := hl.le
  rcases hl with ⟨h1, h2, h3⟩ | ⟨h1, h2, h3⟩ | ⟨h1, h2, h3⟩
  · exact CrcAdds_a w a ha b hb c hc n hle h1 h2 h3
  · exact CrcAdds_b w a ha b hb c hc n hle h1 h2 h3
  · exact CrcAdds_c w a ha b hb c hc n hle h1 h2 h3
end Go.Proofs.Ytinkookmjnflhaa
