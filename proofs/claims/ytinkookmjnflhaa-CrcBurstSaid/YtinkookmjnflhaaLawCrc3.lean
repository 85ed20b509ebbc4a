/- The walk of CrcBurst. -/
import Derived.Test.YtinkookmjnflhaaLawCrc
import Derived.Test.YtinkookmjnflhaaBytes
import Derived.Test.YtinkookmjnflhaaTail
import Derived.ChangeKeysEq
namespace Go.Proofs.Ytinkookmjnflhaa
open Go.RowKit
set_option linter.unusedVariables false

/-- The first k of four bytes turned. -/
def turned (ns : List Nat) (a : Nat) (ys : List Nat) : Nat → List Nat
  | 0 => ns
  | k + 1 => (turned ns a ys k).set (a + k) (ns.getD (a + k) 0 ^^^ ys.getD k 0)
theorem turned_len (ns : List Nat) (a : Nat) (ys : List Nat) : ∀ k, (turned ns a ys k).length = ns.length
  | 0 => rfl
  | k + 1 => by rw [turned, List.length_set, turned_len]
theorem turned_at (ns : List Nat) (a : Nat) (ys : List Nat) : ∀ k j, a + k ≤ j → (turned ns a ys k)[j]? = ns[j]?
  | 0, j, _ => rfl
  | k + 1, j, h => by rw [turned, List.getElem?_set_ne (by omega), turned_at ns a ys k j (by omega)]
theorem turned_lt (ns : List Nat) (a : Nat) (ys : List Nat) (hn : ∀ n ∈ ns, n < 256) (hy : ∀ n ∈ ys, n < 256) : ∀ k, ∀ n ∈ turned ns a ys k, n < 256
  | 0 => hn
  | k + 1 => by
    intro n h
    rw [turned] at h
    rcases List.mem_or_eq_of_mem_set h with h | h
    · exact turned_lt ns a ys hn hy k n h
    · subst h
      have g1 : ns.getD (a + k) 0 < 256 := by
        rw [List.getD_eq_getElem?_getD]
        rcases h9 : ns[a + k]? with _ | v
        · decide
        · exact hn v (List.mem_of_getElem? h9)
      have g2 : ys.getD k 0 < 256 := by
        rw [List.getD_eq_getElem?_getD]
        rcases h9 : ys[k]? with _ | v
        · decide
        · exact hy v (List.mem_of_getElem? h9)
      exact Nat.xor_lt_two_pow (n := 8) g1 g2
theorem split4 (ns : List Nat) (a : Nat) (h : a + 4 ≤ ns.length) : ns = ns.take a ++ ([ns.getD a 0, ns.getD (a + 1) 0, ns.getD (a + 2) 0, ns.getD (a + 3) 0] ++ ns.drop (a + 4)) := by
  have e : ns.drop a = [ns.getD a 0, ns.getD (a + 1) 0, ns.getD (a + 2) 0, ns.getD (a + 3) 0] ++ ns.drop (a + 4) := by
    rw [List.drop_eq_getElem_cons (by omega), List.drop_eq_getElem_cons (by omega), List.drop_eq_getElem_cons (by omega), List.drop_eq_getElem_cons (by omega)]
    simp [List.getD_eq_getElem?_getD, List.getElem?_eq_getElem (show a < ns.length by omega), List.getElem?_eq_getElem (show a + 1 < ns.length by omega), List.getElem?_eq_getElem (show a + 2 < ns.length by omega), List.getElem?_eq_getElem (show a + 3 < ns.length by omega)]
  rw [← e, List.take_append_drop]
theorem turned4 (ns : List Nat) (a y0 y1 y2 y3 : Nat) (h : a + 4 ≤ ns.length) : turned ns a [y0, y1, y2, y3] 4 = ns.take a ++ ([ns.getD a 0 ^^^ y0, ns.getD (a + 1) 0 ^^^ y1, ns.getD (a + 2) 0 ^^^ y2, ns.getD (a + 3) 0 ^^^ y3] ++ ns.drop (a + 4)) := by
  have hl := turned_len ns a [y0, y1, y2, y3] 4
  conv => lhs; rw [split4 (turned ns a [y0, y1, y2, y3] 4) a (by omega)]
  have ht : (turned ns a [y0, y1, y2, y3] 4).take a = ns.take a := by
    apply List.ext_getElem?
    intro j
    rw [List.getElem?_take, List.getElem?_take]
    by_cases hj : j < a
    · rw [if_pos hj, if_pos hj]
      simp only [turned]
      rw [List.getElem?_set_ne (by omega), List.getElem?_set_ne (by omega), List.getElem?_set_ne (by omega), List.getElem?_set_ne (by omega)]
    · rw [if_neg hj, if_neg hj]
  have hd : (turned ns a [y0, y1, y2, y3] 4).drop (a + 4) = ns.drop (a + 4) := by
    apply List.ext_getElem?
    intro j
    rw [List.getElem?_drop, List.getElem?_drop, turned_at _ _ _ _ _ (by omega)]
  rw [ht, hd]
  congr 2
  have g3 : (turned ns a [y0, y1, y2, y3] 4).getD (a + 3) 0 = ns.getD (a + 3) 0 ^^^ y3 := by
    rw [List.getD_eq_getElem?_getD, turned, List.getElem?_set_self (by rw [turned_len]; omega)]; rfl
  have g2 : (turned ns a [y0, y1, y2, y3] 4).getD (a + 2) 0 = ns.getD (a + 2) 0 ^^^ y2 := by
    rw [List.getD_eq_getElem?_getD, turned, List.getElem?_set_ne (by omega), turned, List.getElem?_set_self (by rw [turned_len]; omega)]; rfl
  have g1 : (turned ns a [y0, y1, y2, y3] 4).getD (a + 1) 0 = ns.getD (a + 1) 0 ^^^ y1 := by
    rw [List.getD_eq_getElem?_getD, turned, List.getElem?_set_ne (by omega), turned, List.getElem?_set_ne (by omega), turned, List.getElem?_set_self (by rw [turned_len]; omega)]; rfl
  have g0 : (turned ns a [y0, y1, y2, y3] 4).getD a 0 = ns.getD a 0 ^^^ y0 := by
    rw [List.getD_eq_getElem?_getD, turned, List.getElem?_set_ne (by omega), turned, List.getElem?_set_ne (by omega), turned, List.getElem?_set_ne (by omega), turned, Nat.add_zero, List.getElem?_set_self (by rw [turned_len]; omega)]; rfl
  rw [g0, g1, g2, g3]
theorem xor_self0 (a b : Nat) (h : a ^^^ b = a) : b = 0 := by
  have := congrArg (a ^^^ ·) h
  simpa [← Nat.xor_assoc] using this
theorem getD_lt (ns : List Nat) (h : ∀ n ∈ ns, n < 256) (i : Nat) : ns.getD i 0 < 256 := by
  rw [List.getD_eq_getElem?_getD]
  rcases h9 : ns[i]? with _ | v
  · decide
  · exact h v (List.mem_of_getElem? h9)
theorem burst_law (s : ByteArray) (a y0 y1 y2 y3 : Nat) (ha : a + 4 ≤ s.size) (b0 : y0 < 256) (b1 : y1 < 256) (b2 : y2 < 256) (b3 : y3 < 256) (hne : ¬ (y0 = 0 ∧ y1 = 0 ∧ y2 = 0 ∧ y3 = 0)) :
    crcN (strN (turned (nb s) a [y0, y1, y2, y3] 4)) ≠ crcN s := by
  intro h
  have h1 : crcOf (strN (turned (nb s) a [y0, y1, y2, y3] 4)) = crcOf s := by
    unfold crcN at h
    have := congrArg (· ^^^ Crc.F) h
    simpa [Nat.xor_assoc] using this
  have hb : ∀ n ∈ ([y0, y1, y2, y3] : List Nat), n < 256 := by simp; omega
  unfold crcOf at h1
  rw [nb_strN _ (turned_lt _ _ _ (nb_lt s) hb 4), turned4 _ _ _ _ _ _ (by rw [nb_len]; exact ha)] at h1
  rw [split4 (nb s) a (by rw [nb_len]; exact ha)] at h1
  rw [← split4 (nb s) a (by rw [nb_len]; exact ha)] at h1
  conv at h1 => rhs; rw [split4 (nb s) a (by rw [nb_len]; exact ha)]
  have gl := getD_lt (nb s) (nb_lt s)
  have hx : ∀ i y, y < 256 → (nb s).getD i 0 ^^^ y < 256 := fun i y hy => Nat.xor_lt_two_pow (n := 8) (gl i) hy
  have := Crc.burst 4294967295 (by omega) _ _ (fun n hn => nb_lt s n (List.mem_of_mem_take hn)) (fun n hn => nb_lt s n (List.mem_of_mem_drop hn)) _ _ _ _ _ _ _ _ (hx _ _ b0) (hx _ _ b1) (hx _ _ b2) (hx _ _ b3) (gl _) (gl _) (gl _) (gl _) h1
  exact hne ⟨xor_self0 _ _ this.1, xor_self0 _ _ this.2.1, xor_self0 _ _ this.2.2.1, xor_self0 _ _ this.2.2.2⟩

theorem eq_arr4 (W : World) (y0 y1 y2 y3 : Int) : (Op.equalIn 10000 30 (.agg #[.int .u8 y0, .int .u8 y1, .int .u8 y2, .int .u8 y3]) (.agg #[.int .u8 0, .int .u8 0, .int .u8 0, .int .u8 0])).run Try.prog W = .ok (y0 == 0 && (y1 == 0 && (y2 == 0 && y3 == 0))) W := by
  obtain ⟨i, hi, _⟩ := Option.map_eq_some_iff.1 info_u8
  rw [run_equalIn_array W 9999 _ _ Try.underlying30 hi]
  have hc : Try.prog.cellsOf 5 = 1 := by kernel_rfl
  have hp : Try.prog.plainKey 5 = true := by kernel_rfl
  have h0 : ∀ (a b c d : Value), (part 5 #[a, b, c, d] 0).run Try.prog W = .ok a W := fun a b c d => run_part_plain W hp rfl
  have h1 : ∀ (a b c d : Value), (part 5 #[a, b, c, d] 1).run Try.prog W = .ok b W := fun a b c d => run_part_plain W hp rfl
  have h2 : ∀ (a b c d : Value), (part 5 #[a, b, c, d] 2).run Try.prog W = .ok c W := fun a b c d => run_part_plain W hp rfl
  have h3 : ∀ (a b c d : Value), (part 5 #[a, b, c, d] 3).run Try.prog W = .ok d W := fun a b c d => run_part_plain W hp rfl
  have he : ∀ (a b : Int), (Op.equalIn 9999 5 (.int .u8 a) (.int .u8 b)).run Try.prog W = .ok (a == b) W := fun a b => run_equalIn_int W 9998 5 .u8 .u8 a b Try.underlying5
  rw [hc]
  simp only [show List.range 4 = [0, 1, 2, 3] from rfl, Op.eqItems, Nat.mul_one, Sem.run_bind, h0, he, Result.andThen_ok]
  rcases a0 : (y0 == 0) with _ | _ <;> rcases a1 : (y1 == 0) with _ | _ <;> rcases a2 : (y2 == 0) with _ | _ <;> rcases a3 : (y3 == 0) with _ | _ <;> simp only [Bool.not_false, Bool.not_true, Bool.false_eq_true, if_true, if_false, Sem.run_bind, Sem.run_pure, h1, h2, h3, he, a1, a2, a3, Result.andThen_ok, Bool.and_true, Bool.and_false]

theorem one_cellB (w : World) (a : Value) (t : TypeId) (B : Nat) (h : w.heap.size = B) : (w.alloc (.cells #[a] t)).cell? ⟨B, 0, none⟩ = some a := by
  subst h; exact one_cell w a t
theorem burst_cell (s : ByteArray) (a k : Nat) (ys : List Nat) (h : a + k < s.size) (W : World) (g : Nat) (hb : By W g ((turned (nb s) a ys k).map fun (n : Nat) => (n : Int))) : W.cell? ⟨g, a + k, none⟩ = some (.int .u8 ((nb s).getD (a + k) 0 : Nat)) ∧ W.frozen? ⟨g, a + k, none⟩ = false := by
  have hl : a + k < ((turned (nb s) a ys k).map fun (n : Nat) => (n : Int)).length := by rw [List.length_map, turned_len, nb_len]; exact h
  refine ⟨?_, hb.free _ hl⟩
  rw [hb.cell _ hl, List.getElem_map]
  congr 3
  have := turned_at (nb s) a ys k (a + k) (Nat.le_refl _)
  rw [List.getElem?_eq_getElem (by rw [turned_len, nb_len]; exact h)] at this
  rw [List.getD_eq_getElem?_getD, ← this]
  rfl
theorem burst_put (s : ByteArray) (a k : Nat) (ys : List Nat) (h : a + k < s.size) (W : World) (g : Nat) (hb : By W g ((turned (nb s) a ys k).map fun (n : Nat) => (n : Int))) : By (W.setCell ⟨g, a + k, none⟩ (.int .u8 (((nb s).getD (a + k) 0 ^^^ ys.getD k 0 : Nat) : Int))) g ((turned (nb s) a ys (k + 1)).map fun (n : Nat) => (n : Int)) := by
  have := hb.put (a + k) (by rw [List.length_map, turned_len, nb_len]; exact h) (((nb s).getD (a + k) 0 ^^^ ys.getD k 0 : Nat) : Int)
  rw [turned, List.map_set]
  exact this
set_option maxHeartbeats 1600000 in
theorem burst_no (w : World) (s : ByteArray) (hs : s.size ≤ 140737488351232) (at' : Int) (y0 y1 y2 y3 : Int) (h : s.size < 4 ∨ (4 ≤ s.size ∧ (y0 == 0 && (y1 == 0 && (y2 == 0 && y3 == 0))) = true)) :
    Calls Try.prog 5 #[.string s, .int .i64 at', .agg #[.int .u8 y0, .int .u8 y1, .int .u8 y2, .int .u8 y3]] w fun e w' => e = .returned (.bool true) ∧ Kp w w' := by
  have hb := Bk.new w 30 [.int .u8 y0, .int .u8 y1, .int .u8 y2, .int .u8 y3]
  have heq := fun W => eq_arr4 W y0 y1 y2 y3
  rcases h with h4 | ⟨h4, hz⟩
  · go_enter Try.func5, Try.ntmps5
    go_wp2_with fail
    refine (alive_any _).mono ?_
    rintro e w1 ⟨rfl, hk1⟩
    go_wp2_with fail
    refine (alive_any _).mono ?_
    rintro e w2 ⟨rfl, hk2⟩
    go_wp2_with fail
    go_ret
    exact ⟨rfl, ((Kp.one _ _).trans hk1).trans hk2⟩
  · rw [hz] at heq
    clear hz
    go_enter Try.func5, Try.ntmps5
    go_wp2_with fail
    refine (alive_any _).mono ?_
    rintro e w1 ⟨rfl, hk1⟩
    have hb1 := hb.keep hk1
    obtain ⟨c0, c1, c2, c3⟩ : w1.cell? ⟨w.heap.size, 0, none⟩ = some (.int .u8 y0) ∧ w1.cell? ⟨w.heap.size, 1, none⟩ = some (.int .u8 y1) ∧ w1.cell? ⟨w.heap.size, 2, none⟩ = some (.int .u8 y2) ∧ w1.cell? ⟨w.heap.size, 3, none⟩ = some (.int .u8 y3) := ⟨hb1.cell 0, hb1.cell 1, hb1.cell 2, hb1.cell 3⟩
    go_wp2_with fail
    refine (alive_any _).mono ?_
    rintro e w2 ⟨rfl, hk2⟩
    go_wp2_with fail
    go_ret
    exact ⟨rfl, ((Kp.one _ _).trans hk1).trans hk2⟩
set_option maxHeartbeats 3200000 in
theorem burst_yes (w : World) (s : ByteArray) (hs : s.size ≤ 140737488351232) (at' : Int) (ba : -9223372036854775808 ≤ at' ∧ at' ≤ 9223372036854775807) (y0 y1 y2 y3 : Nat) (b0 : y0 < 256) (b1 : y1 < 256) (b2 : y2 < 256) (b3 : y3 < 256) (h4 : 4 ≤ s.size) (hz : ((y0 : Int) == 0 && ((y1 : Int) == 0 && ((y2 : Int) == 0 && (y3 : Int) == 0))) = false) :
    Calls Try.prog 5 #[.string s, .int .i64 at', .agg #[.int .u8 y0, .int .u8 y1, .int .u8 y2, .int .u8 y3]] w fun e w' => e = .returned (.bool true) ∧ Kp w w' := by
  have hb := Bk.new w 30 [.int .u8 y0, .int .u8 y1, .int .u8 y2, .int .u8 y3]
  have heq := fun W => eq_arr4 W y0 y1 y2 y3
  rw [hz] at heq
  have hne : ¬ (y0 = 0 ∧ y1 = 0 ∧ y2 = 0 ∧ y3 = 0) := by rintro ⟨rfl, rfl, rfl, rfl⟩; simp at hz
  have HL := Lib.hid (fun a (ha : a + 4 ≤ s.size) => burst_law s a y0 y1 y2 y3 ha b0 b1 b2 b3 hne)
  clear hz hne
  have hcases : at' < 0 ∨ (0 ≤ at' ∧ (s.size : Int) - 4 < at') ∨ (0 ≤ at' ∧ at' ≤ (s.size : Int) - 4) := by omega
  have hwr : IntKind.i64.wrap ((s.size : Int) - 4) = (s.size : Int) - 4 := IntWalk.i64_in _ (by omega)
  go_enter Try.func5, Try.ntmps5
  go_wp2_with fail
  refine (alive_any _).mono ?_
  rintro e w1 ⟨rfl, hk1⟩
  have hb1 := hb.keep hk1
  have hK1 := (Kp.one w (.cells #[.int .u8 y0, .int .u8 y1, .int .u8 y2, .int .u8 y3] 30)).trans hk1
  obtain ⟨c0, c1, c2, c3⟩ : w1.cell? ⟨w.heap.size, 0, none⟩ = some (.int .u8 y0) ∧ w1.cell? ⟨w.heap.size, 1, none⟩ = some (.int .u8 y1) ∧ w1.cell? ⟨w.heap.size, 2, none⟩ = some (.int .u8 y2) ∧ w1.cell? ⟨w.heap.size, 3, none⟩ = some (.int .u8 y3) := ⟨hb1.cell 0, hb1.cell 1, hb1.cell 2, hb1.cell 3⟩
  obtain ⟨W1, c, hcv, hby, hkb, hsz⟩ := bytes_of w1 s 9 Try.underlying9
  have HBK := Lib.hid (hb1.keep hkb)
  have hG : w.heap.size < w1.heap.size := hb1.lt
  have HK := Lib.hid (hK1.trans hkb)
  rw [sb_nb] at hby
  clear hb hk1 hb1 hkb
  have hstart : ∃ a : Nat, a + 4 ≤ s.size ∧ ((at' < 0 ∨ (0 ≤ at' ∧ (s.size : Int) - 4 < at')) ∧ a = 0 ∨ (0 ≤ at' ∧ at' ≤ (s.size : Int) - 4) ∧ at' = a) := by
    rcases hcases with h | h | h
    · exact ⟨0, by omega, Or.inl ⟨Or.inl h, rfl⟩⟩
    · exact ⟨0, by omega, Or.inl ⟨Or.inr h, rfl⟩⟩
    · exact ⟨at'.toNat, by omega, Or.inr ⟨h, by omega⟩⟩
  obtain ⟨a, ha, hst⟩ := hstart
  clear hcases
  rcases hst with ⟨hst, rfl⟩ | ⟨⟨h1, h2⟩, rfl⟩
  · rcases hst with hst | ⟨h1, h2⟩
    all_goals
      go_wp2_with fail
      go_loopw [8] (fun i wr => ∃ k : Nat, k ≤ 4 ∧ i = .int .i64 k ∧ By wr w1.heap.size ((turned (nb s) 0 [y0, y1, y2, y3] k).map fun (n : Nat) => (n : Int)) ∧ Bk wr w.heap.size 30 [.int .u8 y0, .int .u8 y1, .int .u8 y2, .int .u8 y3] ∧ Kp w wr) (fun i _ => 4 - (intOf i).toNat)
      case atStart => exact ⟨0, by omega, rfl, hby, HBK.out, HK.out⟩
      case round =>
        obtain ⟨k, hk, rfl, hBr, hbr, hKr⟩ := hrel
        clear c0 c1 c2 c3 hby hcv
        by_cases hlt : k < 4
        · obtain ⟨e1, f1⟩ := burst_cell s 0 k [y0, y1, y2, y3] (by omega) wr _ hBr
          have e2 : wr.cell? ⟨w.heap.size, k, none⟩ = some (.int .u8 (([y0, y1, y2, y3] : List Nat).getD k 0 : Nat)) := by
            rw [hbr.cell]
            obtain rfl | rfl | rfl | rfl : k = 0 ∨ k = 1 ∨ k = 2 ∨ k = 3 := by omega
            all_goals rfl
          have hput := (burst_put s 0 k [y0, y1, y2, y3] (by omega) wr _ hBr).drew
          have hput2 := (hbr.far (p := ⟨w1.heap.size, 0 + k, none⟩) (by simp; omega) (.int .u8 (((nb s).getD (0 + k) 0 ^^^ ([y0, y1, y2, y3] : List Nat).getD k 0 : Nat) : Int))).drew
          have hput3 := (hKr.set (p := ⟨w1.heap.size, 0 + k, none⟩) (by simp; omega) (.int .u8 (((nb s).getD (0 + k) 0 ^^^ ([y0, y1, y2, y3] : List Nat).getD k 0 : Nat) : Int))).drew
          have g1 := getD_lt (nb s) (nb_lt s) (0 + k)
          have g2 := getD_lt [y0, y1, y2, y3] (by simp; omega) k
          have HX := Lib.hid (u8_xor_nat _ _ g1 g2)
          have q1 : IntKind.i64.wrap (k : Int) = (k : Int) := IntWalk.i64_in _ (by omega)
          have q3 : (k : Int) < (s.size : Int) := by omega
          simp only [Nat.zero_add] at e1 f1 hput hput2 hput3 g1 HX
          generalize (nb s).getD (k) 0 = v1 at *
          generalize ([y0, y1, y2, y3] : List Nat).getD k 0 = v2 at *
          go_wp2_with fail
          go_region
          all_goals
            go_wp2_with fail
            rw [HX.out]
            go_roundw
            case rel => exact ⟨k + 1, by omega, by go_num, hput, hput2, hput3⟩
            case measure => simp [intOf]; omega
        · obtain rfl : k = 4 := by omega
          have hcv2 := hBr.conv (n := s.size) (c := c) (by rw [List.length_map, turned_len, nb_len])
          have hne := HL.out 0 (by omega)
          have hsz2 : (strN (turned (nb s) 0 [y0, y1, y2, y3] 4)).size = s.size := by rw [strN_size, turned_len, nb_len]
          rw [show strOfNums ((turned (nb s) 0 [y0, y1, y2, y3] 4).map fun (n : Nat) => (n : Int)) = strN (turned (nb s) 0 [y0, y1, y2, y3] 4) from rfl] at hcv2
          generalize strN (turned (nb s) 0 [y0, y1, y2, y3] 4) = z at *
          have hsz3 : z.size ≤ 9223372036854775807 := by omega
          have hd : ((crcN z : Int) != (crcN s : Int)) = true := by simp; omega
          have hs9 : s.size ≤ 9223372036854775807 := by omega
          clear hsz2 hne HL
          go_wp2_with fail
          refine (sum1 z hsz3 _ _ (one_cell _ _ _)).mono ?_
          rintro e w3 ⟨rfl, rfl⟩
          go_wp2_with fail
          refine (sum1 s hs9 _ _ (one_cellB _ _ _ _ (by simp))).mono ?_
          rintro e w3 ⟨rfl, rfl⟩
          go_wp2_with fail
          go_ret
          exact ⟨rfl, (hKr.alloc _).alloc _⟩
  · go_wp2_with fail
    go_loopw [8] (fun i wr => ∃ k : Nat, k ≤ 4 ∧ i = .int .i64 k ∧ By wr w1.heap.size ((turned (nb s) a [y0, y1, y2, y3] k).map fun (n : Nat) => (n : Int)) ∧ Bk wr w.heap.size 30 [.int .u8 y0, .int .u8 y1, .int .u8 y2, .int .u8 y3] ∧ Kp w wr) (fun i _ => 4 - (intOf i).toNat)
    case atStart => exact ⟨0, by omega, rfl, hby, HBK.out, HK.out⟩
    case round =>
      obtain ⟨k, hk, rfl, hBr, hbr, hKr⟩ := hrel
      clear c0 c1 c2 c3 hby hcv
      by_cases hlt : k < 4
      · obtain ⟨e1, f1⟩ := burst_cell s a k [y0, y1, y2, y3] (by omega) wr _ hBr
        have e2 : wr.cell? ⟨w.heap.size, k, none⟩ = some (.int .u8 (([y0, y1, y2, y3] : List Nat).getD k 0 : Nat)) := by
          rw [hbr.cell]
          obtain rfl | rfl | rfl | rfl : k = 0 ∨ k = 1 ∨ k = 2 ∨ k = 3 := by omega
          all_goals rfl
        have hput := (burst_put s a k [y0, y1, y2, y3] (by omega) wr _ hBr).drew
        have hput2 := (hbr.far (p := ⟨w1.heap.size, a + k, none⟩) (by simp; omega) (.int .u8 (((nb s).getD (a + k) 0 ^^^ ([y0, y1, y2, y3] : List Nat).getD k 0 : Nat) : Int))).drew
        have hput3 := (hKr.set (p := ⟨w1.heap.size, a + k, none⟩) (by simp; omega) (.int .u8 (((nb s).getD (a + k) 0 ^^^ ([y0, y1, y2, y3] : List Nat).getD k 0 : Nat) : Int))).drew
        have g1 := getD_lt (nb s) (nb_lt s) (a + k)
        have g2 := getD_lt [y0, y1, y2, y3] (by simp; omega) k
        have HX := Lib.hid (u8_xor_nat _ _ g1 g2)
        have q1 : IntKind.i64.wrap ((a : Int) + (k : Int)) = (a : Int) + (k : Int) := IntWalk.i64_in _ (by omega)
        have q2 : 0 ≤ (a : Int) + (k : Int) := by omega
        have q3 : (a : Int) + (k : Int) < (s.size : Int) := by omega
        have q4 : ((a : Int) + (k : Int)).toNat = a + k := by omega
        generalize (nb s).getD (a + k) 0 = v1 at *
        generalize ([y0, y1, y2, y3] : List Nat).getD k 0 = v2 at *
        go_wp2_with fail
        go_region
        all_goals
          go_wp2_with fail
          rw [HX.out]
          go_roundw
          case rel => exact ⟨k + 1, by omega, by go_num, hput, hput2, hput3⟩
          case measure => simp [intOf]; omega
      · obtain rfl : k = 4 := by omega
        have hcv2 := hBr.conv (n := s.size) (c := c) (by rw [List.length_map, turned_len, nb_len])
        have hne := HL.out a (by omega)
        have hsz2 : (strN (turned (nb s) a [y0, y1, y2, y3] 4)).size = s.size := by rw [strN_size, turned_len, nb_len]
        rw [show strOfNums ((turned (nb s) a [y0, y1, y2, y3] 4).map fun (n : Nat) => (n : Int)) = strN (turned (nb s) a [y0, y1, y2, y3] 4) from rfl] at hcv2
        generalize strN (turned (nb s) a [y0, y1, y2, y3] 4) = z at *
        have hsz3 : z.size ≤ 9223372036854775807 := by omega
        have hd : ((crcN z : Int) != (crcN s : Int)) = true := by simp; omega
        have hs9 : s.size ≤ 9223372036854775807 := by omega
        clear hsz2 hne HL
        go_wp2_with fail
        refine (sum1 z hsz3 _ _ (one_cell _ _ _)).mono ?_
        rintro e w3 ⟨rfl, rfl⟩
        go_wp2_with fail
        refine (sum1 s hs9 _ _ (one_cellB _ _ _ _ (by simp))).mono ?_
        rintro e w3 ⟨rfl, rfl⟩
        go_wp2_with fail
        go_ret
        exact ⟨rfl, (hKr.alloc _).alloc _⟩
theorem CrcBurst_walk (w : World) (s : ByteArray) (hs : s.size ≤ 140737488351232) (at' : Int) (wa : (Lit.int .i64 at').wf = true) (y0 y1 y2 y3 : Int) (w0 : (Lit.int .u8 y0).wf = true) (w1 : (Lit.int .u8 y1).wf = true) (w2 : (Lit.int .u8 y2).wf = true) (w3 : (Lit.int .u8 y3).wf = true) :
    Calls Try.prog 5 #[.string s, .int .i64 at', .agg #[.int .u8 y0, .int .u8 y1, .int .u8 y2, .int .u8 y3]] w fun e w' => e = .returned (.bool true) ∧ Kp w w' := by
  have ba := bounds_i64 wa
  have b0 := bounds_u8 w0
  have b1 := bounds_u8 w1
  have b2 := bounds_u8 w2
  have b3 := bounds_u8 w3
  by_cases h4 : s.size < 4
  · exact burst_no w s hs at' y0 y1 y2 y3 (Or.inl h4)
  · rcases hz : (y0 == 0 && (y1 == 0 && (y2 == 0 && y3 == 0))) with _ | _
    · obtain ⟨n0, rfl⟩ : ∃ n : Nat, y0 = n := ⟨y0.toNat, by omega⟩
      obtain ⟨n1, rfl⟩ : ∃ n : Nat, y1 = n := ⟨y1.toNat, by omega⟩
      obtain ⟨n2, rfl⟩ : ∃ n : Nat, y2 = n := ⟨y2.toNat, by omega⟩
      obtain ⟨n3, rfl⟩ : ∃ n : Nat, y3 = n := ⟨y3.toNat, by omega⟩
      exact burst_yes w s hs at' ba n0 n1 n2 n3 (by omega) (by omega) (by omega) (by omega) (by omega) hz
    · exact burst_no w s hs at' y0 y1 y2 y3 (Or.inr ⟨by omega, hz⟩)
end Go.Proofs.Ytinkookmjnflhaa
