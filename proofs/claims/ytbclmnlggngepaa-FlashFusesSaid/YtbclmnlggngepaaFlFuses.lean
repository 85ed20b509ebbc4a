/- FlashFuses. -/
import Derived.Test.YtbclmnlggngepaaFlTorn
namespace Go.Proofs.Ytbclmnlggngepaa
open Go.RowKit
set_option linter.unusedVariables false
def fzRow (k : Nat) : Rw := (List.range k).map fun (i : Nat) => ((i : Int), fillS 1 32)
theorem fzRow_succ (k : Nat) : fzRow (k + 1) = fzRow k ++ [((k : Int), fillS 1 32)] := by
  unfold fzRow
  rw [List.range_succ, List.map_append]
  rfl
theorem fzRow_len (k : Nat) : (fzRow k).length = k := by simp [fzRow]
theorem fzRow_pend (page : Int) : ∀ k : Nat, (k : Int) ≤ page → pend (fzRow k) page = none
  | 0, _ => rfl
  | k + 1, h => by
    rw [fzRow_succ, pend_snoc, if_neg (by show ¬ ((k : Int) = page); omega)]
    exact fzRow_pend page k (by omega)
def fzD (n k : Nat) : Dev := if k ≤ n then ⟨al0.img, fzRow k, false, true, (n : Int) - k⟩ else ⟨al0.img, fzRow k, true, false, 0⟩
theorem fzD_zero (n : Nat) : fuseD al0 (n : Int) = fzD n 0 := by
  unfold fuseD fzD
  rw [if_pos (by omega)]
  show (⟨al0.img, [], false, decide (0 ≤ (n : Int)), (n : Int)⟩ : Dev) = ⟨al0.img, [], false, true, (n : Int) - (0 : Nat)⟩
  have h1 : decide (0 ≤ (n : Int)) = true := by simp
  have h2 : (n : Int) - ((0 : Nat) : Int) = n := by omega
  rw [h1, h2]
theorem fzD_len (n k : Nat) : (fzD n k).row.length = k := by
  unfold fzD
  split <;> exact fzRow_len k
theorem fzD_down (n k : Nat) (h : k ≤ n) : (fzD n k).down = false := by unfold fzD; rw [if_pos h]
theorem fz_bad (n k : Nat) (h : k ≤ n) (page : Int) (b : ByteArray) (hb : b.size = 1) : programD 32 3 4 (fzD n k) page b = (fzD n k, 1) := by
  by_cases hp : page < 0 ∨ (3 : Int) * 4 ≤ page
  · have e : readD 32 3 4 (fzD n k) page = (⟨#[]⟩, 1) := by unfold readD; rw [if_neg (by rw [fzD_down n k h]; simp), if_pos hp]
    unfold programD
    rw [e, if_pos (by simp)]
  · have e : readD 32 3 4 (fzD n k) page = (heldD (fzD n k) 32 page, 0) := by unfold readD; rw [if_neg (by rw [fzD_down n k h]; simp), if_neg hp]
    unfold programD
    rw [e, if_neg (by simp), if_pos (by rw [hb]; simp)]
theorem fz_count (n k : Nat) (h : k ≤ n) : countD ⟨al0.img, fzRow (k + 1), false, true, (n : Int) - k⟩ = (fzD n (k + 1), decide (k = n)) := by
  unfold countD
  rw [if_neg (by simp)]
  by_cases hk : k = n
  · rw [if_pos (by show (n : Int) - k = 0; omega)]
    have e0 : (n : Int) - k = 0 := by omega
    have e1 : fzD n (k + 1) = ⟨al0.img, fzRow (k + 1), true, false, 0⟩ := by unfold fzD; rw [if_neg (by omega)]
    rw [e1, show decide (k = n) = true by simpa using hk]
    show ((⟨al0.img, fzRow (k + 1), true, false, (n : Int) - k⟩ : Dev), true) = _
    rw [e0]
  · rw [if_neg (by show ¬ ((n : Int) - k = 0); omega)]
    have e1 : fzD n (k + 1) = ⟨al0.img, fzRow (k + 1), false, true, (n : Int) - (k + 1 : Nat)⟩ := by unfold fzD; rw [if_pos (by omega)]
    have e0 : (n : Int) - k - 1 = (n : Int) - ((k + 1 : Nat) : Int) := by omega
    rw [e1, show decide (k = n) = false by simpa using hk, ← e0]
theorem fz_step (n k : Nat) (h : k ≤ n) (hn : n ≤ 8) : programD 32 3 4 (fzD n k) (k : Int) (fillS 1 32) = (fzD n (k + 1), if k = n then 6 else 0) := by
  rw [program_fresh (k : Int) (fillS 1 32) (fzD_down n k h) (by omega) (by omega) (by rw [fillS_size]; rfl) ?_ ?_]
  · have e : ({ fzD n k with row := (fzD n k).row ++ [((k : Int), fillS 1 32)] } : Dev) = ⟨al0.img, fzRow (k + 1), false, true, (n : Int) - k⟩ := by
      unfold fzD
      rw [if_pos h, fzRow_succ]
    rw [e]
    rw [fz_count n k h]
    by_cases hk : k = n
    · rw [if_pos hk, if_pos (by simpa using hk)]
    · rw [if_neg hk, if_neg (by simpa using hk)]
  · unfold fzD
    rw [if_pos h]
    exact fzRow_pend _ k (by omega)
  · unfold fzD
    rw [if_pos h]
    exact al0_page (k : Int) (by omega) (by omega)
theorem fz_end (n : Nat) : (fzD n (n + 1)).down = true ∧ (readD 32 3 4 (fzD n (n + 1)) 0).2 = 6 ∧ flushD 32 (fzD n (n + 1)) = (fzD n (n + 1), 6) ∧ eraseD 32 3 4 (fzD n (n + 1)) 0 = (fzD n (n + 1), 6) := by
  have hd : (fzD n (n + 1)).down = true := by unfold fzD; rw [if_neg (by omega)]
  refine ⟨hd, ?_, ?_, ?_⟩
  · unfold readD; rw [if_pos hd]
  · unfold flushD; rw [if_pos hd]
  · unfold eraseD; rw [if_pos hd]
set_option maxRecDepth 20000 in
set_option maxHeartbeats 6400000 in
theorem FlashFuses_walk (w : World) (n0 : Int) (wn : (Lit.int .i64 n0).wf = true) (A : Option Addr) (c : Nat) (bad : List Int) (hB : NumsAt .i64 w A bad) (hb8 : bad.length * 8 ≤ 140737488351232) (hbw : ∀ x ∈ bad, (Lit.int .i64 x).wf = true) :
    Calls Try.prog 6 #[.int .i64 n0, .slice A bad.length c] w fun e w' => e = .returned (.bool true) ∧ Kp w w' := by
  have hn0 := bounds_i64 wn
  clear wn hbw
  have HPK := Lib.hid (fun w => pick_any n0 9 (by omega) (by omega) hn0.1 hn0.2 w)
  obtain ⟨n, hn, hn8⟩ : ∃ n : Nat, n0 % 9 = (n : Int) ∧ n ≤ 8 := ⟨(n0 % 9).toNat, by omega, by omega⟩
  rw [hn] at HPK
  clear hn hn0
  have hbl : bad.length ≤ 9223372036854775807 := by omega
  have HBK := Lib.hid (fun W' (k : Kp w W') => hB.keep k)
  have HFI := Lib.hid (fun W => fl_fill 1 32 (by omega) W)
  have HFU := Lib.hid (fun (w W : World) g ib ic v (h : FlS w W g ib ic 32 3 4 al0 v) => fuse_S h (n : Int) (by omega))
  rw [fzD_zero] at HFU
  have HBAD := Lib.hid (fun (k : Nat) (hk : k ≤ n) (x : Int) (w W : World) g ib ic v (h : FlS w W g ib ic 32 3 4 (fzD n k) v) => show Calls _ _ _ _ (fun e w' => ∃ v', e = .returned (.int .i64 1) ∧ FlS w w' g ib ic 32 3 4 (fzD n k) v') from by
    have := prog_S h (by rw [fzD_len]; omega) x ⟨#[120]⟩ (by decide)
    rw [fz_bad n k hk x _ rfl] at this
    exact this)
  have HSTP := Lib.hid (fun (k : Nat) (hk : k ≤ n) (w W : World) g ib ic v (h : FlS w W g ib ic 32 3 4 (fzD n k) v) => show Calls _ _ _ _ (fun e w' => ∃ v', e = .returned (.int .i64 (if k = n then 6 else 0)) ∧ FlS w w' g ib ic 32 3 4 (fzD n (k + 1)) v') from by
    have := prog_S h (by rw [fzD_len]; omega) (k : Int) (fillS 1 32) (by rw [fillS_size]; omega)
    rw [fz_step n k hk hn8] at this
    exact this)
  have HDN := Lib.hid (fun (k : Nat) (hk : k ≤ n) (w W : World) g ib ic v (h : FlS w W g ib ic 32 3 4 (fzD n k) v) => show Calls _ _ _ _ (fun e w' => e = .returned (.bool false) ∧ FlS w w' g ib ic 32 3 4 (fzD n k) v) from by
    have := down_S h
    rw [fzD_down n k hk] at this
    exact this)
  obtain ⟨z1, z2, z3, z4⟩ := fz_end n
  have HED := Lib.hid (fun (w W : World) g ib ic v (h : FlS w W g ib ic 32 3 4 (fzD n (n + 1)) v) => show Calls _ _ _ _ (fun e w' => e = .returned (.bool true) ∧ FlS w w' g ib ic 32 3 4 (fzD n (n + 1)) v) from by
    have := down_S h
    rw [z1] at this
    exact this)
  have HER := Lib.hid (fun (w W : World) g ib ic v (h : FlS w W g ib ic 32 3 4 (fzD n (n + 1)) v) => show Calls _ _ _ _ (fun e w' => e = .returned (.tuple #[.string (readD 32 3 4 (fzD n (n + 1)) 0).1, .int .i64 6]) ∧ FlS w w' g ib ic 32 3 4 (fzD n (n + 1)) v) from by
    have := read_S h 0
    rw [z2] at this
    exact this)
  have HEF := Lib.hid (fun (w W : World) g ib ic v (h : FlS w W g ib ic 32 3 4 (fzD n (n + 1)) v) => show Calls _ _ _ _ (fun e w' => ∃ v', e = .returned (.int .i64 6) ∧ FlS w w' g ib ic 32 3 4 (fzD n (n + 1)) v') from by
    have := flush_S h
    rw [z3] at this
    exact this)
  have HEE := Lib.hid (fun (w W : World) g ib ic v (h : FlS w W g ib ic 32 3 4 (fzD n (n + 1)) v) => show Calls _ _ _ _ (fun e w' => ∃ v', e = .returned (.int .i64 6) ∧ FlS w w' g ib ic 32 3 4 (fzD n (n + 1)) v') from by
    have := erase_S h (by rw [fzD_len]; omega) 0
    rw [z4] at this
    exact this)
  have HEP := Lib.hid (fun (w W : World) g ib ic v (h : FlS w W g ib ic 32 3 4 (fzD n (n + 1)) v) => show Calls _ _ _ _ (fun e w' => e = .returned (.int .i64 ((n : Int) + 1)) ∧ FlS w w' g ib ic 32 3 4 (fzD n (n + 1)) v) from by
    have := pending_S h
    rw [fzD_len] at this
    exact this)
  clear z1 z2 z3 z4 hB
  generalize (readD 32 3 4 (fzD n (n + 1)) 0).1 = rd at *
  generalize fillS 1 32 = F at *
  go_enter Try.func6, Try.ntmps6
  go_wp2_with fail
  refine (ftiny _).mono ?_
  rintro e w1 ⟨rfl, hk1⟩
  go_wp2_with fail
  refine (new0_S _).mono ?_
  rintro e w2 ⟨g, ib, ic, v, rfl, h2⟩
  go_wp2_with fail
  refine (falive _).mono ?_
  rintro e w3 ⟨rfl, hk3⟩
  go_wp2_with fail
  refine (HPK.out _).mono ?_
  rintro e w4 ⟨rfl, rfl⟩
  go_wp2_with fail
  refine (HFU.out _ _ _ _ _ _ (h2.keep hk3)).mono ?_
  rintro e w5 ⟨rfl, h5⟩
  clear h2 hk3
  go_wp2_with fail
  go_loopw [7] (fun i wr => ∃ (k : Nat) (v' : Value), k ≤ n + 1 ∧ i = .int .i64 k ∧ FlS w1 wr g ib ic 32 3 4 (fzD n k) v') (fun i _ => n + 1 - (intOf i).toNat)
  case atStart => exact ⟨0, v, by omega, rfl, h5⟩
  case round =>
    obtain ⟨k, v', hk, rfl, hr⟩ := hrel
    clear h5
    by_cases hlt : k ≤ n
    · have hle : (k : Int) ≤ (n : Int) := by omega
      have hBk := HBK.out _ (hk1.trans hr.kp)
      by_cases hkn : k = n
      · have hST := HSTP.out k hlt
        rw [if_pos hkn] at hST
        have HST := Lib.hid hST
        have de : ((k : Int) == (n : Int)) = true := by simp [hkn]
        clear hST
        have HLT := Lib.hid hlt
        clear hkn
        by_cases hb : k < bad.length
        · obtain ⟨bb, bo, rfl, hbc⟩ := hBk.2 (by omega)
          have hcell := hbc k hb
          have hb2 : (k : Int) < (bad.length : Int) := by omega
          generalize bad[k] = x at *
          clear hbc hBk
          go_wp2_with fail
          refine (HBAD.out k HLT.out x _ _ _ _ _ _ hr).mono ?_
          rintro e w6 ⟨v6, rfl, h6⟩
          go_wp2_with fail
          refine (HDN.out k HLT.out _ _ _ _ _ _ h6).mono ?_
          rintro e w7 ⟨rfl, h7⟩
          go_wp2_with fail
          refine (HFI.out _).mono ?_
          rintro e w8 ⟨rfl, hk8⟩
          go_wp2_with fail
          refine (HST.out _ _ _ _ _ _ (h7.keep hk8)).mono ?_
          rintro e w9 ⟨v9, rfl, h9⟩
          go_wp2_with fail
          go_roundw
          case rel => exact ⟨k + 1, v9, by omega, by go_num, h9⟩
          case measure => simp [intOf]; omega
        · have hb2 : (bad.length : Int) ≤ (k : Int) := by omega
          go_wp2_with fail
          refine (HDN.out k HLT.out _ _ _ _ _ _ hr).mono ?_
          rintro e w7 ⟨rfl, h7⟩
          go_wp2_with fail
          refine (HFI.out _).mono ?_
          rintro e w8 ⟨rfl, hk8⟩
          go_wp2_with fail
          refine (HST.out _ _ _ _ _ _ (h7.keep hk8)).mono ?_
          rintro e w9 ⟨v9, rfl, h9⟩
          go_wp2_with fail
          go_roundw
          case rel => exact ⟨k + 1, v9, by omega, by go_num, h9⟩
          case measure => simp [intOf]; omega
      · have hST := HSTP.out k hlt
        rw [if_neg hkn] at hST
        have HST := Lib.hid hST
        have de : ((k : Int) == (n : Int)) = false := by simp; omega
        clear hST
        have HLT := Lib.hid hlt
        by_cases hb : k < bad.length
        · obtain ⟨bb, bo, rfl, hbc⟩ := hBk.2 (by omega)
          have hcell := hbc k hb
          have hb2 : (k : Int) < (bad.length : Int) := by omega
          generalize bad[k] = x at *
          clear hbc hBk
          go_wp2_with fail
          refine (HBAD.out k HLT.out x _ _ _ _ _ _ hr).mono ?_
          rintro e w6 ⟨v6, rfl, h6⟩
          go_wp2_with fail
          refine (HDN.out k HLT.out _ _ _ _ _ _ h6).mono ?_
          rintro e w7 ⟨rfl, h7⟩
          go_wp2_with fail
          refine (HFI.out _).mono ?_
          rintro e w8 ⟨rfl, hk8⟩
          go_wp2_with fail
          refine (HST.out _ _ _ _ _ _ (h7.keep hk8)).mono ?_
          rintro e w9 ⟨v9, rfl, h9⟩
          go_wp2_with fail
          go_roundw
          case rel => exact ⟨k + 1, v9, by omega, by go_num, h9⟩
          case measure => simp [intOf]; omega
        · have hb2 : (bad.length : Int) ≤ (k : Int) := by omega
          go_wp2_with fail
          refine (HDN.out k HLT.out _ _ _ _ _ _ hr).mono ?_
          rintro e w7 ⟨rfl, h7⟩
          go_wp2_with fail
          refine (HFI.out _).mono ?_
          rintro e w8 ⟨rfl, hk8⟩
          go_wp2_with fail
          refine (HST.out _ _ _ _ _ _ (h7.keep hk8)).mono ?_
          rintro e w9 ⟨v9, rfl, h9⟩
          go_wp2_with fail
          go_roundw
          case rel => exact ⟨k + 1, v9, by omega, by go_num, h9⟩
          case measure => simp [intOf]; omega
    · have hke : k = n + 1 := by omega
      have hr' : FlS w1 wr g ib ic 32 3 4 (fzD n (n + 1)) v' := hke ▸ hr
      have HR := Lib.hid hr'
      have hgt : (n : Int) < (k : Int) := by omega
      clear hr hr' hke hlt hk
      go_wp2_with fail
      refine (HER.out _ _ _ _ _ _ HR.out).mono ?_
      rintro e w6 ⟨rfl, h6⟩
      go_wp2_with fail
      refine (HED.out _ _ _ _ _ _ h6).mono ?_
      rintro e w7 ⟨rfl, h7⟩
      go_wp2_with fail
      refine (HEF.out _ _ _ _ _ _ h7).mono ?_
      rintro e w8 ⟨v8, rfl, h8⟩
      go_wp2_with fail
      refine (HEE.out _ _ _ _ _ _ h8).mono ?_
      rintro e w9 ⟨v9, rfl, h9⟩
      go_wp2_with fail
      refine (HEP.out _ _ _ _ _ _ h9).mono ?_
      rintro e w10 ⟨rfl, h10⟩
      go_wp2_with fail
      go_ret
      exact ⟨ret_bool (by simp), hk1.trans h10.kp⟩
end Go.Proofs.Ytbclmnlggngepaa
