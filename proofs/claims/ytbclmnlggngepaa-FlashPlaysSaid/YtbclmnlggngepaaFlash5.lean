/- The contracts of package flash: Program. -/
import Derived.Test.YtbclmnlggngepaaFlash4
namespace Go.Proofs.Ytbclmnlggngepaa
open Go.RowKit
set_option linter.unusedVariables false

theorem info_write : (Try.prog.info? 67).map (fun i => (i.zero, i.size, i.bytes)) = some (some (.agg #[.int .i64 0, .string ⟨#[]⟩]), 2, 24) := by kernel_rfl
section
variable {P : Program} {w : World} {e : TypeId} {size n : Nat} {v : Value} {xs : List Value}
/-- append onto a row that lies wherever. -/
theorem wpList_app0 {ops : Array Oper} {rest : List Oper} {o : Oper} {a : Act} {Q : Exit → Act → World → Prop} (hgd : o.guard = none) (s x : Operand) (t : TypeId)
    (ho : o.op = .call { callee := .builtin .append, args := #[s, x], argTypes := #[t, t] }) (z : Value) (bytes : Nat)
    (ht : P.underlying t = some (.slice e)) (hinfo : (P.info? e).map (fun i => (i.zero, i.size, i.bytes)) = some (some z, size, bytes)) (hzs : z.cells.size = size) (hsz : 0 < size) (hb0 : 0 < bytes)
    (hs : a.eval s = v) (hown : w.ownsRow 0 e size v n xs) (A : Option Addr) (m c : Nat) (news : List Value) (hx : a.eval x = .slice A m c) (hl : news.length = m * size) (hsrc : Src w A news) (h1 : ∀ u ∈ news, u.oneCell' = true)
    (hbytes : (n + m) * bytes ≤ 140737488355328)
    (h : ∀ v' w', w'.ownsRow 0 e size v' (n + m) (xs ++ news) → w.grownBy w' v.ownBlock → (v'.ownBlock = v.ownBlock ∨ v'.ownBlock = some w.heap.size) → wpList P ops Q rest (a.put o.dst v') w') :
    wpList P ops Q (o :: rest) a w := by
  obtain ⟨v', w', hr, h2, h3, h5⟩ := run_app (P := P) (w := w) t o.type z bytes ht hinfo hzs hsz hb0 hown A m c news hl hsrc h1 hbytes (Nat.zero_le _)
  have H := h v' w' h2 h3 h5
  refine wpList_plain hgd fun K hK => ?_
  unfold Oper.wp execOp
  simp only [ho, resolve, invoke, builtin, Sem.run_bind, Sem.run_pure, Result.andThen_ok, List.map_toArray, List.map_cons, List.map_nil, hs, hx, hr]
  exact hK _ _ H
end
theorem src_two (W : World) (a b : Value) (t : TypeId) (n : Nat) (hn : W.heap.size = n) : Src (W.alloc (.cells #[a, b] t)) (some ⟨n, 0, none⟩) [a, b] := by
  subst hn
  intro _
  have hb := Bk.new W t [a, b]
  refine ⟨W.heap.size, 0, rfl, fun j hj => ?_⟩
  rw [Nat.zero_add, hb.cell j, List.getElem?_eq_getElem hj]
section
variable {W : World} {g ib ic : Nat} {p s r : Int} {d : Dev} {v : Value}
/-- One more is pending. -/
theorem FlAt.push {w1 w' : World} {v' : Value} (h : FlAt W g ib ic p s r d v) (hk : Kp W w1) (x : Int × ByteArray) (hown : w'.ownsRow 0 67 2 v' (d.row.length + 1) (rcells d.row ++ [.int .i64 x.1, .string x.2])) (hg : w1.grownBy w' v.ownBlock) (hat : v'.ownBlock = v.ownBlock ∨ v'.ownBlock = some w1.heap.size) :
    (∀ i, w'.frozen? ⟨g, i, none⟩ = false) ∧ w'.cell? ⟨g, 4, none⟩ = some v ∧ FlAt (w'.setCell ⟨g, 4, none⟩ v') g ib ic p s r { d with row := d.row ++ [x] } v' ∧ FlMv W (w'.setCell ⟨g, 4, none⟩ v') g ib v v' := by
  have h1 := h.keep hk
  have lt1 := h1.foot_lt
  have gg : ∀ k, v'.ownBlock = some k → k ≠ g ∧ k ≠ ib := by
    intro k hk'
    rcases hat with e | e
    · exact h.vne k (e ▸ hk')
    · rw [e] at hk'
      injection hk' with hk'
      have a1 := lt1 g (by simp [foot])
      have a2 := lt1 ib (by simp [foot])
      exact ⟨by omega, by omega⟩
  have ng : some g ≠ v.ownBlock := fun e => (h.vne g e.symm).1 rfl
  have ni : some ib ≠ v.ownBlock := fun e => (h.vne ib e.symm).2 rfl
  have hb' : Bk w' g 65 [.int .i64 p, .int .i64 s, .int .i64 r, .slice (some ⟨ib, 0, none⟩) d.img.length ic, v, .bool d.down, .bool d.set, .int .i64 d.left] := (hg.block g h1.box.lt ng).trans h1.box
  have hi' : By w' ib (ints d.img) := h1.img.same (hg.block ib h1.img.lt ni)
  refine ⟨fun i => hb'.free i, hb'.cell 4, ⟨hb'.put 4 v', hi'.far (p := ⟨g, 4, none⟩) (Ne.symm h.ne) _, ?_, h.ne, h.capok, gg⟩, ?_, ?_⟩
  · have := own_set hown (p := ⟨g, 4, none⟩) (fun k hk' => (gg k hk').1) v'
    show World.ownsRow _ 0 _ 2 v' (d.row ++ [x]).length (rcells (d.row ++ [x]))
    rw [List.length_append, rcells_app]
    exact this
  · refine Mv.set (Mv.grown (Mv.of hk) hg (fun k hk' => by simp [foot, hk'])) (by simp [foot]) _
  · intro k hk'
    rcases hat with e | e
    · exact Or.inl (e ▸ hk')
    · rw [e] at hk'
      injection hk' with hk'
      have := hk.size
      exact Or.inr (by omega)
def programD (p s r : Int) (d : Dev) (page : Int) (b : ByteArray) : Dev × Int :=
  if (readD p s r d page).2 ≠ 0 then (d, (readD p s r d page).2)
  else if (b.size : Int) ≠ p then (d, 1)
  else if (pendV d.row page).2 = true ∨ (readD p s r d page).1 ≠ blankS p then (d, 7)
  else ((countD { d with row := d.row ++ [(page, b)] }).1, if (countD { d with row := d.row ++ [(page, b)] }).2 = true then 6 else 0)
def FlPost (W : World) (g ib ic : Nat) (p s r : Int) (v : Value) (dc : Dev × Int) (e : Ending) (w' : World) : Prop := e = .returned (.int .i64 dc.2) ∧ ∃ v', FlAt w' g ib ic p s r dc.1 v' ∧ FlMv W w' g ib v v'
theorem beq_bytes (a b : ByteArray) : (a.toList == b.toList) = decide (a = b) := by
  rw [Bool.eq_iff_iff]
  simp only [beq_iff_eq, decide_eq_true_eq, ByteArray.toList_eq]
  exact ⟨fun h => ByteArray.ext (Array.toList_inj.1 h), fun h => by rw [h]⟩
set_option maxRecDepth 20000 in
set_option maxHeartbeats 3200000 in
theorem fprogram (h : FlAt W g ib ic p s r d v) (ok : DevOk p s r d) (page : Int) (b : ByteArray) (hb : b.size ≤ 9223372036854775807) :
    Calls Try.prog 24 #[.pointer (some ⟨g, 0, none⟩), .int .i64 page, .string b] W (FlPost W g ib ic p s r v (programD p s r d page b)) := by
  have HRD := Lib.hid (fread_any h ok page)
  have HC := Lib.hid (fun W' (k : Kp W W') => (h.keep k).c8)
  have hrl := ok.rl
  by_cases he : (readD p s r d page).2 = 0
  · by_cases hsz : (b.size : Int) = p
    · have hpgs : 0 ≤ page ∧ page < s * r := by
        unfold readD at he
        by_cases hdn : d.down = true
        · rw [if_pos hdn] at he; simp at he
        · rw [if_neg hdn] at he
          by_cases hp2 : page < 0 ∨ s * r ≤ page
          · rw [if_pos hp2] at he; simp at he
          · omega
      have hd : ((b.size : Int) != p) = false := by simp [hsz]
      have HPE := Lib.hid (fun W' (k : Kp W W') => fpend (h.keep k) (by omega) page)
      have HBL := Lib.hid (fun W' (k : Kp W W') => fblank (h.keep k) ok.right)
      have HRW := Lib.hid (fun W' (k : Kp W W') => (h.keep k).own)
      have HPG : programD p s r d page b = if (pendV d.row page).2 = true ∨ (readD p s r d page).1 ≠ blankS p then (d, 7) else ((countD { d with row := d.row ++ [(page, b)] }).1, if (countD { d with row := d.row ++ [(page, b)] }).2 = true then 6 else 0) := by
        unfold programD
        rw [if_neg (by simpa using he), if_neg (by simpa using hsz)]
      rw [HPG]
      clear HPG
      rw [he] at HRD
      clear he
      generalize (readD p s r d page).1 = old at *
      have HCN := Lib.hid (fun W' v' (k : FlAt W' g ib ic p s r { d with row := d.row ++ [(page, b)] } v') => fcount k (by exact ok.left))
      generalize hcd : countD { d with row := d.row ++ [(page, b)] } = cd at *
      obtain ⟨cd, cb⟩ := cd
      generalize hpv : pendV d.row page = pv at *
      have HPV := Lib.hid hpv
      clear hpv
      obtain ⟨pb, pf⟩ := pv
      dsimp only at HPE ⊢
      rcases pf with _ | _
      · have HSZ := Lib.hid hsz
        by_cases hbl : old = blankS p
        · rw [if_neg (by simp [hbl])]
          have HCD := Lib.hid hcd
          clear hcd
          generalize hcode : (if cb = true then (6 : Int) else 0) = code
          have HCO := Lib.hid hcode
          clear hcode
          have hde : decide (old = blankS p) = true := by simp [hbl]
          have hbe : (old.toList == (blankS p).toList) = true := by rw [beq_bytes]; exact hde
          clear hsz
          have HOL := Lib.hid hbl
          clear hbl
          generalize blankS p = bl at *
          go_enter Try.func24, Try.ntmps24
          go_wp2_with fail
          refine (HRD.out).mono ?_
          rintro e w1 ⟨rfl, hk1⟩
          obtain ⟨c0, c1, c2, c3, c4, c5, c6, c7⟩ := HC.out _ hk1
          go_wp2_with fail
          refine (HPE.out _ hk1).mono ?_
          rintro e w2 ⟨rfl, hk2⟩
          go_wp2_with fail
          refine (HBL.out _ (hk1.trans hk2)).mono ?_
          rintro e w3 ⟨rfl, hk3⟩
          have hK3 := (hk1.trans hk2).trans hk3
          have HC3 := Lib.hid (fun O => HC.out _ (hK3.trans (Kp.one w3 O)))
          have HO3 := Lib.hid (fun O => HRW.out _ (hK3.trans (Kp.one w3 O)))
          clear c0 c1 c2 c3 c4 c5 c6 c7
          have c4 := (HC.out _ hK3).2.2.2.2.1
          have hown3 := own_keep (h.keep hK3).own (Kp.one w3 (.cells #[.int .i64 page, .string b] 67))
          have hk4 := hK3.trans (Kp.one w3 (.cells #[.int .i64 page, .string b] 67))
          have HPU := Lib.hid (fun w' v' a1 a2 a3 => h.push hk4 (x := (page, b)) (w' := w') (v' := v') a1 a2 a3)
          go_wp2_with (at_builtin; refine wpList_app0 rfl _ _ _ rfl (.agg #[.int .i64 0, .string ⟨#[]⟩]) 24 Try.underlying63 info_write rfl (by decide) (by decide) rfl hown3 (some ⟨w3.heap.size, 0, none⟩) 1 1 [.int .i64 page, .string b] rfl rfl (src_two _ _ _ _ _ rfl) (by simp [Value.oneCell']) (by omega) ?_; intro v1 w4 hown1 hg1 hat1; obtain ⟨A1, c1, rfl⟩ := own_slice hown1; obtain ⟨z1, z2, z3, z4⟩ := HPU.out w4 _ hown1 hg1 hat1; have f4 := z1 4; have HZ4 := Lib.hid z4; have HZ3 := Lib.hid z3; clear z1 z3 z4 hg1 hat1 hown1 HPU HC)
          refine (HCN.out _ _ HZ3.out).mono ?_
          rintro e w5 ⟨rfl, hf5, hm5⟩
          rw [HCD.out] at hf5
          rw [HCD.out]
          have hfin : FlPost W g ib ic p s r v (cd, code) (.returned (.int .i64 code)) w5 := ⟨rfl, _, hf5, HZ4.out.trans hm5⟩
          have HFIN := Lib.hid hfin
          clear hfin
          dsimp only
          have hco := HCO.out
          rcases cb with _ | _
          · have : code = 0 := by rw [← hco]; rfl
            subst this
            go_wp2_with fail
            go_ret
            exact HFIN.out
          · have : code = 6 := by rw [← hco]; rfl
            subst this
            go_wp2_with fail
            go_ret
            exact HFIN.out
        · rw [if_pos (Or.inr hbl)]
          have hde : decide (old = blankS p) = false := by simp [hbl]
          have hbe : (old.toList == (blankS p).toList) = false := by rw [beq_bytes]; exact hde
          clear hsz hbl
          generalize blankS p = bl at *
          go_enter Try.func24, Try.ntmps24
          go_wp2_with fail
          refine (HRD.out).mono ?_
          rintro e w1 ⟨rfl, hk1⟩
          obtain ⟨c0, c1, c2, c3, c4, c5, c6, c7⟩ := HC.out _ hk1
          go_wp2_with fail
          refine (HPE.out _ hk1).mono ?_
          rintro e w2 ⟨rfl, hk2⟩
          go_wp2_with fail
          refine (HBL.out _ (hk1.trans hk2)).mono ?_
          rintro e w3 ⟨rfl, hk3⟩
          have hK3 := (hk1.trans hk2).trans hk3
          go_wp2_with fail
          go_ret
          exact ⟨rfl, v, h.keep hK3, FlMv.of hK3⟩
      · rw [if_pos (Or.inl rfl)]
        clear hsz
        go_enter Try.func24, Try.ntmps24
        go_wp2_with fail
        refine (HRD.out).mono ?_
        rintro e w1 ⟨rfl, hk1⟩
        obtain ⟨c0, c1, c2, c3, c4, c5, c6, c7⟩ := HC.out _ hk1
        go_wp2_with fail
        refine (HPE.out _ hk1).mono ?_
        rintro e w2 ⟨rfl, hk2⟩
        go_wp2_with fail
        go_ret
        exact ⟨rfl, v, h.keep (hk1.trans hk2), FlMv.of (hk1.trans hk2)⟩
    · have e1 : programD p s r d page b = (d, 1) := by unfold programD; rw [if_neg (by simpa using he), if_pos hsz]
      rw [e1]
      rw [he] at HRD
      have hd : ((b.size : Int) != p) = true := by simp [hsz]
      generalize (readD p s r d page).1 = old at *
      clear e1 he hsz
      go_enter Try.func24, Try.ntmps24
      go_wp2_with fail
      refine (HRD.out).mono ?_
      rintro e w1 ⟨rfl, hk1⟩
      obtain ⟨c0, c1, c2, c3, c4, c5, c6, c7⟩ := HC.out _ hk1
      go_wp2_with fail
      go_ret
      exact ⟨rfl, v, h.keep hk1, FlMv.of hk1⟩
  · have e1 : programD p s r d page b = (d, (readD p s r d page).2) := by unfold programD; rw [if_pos he]
    rw [e1]
    have hd : ((readD p s r d page).2 != 0) = true := by simp [he]
    generalize (readD p s r d page).1 = old at *
    generalize (readD p s r d page).2 = c at *
    clear e1 he
    go_enter Try.func24, Try.ntmps24
    go_wp2_with fail
    refine (HRD.out).mono ?_
    rintro e w1 ⟨rfl, hk1⟩
    go_wp2_with fail
    go_ret
    exact ⟨rfl, v, h.keep hk1, FlMv.of hk1⟩
end
end Go.Proofs.Ytbclmnlggngepaa
