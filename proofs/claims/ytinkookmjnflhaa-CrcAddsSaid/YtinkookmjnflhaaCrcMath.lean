/- CRC-32 over natural numbers: the step is linear and injective; burst, tail, adds. No program in sight. -/
namespace Go.Proofs.Ytinkookmjnflhaa.Crc
def P : Nat := 3988292384
def s1 (x : Nat) : Nat := if x % 2 = 1 then (x / 2) ^^^ P else x / 2
theorem s1_lt (x : Nat) (h : x < 2^32) : s1 x < 2^32 := by
  unfold s1 P
  split
  · exact Nat.xor_lt_two_pow (by omega) (by decide)
  · omega
theorem xor_div2 (x y : Nat) : (x ^^^ y) / 2 = (x / 2) ^^^ (y / 2) := by
  have := Nat.xor_div_two_pow (a := x) (b := y) (n := 1)
  simpa using this
theorem xor_mod2 (x y : Nat) : (x ^^^ y) % 2 = (x % 2 + y % 2) % 2 := by
  have := Nat.xor_mod_two_pow (a := x) (b := y) (n := 1)
  simp at this
  rw [this]
  have hx : x % 2 = 0 ∨ x % 2 = 1 := by omega
  have hy : y % 2 = 0 ∨ y % 2 = 1 := by omega
  rcases hx with h | h <;> rcases hy with h' | h' <;> rw [h, h'] <;> rfl
theorem s1_xor (x y : Nat) : s1 (x ^^^ y) = s1 x ^^^ s1 y := by
  unfold s1
  rw [xor_div2, xor_mod2]
  have hx : x % 2 = 0 ∨ x % 2 = 1 := by omega
  have hy : y % 2 = 0 ∨ y % 2 = 1 := by omega
  rcases hx with h | h <;> rcases hy with h' | h' <;> rw [h, h'] <;> simp
  · ac_rfl
  · ac_rfl
  · rw [show x / 2 ^^^ P ^^^ (y / 2 ^^^ P) = (x/2 ^^^ y/2) ^^^ (P ^^^ P) by ac_rfl, Nat.xor_self, Nat.xor_zero]
theorem s1_zero : s1 0 = 0 := rfl
theorem s1_inj0 (x : Nat) (h : x < 2^32) (e : s1 x = 0) : x = 0 := by
  unfold s1 at e
  split at e
  · have : x / 2 = P := by
      have := congrArg (· ^^^ P) e
      simp only [Nat.xor_assoc, Nat.xor_self, Nat.xor_zero, Nat.zero_xor] at this
      exact this
    unfold P at this; omega
  · omega
theorem xor_eq0 {x y : Nat} (h : x ^^^ y = 0) : x = y := by
  have := congrArg (· ^^^ y) h
  simpa [Nat.xor_assoc] using this
theorem s1_inj (x y : Nat) (hx : x < 2^32) (hy : y < 2^32) (e : s1 x = s1 y) : x = y := by
  apply xor_eq0
  apply s1_inj0 _ (Nat.xor_lt_two_pow hx hy)
  rw [s1_xor, e, Nat.xor_self]

def s8 (x : Nat) : Nat := s1 (s1 (s1 (s1 (s1 (s1 (s1 (s1 x)))))))
theorem s8_lt (x : Nat) (h : x < 2^32) : s8 x < 2^32 := by
  unfold s8; repeat (first | exact h | apply s1_lt)
theorem s8_xor (x y : Nat) : s8 (x ^^^ y) = s8 x ^^^ s8 y := by
  unfold s8; simp only [s1_xor]
theorem s8_inj (x y : Nat) (hx : x < 2^32) (hy : y < 2^32) (e : s8 x = s8 y) : x = y := by
  unfold s8 at e
  have l := s1_lt
  apply s1_inj _ _ hx hy
  apply s1_inj _ _ (l _ hx) (l _ hy)
  apply s1_inj _ _ (l _ (l _ hx)) (l _ (l _ hy))
  apply s1_inj _ _ (l _ (l _ (l _ hx))) (l _ (l _ (l _ hy)))
  apply s1_inj _ _ (l _ (l _ (l _ (l _ hx)))) (l _ (l _ (l _ (l _ hy))))
  apply s1_inj _ _ (l _ (l _ (l _ (l _ (l _ hx))))) (l _ (l _ (l _ (l _ (l _ hy)))))
  apply s1_inj _ _ (l _ (l _ (l _ (l _ (l _ (l _ hx)))))) (l _ (l _ (l _ (l _ (l _ (l _ hy))))))
  exact s1_inj _ _ (l _ (l _ (l _ (l _ (l _ (l _ (l _ hx))))))) (l _ (l _ (l _ (l _ (l _ (l _ (l _ hy))))))) e
theorem s1_two (z : Nat) : s1 (2 * z) = z := by
  unfold s1; rw [if_neg (by omega)]; omega
theorem s8_shift (y : Nat) : s8 (256 * y) = y := by
  unfold s8
  rw [show 256 * y = 2 * (2 * (2 * (2 * (2 * (2 * (2 * (2 * y))))))) by omega]
  simp only [s1_two]
theorem split256 (a y : Nat) (h : a < 256) : a + 256 * y = a ^^^ 256 * y := by
  have h1 := Nat.two_pow_add_eq_or_of_lt (i := 8) (b := a) (by simpa using h) y
  have h2 : 2 ^ 8 * y ^^^ a = 2 ^ 8 * y ||| a := by
    apply Nat.eq_of_testBit_eq
    intro j
    rw [Nat.testBit_xor, Nat.testBit_or, Nat.testBit_two_pow_mul]
    by_cases hj : 8 ≤ j
    · have : a.testBit j = false := Nat.testBit_lt_two_pow (Nat.lt_of_lt_of_le h (by
        calc 256 = 2 ^ 8 := by decide
          _ ≤ 2 ^ j := Nat.pow_le_pow_right (by decide) hj))
      simp [this]
    · simp [hj]
  simp only [Nat.reducePow] at h1 h2
  rw [Nat.xor_comm a, h2, ← h1]; omega
theorem s8_word (c a y : Nat) (h : a < 256) : s8 (c ^^^ (a + 256 * y)) = s8 (c ^^^ a) ^^^ y := by
  rw [split256 a y h, ← Nat.xor_assoc, s8_xor (c ^^^ a), s8_shift]

def crcs (c : Nat) (l : List Nat) : Nat := l.foldl (fun c b => s8 (c ^^^ b)) c
theorem crcs_append (c : Nat) (l m : List Nat) : crcs c (l ++ m) = crcs (crcs c l) m := by simp [crcs]
theorem crcs_cons (c b : Nat) (m : List Nat) : crcs c (b :: m) = crcs (s8 (c ^^^ b)) m := rfl
theorem crcs_nil (c : Nat) : crcs c [] = c := rfl
def Bytes (l : List Nat) : Prop := ∀ b ∈ l, b < 256
theorem crcs_lt (l : List Nat) : ∀ c, c < 2^32 → Bytes l → crcs c l < 2^32 := by
  induction l with
  | nil => intro c h _; exact h
  | cons b l ih =>
    intro c h hb
    rw [crcs_cons]
    exact ih _ (s8_lt _ (Nat.xor_lt_two_pow h (by have := hb b (by simp); omega))) (fun x hx => hb x (by simp [hx]))
theorem crcs_inj (l : List Nat) : ∀ c d, c < 2^32 → d < 2^32 → Bytes l → crcs c l = crcs d l → c = d := by
  induction l with
  | nil => intro c d _ _ _ h; exact h
  | cons b l ih =>
    intro c d hc hd hb h
    have b32 : b < 2^32 := by have := hb b (by simp); omega
    rw [crcs_cons, crcs_cons] at h
    have h1 := ih _ _ (s8_lt _ (Nat.xor_lt_two_pow hc b32)) (s8_lt _ (Nat.xor_lt_two_pow hd b32)) (fun x hx => hb x (by simp [hx])) h
    have h2 := s8_inj _ _ (Nat.xor_lt_two_pow hc b32) (Nat.xor_lt_two_pow hd b32) h1
    have := congrArg (· ^^^ b) h2
    simpa [Nat.xor_assoc] using this
def word (a b c d : Nat) : Nat := a + 256 * (b + 256 * (c + 256 * d))
def s32 (x : Nat) : Nat := s8 (s8 (s8 (s8 x)))
theorem crcs_word (c a0 a1 a2 a3 : Nat) (h0 : a0 < 256) (h1 : a1 < 256) (h2 : a2 < 256) : crcs c [a0, a1, a2, a3] = s32 (c ^^^ word a0 a1 a2 a3) := by
  unfold word s32
  rw [s8_word _ _ _ h0, s8_word _ _ _ h1, s8_word _ _ _ h2]
  rfl
theorem word_lt (a b c d : Nat) (h0 : a < 256) (h1 : b < 256) (h2 : c < 256) (h3 : d < 256) : word a b c d < 2^32 := by unfold word; omega
theorem s32_inj (x y : Nat) (hx : x < 2^32) (hy : y < 2^32) (e : s32 x = s32 y) : x = y := by
  unfold s32 at e
  have l := s8_lt
  apply s8_inj _ _ hx hy
  apply s8_inj _ _ (l _ hx) (l _ hy)
  apply s8_inj _ _ (l _ (l _ hx)) (l _ (l _ hy))
  exact s8_inj _ _ (l _ (l _ (l _ hx))) (l _ (l _ (l _ hy))) e
theorem burst (c : Nat) (hc : c < 2^32) (p q : List Nat) (hp : Bytes p) (hq : Bytes q) (a0 a1 a2 a3 b0 b1 b2 b3 : Nat)
    (h0 : a0 < 256) (h1 : a1 < 256) (h2 : a2 < 256) (h3 : a3 < 256) (k0 : b0 < 256) (k1 : b1 < 256) (k2 : b2 < 256) (k3 : b3 < 256)
    (e : crcs c (p ++ ([a0, a1, a2, a3] ++ q)) = crcs c (p ++ ([b0, b1, b2, b3] ++ q))) : a0 = b0 ∧ a1 = b1 ∧ a2 = b2 ∧ a3 = b3 := by
  have hs := crcs_lt p c hc hp
  have hwa := word_lt a0 a1 a2 a3 h0 h1 h2 h3
  have hwb := word_lt b0 b1 b2 b3 k0 k1 k2 k3
  rw [crcs_append, crcs_append, crcs_append c p, crcs_append _ _ q, crcs_word _ _ _ _ _ h0 h1 h2, crcs_word _ _ _ _ _ k0 k1 k2] at e
  have l := s8_lt
  have e1 := crcs_inj q _ _ (by unfold s32; exact l _ (l _ (l _ (l _ (Nat.xor_lt_two_pow hs hwa))))) (by unfold s32; exact l _ (l _ (l _ (l _ (Nat.xor_lt_two_pow hs hwb))))) hq e
  have e2 := s32_inj _ _ (Nat.xor_lt_two_pow hs hwa) (Nat.xor_lt_two_pow hs hwb) e1
  have e3 := congrArg (crcs c p ^^^ ·) e2
  simp only [← Nat.xor_assoc, Nat.xor_self, Nat.zero_xor] at e3
  unfold word at e3
  omega
def F : Nat := 4294967295
theorem not32 (x : Nat) (h : x < 2^32) : 4294967295 - x = x ^^^ F := by
  have := BitVec.toNat_not (x := BitVec.ofNat 32 x)
  have h2 : (~~~ BitVec.ofNat 32 x) = BitVec.ofNat 32 x ^^^ BitVec.allOnes 32 := BitVec.xor_allOnes.symm
  rw [h2, BitVec.toNat_xor, BitVec.toNat_ofNat, BitVec.toNat_allOnes, Nat.mod_eq_of_lt h] at this
  unfold F; simp at this ⊢; omega
theorem tail (c a0 a1 a2 a3 : Nat) (h0 : a0 < 256) (h1 : a1 < 256) (h2 : a2 < 256) (e : word a0 a1 a2 a3 = c ^^^ F) : crcs c [a0, a1, a2, a3] ^^^ F = 0x2144DF1C := by
  rw [crcs_word _ _ _ _ _ h0 h1 h2, e, ← Nat.xor_assoc, Nat.xor_self, Nat.zero_xor]
  decide +kernel
theorem xor3 (x y z a b c : Nat) : (x ^^^ y ^^^ z) ^^^ (a ^^^ b ^^^ c) = (x ^^^ a) ^^^ (y ^^^ b) ^^^ (z ^^^ c) := by ac_rfl
theorem adds (n : Nat) : ∀ (x y z : List Nat) (c d e : Nat), x.length = n → y.length = n → z.length = n →
    crcs (c ^^^ d ^^^ e) (List.zipWith (· ^^^ ·) (List.zipWith (· ^^^ ·) x y) z) = crcs c x ^^^ crcs d y ^^^ crcs e z := by
  induction n with
  | zero => intro x y z c d e hx hy hz; simp [List.eq_nil_of_length_eq_zero hx, List.eq_nil_of_length_eq_zero hy, List.eq_nil_of_length_eq_zero hz, crcs]
  | succ n ih =>
    intro x y z c d e hx hy hz
    match x, y, z, hx, hy, hz with
    | a :: x, b :: y, g :: z, hx, hy, hz =>
      simp only [List.zipWith_cons_cons, crcs_cons]
      rw [xor3, s8_xor, s8_xor]
      exact ih x y z _ _ _ (by simpa using hx) (by simpa using hy) (by simpa using hz)
end Go.Proofs.Ytinkookmjnflhaa.Crc
