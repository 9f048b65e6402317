/-
  Chapter 2, in plain Lean: the shift registers of the EDC and of the CRC, a byte at a time and over a string.
-/
namespace Go.Proofs.Ytdjpnabkmanboaa

def edcP : Nat := 3623976961
def e1 (n : Nat) : Nat := if n % 2 = 1 then n / 2 ^^^ edcP else n / 2
def eN : Nat → Nat → Nat
  | 0, n => n
  | k + 1, n => e1 (eN k n)
def eB (c b : Nat) : Nat := eN 8 (c ^^^ b)
def edcL (c : Nat) (l : List UInt8) : Nat := l.foldl (fun c b => eB c b.toNat) c

def crcP : Nat := 4129
def c1 (n : Nat) : Nat := if n / 32768 = 1 then n % 32768 * 2 ^^^ crcP else n % 32768 * 2
def cN : Nat → Nat → Nat
  | 0, n => n
  | k + 1, n => c1 (cN k n)
def cB (c b : Nat) : Nat := cN 8 (c ^^^ b * 256)
def crcL (c : Nat) (l : List UInt8) : Nat := l.foldl (fun c b => cB c b.toNat) c

def sumL (l : List UInt8) : Nat := l.foldl (fun s b => (s + b.toNat) % 256) 0

theorem xor_lt {a b : Nat} {k : Nat} (ha : a < 2 ^ k) (hb : b < 2 ^ k) : a ^^^ b < 2 ^ k := Nat.xor_lt_two_pow ha hb
theorem e1_lt {n : Nat} (h : n < 4294967296) : e1 n < 4294967296 := by
  unfold e1
  split
  · exact xor_lt (k := 32) (by omega) (by unfold edcP; omega)
  · omega
theorem eN_lt {n : Nat} (h : n < 4294967296) (k : Nat) : eN k n < 4294967296 := by
  induction k with
  | zero => exact h
  | succ k ih => exact e1_lt ih
theorem eB_lt {c b : Nat} (hc : c < 4294967296) (hb : b < 256) : eB c b < 4294967296 := eN_lt (xor_lt (k := 32) hc (by omega)) 8
theorem edcL_lt {c : Nat} (l : List UInt8) (hc : c < 4294967296) : edcL c l < 4294967296 := by
  induction l generalizing c with
  | nil => exact hc
  | cons b t ih => exact ih (eB_lt hc b.toNat_lt)
theorem c1_lt {n : Nat} : c1 n < 65536 := by
  unfold c1
  split
  · exact xor_lt (k := 16) (by omega) (by unfold crcP; omega)
  · omega
theorem cN_lt {n : Nat} (h : n < 65536) (k : Nat) : cN k n < 65536 := by
  induction k with
  | zero => exact h
  | succ k ih => exact c1_lt
theorem cB_lt {c b : Nat} (hc : c < 65536) (hb : b < 256) : cB c b < 65536 := cN_lt (xor_lt (k := 16) hc (by omega)) 8
theorem crcL_lt {c : Nat} (l : List UInt8) (hc : c < 65536) : crcL c l < 65536 := by
  induction l generalizing c with
  | nil => exact hc
  | cons b t ih => exact ih (cB_lt hc b.toNat_lt)
theorem edcL_snoc (c : Nat) (l : List UInt8) (b : UInt8) : edcL c (l ++ [b]) = eB (edcL c l) b.toNat := by simp [edcL]
theorem crcL_snoc (c : Nat) (l : List UInt8) (b : UInt8) : crcL c (l ++ [b]) = cB (crcL c l) b.toNat := by simp [crcL]
theorem edcL_append (c : Nat) (l r : List UInt8) : edcL c (l ++ r) = edcL (edcL c l) r := by simp [edcL]
theorem crcL_append (c : Nat) (l r : List UInt8) : crcL c (l ++ r) = crcL (crcL c l) r := by simp [crcL]
theorem sumL_snoc (l : List UInt8) (b : UInt8) : sumL (l ++ [b]) = (sumL l + b.toNat) % 256 := by simp [sumL]
theorem sumL_lt (l : List UInt8) : sumL l < 256 := by
  unfold sumL
  have : ∀ s, s < 256 → l.foldl (fun s b => (s + b.toNat) % 256) s < 256 := by
    induction l with
    | nil => intro s h; exact h
    | cons b t ih => intro s h; exact ih _ (Nat.mod_lt _ (by omega))
  exact this 0 (by omega)

/-! The registers are linear. -/
theorem xor_mod2 (a b : Nat) : (a ^^^ b) % 2 = (a % 2 + b % 2) % 2 := by
  have := Nat.xor_mod_two_pow (a := a) (b := b) (n := 1)
  rw [Nat.pow_one] at this
  rw [this]
  have h1 : a % 2 = 0 ∨ a % 2 = 1 := by omega
  have h2 : b % 2 = 0 ∨ b % 2 = 1 := by omega
  rcases h1 with h1 | h1 <;> rcases h2 with h2 | h2 <;> rw [h1, h2] <;> rfl
theorem xor_div2 (a b : Nat) : (a ^^^ b) / 2 = a / 2 ^^^ b / 2 := by
  have := Nat.shiftRight_xor_distrib (a := a) (b := b) (i := 1)
  simpa [Nat.shiftRight_eq_div_pow] using this
theorem xor4 (a b p : Nat) : (a ^^^ p) ^^^ (b ^^^ p) = a ^^^ b := by
  rw [Nat.xor_assoc, Nat.xor_comm b p, ← Nat.xor_assoc p p b, Nat.xor_self, Nat.zero_xor]
theorem e1_xor (a b : Nat) : e1 (a ^^^ b) = e1 a ^^^ e1 b := by
  unfold e1
  rw [xor_mod2, xor_div2]
  have h1 : a % 2 = 0 ∨ a % 2 = 1 := by omega
  have h2 : b % 2 = 0 ∨ b % 2 = 1 := by omega
  rcases h1 with h1 | h1 <;> rcases h2 with h2 | h2 <;> rw [h1, h2]
  · simp
  · simp [Nat.xor_assoc]
  · simp [Nat.xor_assoc, Nat.xor_comm edcP]
  · simp [xor4]
theorem eN_xor (k a b : Nat) : eN k (a ^^^ b) = eN k a ^^^ eN k b := by
  induction k with
  | zero => rfl
  | succ k ih => rw [eN, ih, e1_xor, eN, eN]
theorem e1_even (m : Nat) : e1 (2 * m) = m := by
  unfold e1
  rw [if_neg (by omega)]
  omega
theorem eN_shift (m : Nat) : eN 8 (256 * m) = m := by
  show e1 (e1 (e1 (e1 (e1 (e1 (e1 (e1 (256 * m)))))))) = m
  rw [show 256 * m = 2 * (128 * m) by omega, e1_even, show 128 * m = 2 * (64 * m) by omega, e1_even, show 64 * m = 2 * (32 * m) by omega, e1_even, show 32 * m = 2 * (16 * m) by omega, e1_even, show 16 * m = 2 * (8 * m) by omega, e1_even, show 8 * m = 2 * (4 * m) by omega, e1_even, show 4 * m = 2 * (2 * m) by omega, e1_even, e1_even]
theorem split_xor (k c : Nat) : c = 2 ^ k * (c / 2 ^ k) ^^^ c % 2 ^ k := by
  apply Nat.eq_of_testBit_eq
  intro i
  rw [Nat.testBit_xor, Nat.testBit_two_pow_mul, Nat.testBit_mod_two_pow, Nat.testBit_div_two_pow]
  by_cases h : i < k
  · rw [decide_eq_true h, decide_eq_false (by omega)]; simp
  · rw [decide_eq_false h, decide_eq_true (by omega)]
    simp
    rw [show i - k + k = i by omega]
/-- The table's step is the eight steps of the register. -/
theorem eB_table (c b : Nat) : eB c b = c / 256 ^^^ eN 8 (c % 256 ^^^ b) := by
  unfold eB
  have h := split_xor 8 c
  rw [show (2 : Nat) ^ 8 = 256 from rfl] at h
  have h2 : c ^^^ b = 256 * (c / 256) ^^^ (c % 256 ^^^ b) := by
    rw [← Nat.xor_assoc, ← h]
  rw [h2, eN_xor, eN_shift]

theorem xor_div (k a b : Nat) : (a ^^^ b) / 2 ^ k = a / 2 ^ k ^^^ b / 2 ^ k := by
  have := Nat.shiftRight_xor_distrib (a := a) (b := b) (i := k)
  simpa [Nat.shiftRight_eq_div_pow] using this
theorem xor_mul (k a b : Nat) : (a ^^^ b) * 2 ^ k = a * 2 ^ k ^^^ b * 2 ^ k := by
  have := Nat.shiftLeft_xor_distrib (a := a) (b := b) (i := k)
  simpa [Nat.shiftLeft_eq] using this
theorem c1_xor {a b : Nat} (ha : a < 65536) (hb : b < 65536) : c1 (a ^^^ b) = c1 a ^^^ c1 b := by
  unfold c1
  have hd : (a ^^^ b) / 32768 = a / 32768 ^^^ b / 32768 := xor_div 15 a b
  have hm : (a ^^^ b) % 32768 = a % 32768 ^^^ b % 32768 := Nat.xor_mod_two_pow (n := 15)
  have hx : (a % 32768 ^^^ b % 32768) * 2 = a % 32768 * 2 ^^^ b % 32768 * 2 := xor_mul 1 _ _
  rw [hd, hm, hx]
  have h1 : a / 32768 = 0 ∨ a / 32768 = 1 := by omega
  have h2 : b / 32768 = 0 ∨ b / 32768 = 1 := by omega
  rcases h1 with h1 | h1 <;> rcases h2 with h2 | h2 <;> rw [h1, h2]
  · simp
  · simp [Nat.xor_assoc]
  · simp [Nat.xor_assoc, Nat.xor_comm crcP]
  · simp [xor4]
theorem cN_xor (k : Nat) {a b : Nat} (ha : a < 65536) (hb : b < 65536) : cN k (a ^^^ b) = cN k a ^^^ cN k b := by
  induction k with
  | zero => rfl
  | succ k ih => rw [cN, ih, c1_xor (cN_lt ha k) (cN_lt hb k), cN, cN]
theorem c1_small {m : Nat} (h : m < 32768) : c1 m = 2 * m := by
  unfold c1
  rw [if_neg (by omega)]
  omega
theorem cN_shift {m : Nat} (h : m < 256) : cN 8 m = m * 256 := by
  show c1 (c1 (c1 (c1 (c1 (c1 (c1 (c1 m))))))) = _
  rw [c1_small (m := m) (by omega), c1_small (m := 2 * m) (by omega), c1_small (m := 2 * (2 * m)) (by omega), c1_small (m := 2 * (2 * (2 * m))) (by omega), c1_small (m := 2 * (2 * (2 * (2 * m)))) (by omega), c1_small (m := 2 * (2 * (2 * (2 * (2 * m))))) (by omega), c1_small (m := 2 * (2 * (2 * (2 * (2 * (2 * m)))))) (by omega), c1_small (m := 2 * (2 * (2 * (2 * (2 * (2 * (2 * m))))))) (by omega)]
  omega
/-- The table's step is the eight steps of the register. -/
theorem cB_table {c b : Nat} (hc : c < 65536) (hb : b < 256) : cB c b = c % 256 * 256 ^^^ cN 8 ((c / 256 ^^^ b) * 256) := by
  unfold cB
  have h := split_xor 8 c
  rw [show (2 : Nat) ^ 8 = 256 from rfl] at h
  have hx : (c / 256 ^^^ b) * 256 = c / 256 * 256 ^^^ b * 256 := xor_mul 8 _ _
  have h2 : c ^^^ b * 256 = c % 256 ^^^ (c / 256 ^^^ b) * 256 := by
    rw [hx, Nat.mul_comm (c / 256) 256, ← Nat.xor_assoc, Nat.xor_comm (c % 256), ← h]
  have hlt : c / 256 ^^^ b < 256 := xor_lt (k := 8) (by omega) hb
  rw [h2, cN_xor 8 (by omega) (by omega), cN_shift (by omega)]
end Go.Proofs.Ytdjpnabkmanboaa
