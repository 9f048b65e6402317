/-
  The walks of bits.OnesCount8, 16 and 32; the number of ones in the low bits of a number, and its parity.
-/
import Derived.Test.YtcbkcdhhigobpaaLaw3
import Derived.Lib.BitFns
namespace Go.Proofs.Ytcbkcdhhigobpaa
open Go.RowKit
set_option linter.unusedVariables false

/-- How many of the low k bits of x are ones. -/
def ones : Nat → Nat → Nat
  | 0, _ => 0
  | k + 1, x => x % 2 + ones k (x / 2)
theorem ones_add (a b x : Nat) : ones (a + b) x = ones a x + ones b (x / 2 ^ a) := by
  induction a generalizing x with
  | zero => simp [ones]
  | succ a ih =>
    rw [Nat.succ_add, ones, ih, ones, Nat.div_div_eq_div_mul, ← Nat.pow_succ', Nat.add_assoc]
theorem ones_mod (k x : Nat) : ones k (x % 2 ^ k) = ones k x := by
  induction k generalizing x with
  | zero => rfl
  | succ k ih =>
    have h1 : x % 2 ^ (k + 1) % 2 = x % 2 := Nat.mod_mod_of_dvd _ ⟨2 ^ k, by rw [Nat.pow_succ']⟩
    have h2 : x % 2 ^ (k + 1) / 2 = x / 2 % 2 ^ k := by rw [Nat.pow_succ', Nat.mod_mul_right_div_self]
    rw [ones, h1, h2, ih, ones]
theorem ones_zero (k : Nat) : ones k 0 = 0 := by
  induction k with
  | zero => rfl
  | succ k ih => rw [ones, Nat.zero_div, ih]
theorem ones_xor (k a b : Nat) : ones k (a ^^^ b) % 2 = (ones k a + ones k b) % 2 := by
  induction k generalizing a b with
  | zero => rfl
  | succ k ih =>
    have := ih (a / 2) (b / 2)
    rw [ones, ones, ones, xor_mod2, xor_div2]
    omega

theorem e1_ones {x : Nat} (h : x < 4294967296) : ones 32 (e1 x) % 2 = ones 32 x % 2 := by
  have h1 : ones 32 x = x % 2 + ones 31 (x / 2) := rfl
  have h2 : ones 32 (x / 2) = ones 31 (x / 2) := by
    rw [ones_add 31 1 (x / 2), show x / 2 / 2 ^ 31 = 0 by omega, ones_zero, Nat.add_zero]
  unfold e1
  split
  · have h3 := ones_xor 32 (x / 2) edcP
    have h4 : ones 32 edcP = 7 := by decide
    rename_i hx
    generalize ones 32 (x / 2 ^^^ edcP) = A at *
    generalize ones 32 (x / 2) = B at *
    generalize ones 31 (x / 2) = C at *
    generalize ones 32 x = D at *
    generalize ones 32 edcP = E at *
    omega
  · generalize ones 32 (x / 2) = B at *
    generalize ones 31 (x / 2) = C at *
    generalize ones 32 x = D at *
    omega
theorem eN_ones {x : Nat} (h : x < 4294967296) (k : Nat) : ones 32 (eN k x) % 2 = ones 32 x % 2 := by
  induction k with
  | zero => rfl
  | succ k ih => rw [eN, e1_ones (eN_lt h k), ih]
theorem ones_byte {b : Nat} (h : b < 256) (k : Nat) : ones (8 + k) b = ones 8 b := by
  rw [ones_add, show b / 2 ^ 8 = 0 by omega, ones_zero]
  rfl
theorem c1_ones {x : Nat} (h : x < 65536) : ones 16 (c1 x) % 2 = ones 16 x % 2 := by
  have h1 : ones 16 x = ones 15 x + ones 1 (x / 2 ^ 15) := ones_add 15 1 x
  have h2 : ones 16 (x % 32768 * 2) = ones 15 x := by
    show x % 32768 * 2 % 2 + ones 15 (x % 32768 * 2 / 2) = _
    rw [show x % 32768 * 2 % 2 = 0 by omega, show x % 32768 * 2 / 2 = x % 2 ^ 15 by omega, ones_mod]
    omega
  unfold c1
  split
  · rename_i hx
    have h3 := ones_xor 16 (x % 32768 * 2) crcP
    have h4 : ones 16 crcP = 3 := by decide
    have h5 : ones 1 (x / 2 ^ 15) = 1 := by rw [show x / 2 ^ 15 = 1 from hx]; rfl
    generalize ones 16 (x % 32768 * 2 ^^^ crcP) = A at *
    generalize ones 16 (x % 32768 * 2) = B at *
    generalize ones 15 x = C at *
    generalize ones 16 x = D at *
    generalize ones 16 crcP = E at *
    generalize ones 1 (x / 2 ^ 15) = F at *
    omega
  · rename_i hx
    have h5 : ones 1 (x / 2 ^ 15) = 0 := by rw [show x / 2 ^ 15 = 0 by omega]; rfl
    generalize ones 16 (x % 32768 * 2) = B at *
    generalize ones 15 x = C at *
    generalize ones 16 x = D at *
    generalize ones 1 (x / 2 ^ 15) = F at *
    omega
theorem cN_ones {x : Nat} (h : x < 65536) (k : Nat) : ones 16 (cN k x) % 2 = ones 16 x % 2 := by
  induction k with
  | zero => rfl
  | succ k ih => rw [cN, c1_ones (cN_lt h k), ih]
/-- The ones of bytes. -/
def onesL (l : List UInt8) : Nat := (l.map fun b => ones 8 b.toNat).sum
theorem onesL_snoc (l : List UInt8) (b : UInt8) : onesL (l ++ [b]) = onesL l + ones 8 b.toNat := by simp [onesL]
theorem ones8_le (b : Nat) : ones 8 b ≤ 8 := by
  have : ∀ k x, ones k x ≤ k := by
    intro k
    induction k with
    | zero => intro x; exact Nat.le_refl 0
    | succ k ih => intro x; have := ih (x / 2); rw [ones]; omega
  exact this 8 b
theorem onesL_le (l : List UInt8) : onesL l ≤ 8 * l.length := by
  induction l with
  | nil => exact Nat.le_refl 0
  | cons b t ih =>
    have h : onesL (b :: t) = ones 8 b.toNat + onesL t := by simp [onesL]
    have := ones8_le b.toNat
    rw [h, List.length_cons]
    omega
theorem edcL_ones (l : List UInt8) {c : Nat} (hc : c < 4294967296) : ones 32 (edcL c l) % 2 = (ones 32 c + onesL l) % 2 := by
  induction l generalizing c with
  | nil => simp only [edcL, onesL, List.foldl_nil, List.map_nil, List.sum_nil, Nat.add_zero]
  | cons b t ih =>
    have hb := b.toNat_lt
    have hx : c ^^^ b.toNat < 4294967296 := xor_lt (k := 32) (by omega) (by omega)
    have h : onesL (b :: t) = ones 8 b.toNat + onesL t := by simp [onesL]
    have h1 := ones_xor 32 c b.toNat
    have h2 : ones 32 b.toNat = ones 8 b.toNat := ones_byte hb 24
    have h3 := eN_ones hx 8
    show ones 32 (edcL (eB c b.toNat) t) % 2 = _
    rw [ih (eB_lt hc hb), h]
    show (ones 32 (eN 8 (c ^^^ b.toNat)) + _) % 2 = _
    generalize ones 32 (eN 8 (c ^^^ b.toNat)) = A at *
    generalize ones 32 (c ^^^ b.toNat) = B at *
    generalize ones 32 b.toNat = C at *
    generalize ones 8 b.toNat = D at *
    generalize ones 32 c = E at *
    generalize onesL t = F at *
    omega
theorem crcL_ones (l : List UInt8) {c : Nat} (hc : c < 65536) : ones 16 (crcL c l) % 2 = (ones 16 c + onesL l) % 2 := by
  induction l generalizing c with
  | nil => simp only [crcL, onesL, List.foldl_nil, List.map_nil, List.sum_nil, Nat.add_zero]
  | cons b t ih =>
    have hb := b.toNat_lt
    have hx : c ^^^ b.toNat * 256 < 65536 := xor_lt (k := 16) (by omega) (by omega)
    have h : onesL (b :: t) = ones 8 b.toNat + onesL t := by simp [onesL]
    have h1 := ones_xor 16 c (b.toNat * 256)
    have h2 : ones 16 (b.toNat * 256) = ones 8 b.toNat := by
      rw [ones_add 8 8, show b.toNat * 256 / 2 ^ 8 = b.toNat by omega, ← ones_mod 8, show b.toNat * 256 % 2 ^ 8 = 0 by omega, ones_zero]
      omega
    have h3 := cN_ones hx 8
    show ones 16 (crcL (cB c b.toNat) t) % 2 = _
    rw [ih (cB_lt hc hb), h]
    show (ones 16 (cN 8 (c ^^^ b.toNat * 256)) + _) % 2 = _
    generalize ones 16 (cN 8 (c ^^^ b.toNat * 256)) = A at *
    generalize ones 16 (c ^^^ b.toNat * 256) = B at *
    generalize ones 16 (b.toNat * 256) = C at *
    generalize ones 8 b.toNat = D at *
    generalize ones 16 c = E at *
    generalize onesL t = F at *
    omega

/-! The table. -/
theorem pop8_all : ∀ n : Fin 256, Lib.pop8 (n.val : Int) = (ones 8 n.val : Int) := by decide +kernel
theorem pop8_ones {b : Int} (h0 : 0 ≤ b) (h1 : b ≤ 255) : Lib.pop8 b = (ones 8 b.toNat : Nat) := by
  have e := pop8_all ⟨b.toNat, by omega⟩
  simp only [Int.toNat_of_nonneg h0] at e
  exact e
theorem pop8_bd {b : Int} (h0 : 0 ≤ b) (h1 : b ≤ 255) : 0 ≤ Lib.pop8 b ∧ Lib.pop8 b ≤ 8 := by
  rw [pop8_ones h0 h1]
  have := ones8_le b.toNat
  omega

theorem pop8_any (b : UInt8) (w : World) : Calls Try.prog 26 #[.int .u8 (b.toNat : Int)] w fun e w' => e = .returned (.int .i64 (ones 8 b.toNat : Nat)) ∧ w = w' := by
  have hb := b.toNat_lt
  have h0 : (0 : Int) ≤ (b.toNat : Int) := by omega
  have h1 : (b.toNat : Int) ≤ 255 := by omega
  have hp := pop8_ones h0 h1
  have hw : wrap64 (Lib.pop8 (b.toNat : Int)) = (ones 8 b.toNat : Nat) := by
    obtain ⟨q0, q1⟩ := pop8_bd h0 h1
    rw [IntWalk.wrap64_in _ (by omega), hp]
    simp
  have HW := Lib.hid hw
  clear hw hp
  go_enter Try.func26, Try.ntmps26
  go_wp2
  go_ret
  exact ⟨ret_int HW.out, rfl⟩

theorem pop16_any (x : Nat) (w : World) (h : x < 65536) : Calls Try.prog 28 #[.int .u16 (x : Int)] w fun e w' => e = .returned (.int .i64 (ones 16 x : Nat)) ∧ ∃ k, w' = w.drewN k := by
  have e1 : bits .and .u16 (x : Int) 255 = (x : Int) % 256 := by
    have := u16_and_nat x 255 h (by omega)
    rw [show (255 : Nat) = 2 ^ 8 - 1 from rfl, Nat.and_two_pow_sub_one_eq_mod] at this
    exact this
  have g1 : (0:Int) ≤ (x : Int) / 256 := by omega
  have g2 : (x : Int) / 256 ≤ 255 := by omega
  obtain ⟨a0, a1⟩ := pop8_bd g1 g2
  obtain ⟨b0, b1⟩ := pop8_bd (b := (x : Int) % 256) (by omega) (by omega)
  have s1 : IntKind.u8.wrap (Lib.pop8 ((x : Int) / 256) + Lib.pop8 ((x : Int) % 256)) = Lib.pop8 ((x : Int) / 256) + Lib.pop8 ((x : Int) % 256) := by rw [IntKind.wrap_u8]; omega
  have s2 : IntKind.i64.wrap (Lib.pop8 ((x : Int) / 256) + Lib.pop8 ((x : Int) % 256)) = Lib.pop8 ((x : Int) / 256) + Lib.pop8 ((x : Int) % 256) := IntWalk.i64_in _ (by omega)
  have HE : Hid (Lib.pop8 ((x : Int) / 256) + Lib.pop8 ((x : Int) % 256) = (ones 16 x : Nat)) := by
    show Lib.pop8 ((x : Int) / 256) + Lib.pop8 ((x : Int) % 256) = (ones 16 x : Nat)
    rw [pop8_ones g1 g2, pop8_ones (b := (x : Int) % 256) (by omega) (by omega), ones_add 8 8 x, ← ones_mod 8 x, show ((x : Int) / 256).toNat = x / 2 ^ 8 by omega, show ((x : Int) % 256).toNat = x % 2 ^ 8 by omega]
    omega
  go_enter Try.func28, Try.ntmps28
  go_wp2
  go_quiet (fail)
  go_wp2
  go_ret
  exact ⟨ret_int HE.out, _, rfl⟩

theorem pop32_any (x : Nat) (w : World) (h : x < 4294967296) : Calls Try.prog 27 #[.int .u32 (x : Int)] w fun e w' => e = .returned (.int .i64 (ones 32 x : Nat)) ∧ ∃ k, w' = w.drewN k := by
  have hand : ∀ y : Nat, y < 4294967296 → bits .and .u32 (y : Int) 255 = (y : Int) % 256 := by
    intro y hy
    have := u32_and_nat y 255 hy (by omega)
    rw [show (255 : Nat) = 2 ^ 8 - 1 from rfl, Nat.and_two_pow_sub_one_eq_mod] at this
    exact this
  have e1 := hand x h
  have e2 : bits .and .u32 ((x : Int) / 256) 255 = (x : Int) / 256 % 256 := hand (x / 256) (by omega)
  have e3 : bits .and .u32 ((x : Int) / 65536) 255 = (x : Int) / 65536 % 256 := hand (x / 65536) (by omega)
  clear hand
  have g1 : (0:Int) ≤ (x : Int) / 16777216 := by omega
  have g2 : (x : Int) / 16777216 ≤ 255 := by omega
  obtain ⟨a0, a1⟩ := pop8_bd g1 g2
  obtain ⟨b0, b1⟩ := pop8_bd (b := (x : Int) / 65536 % 256) (by omega) (by omega)
  obtain ⟨c0, c1⟩ := pop8_bd (b := (x : Int) / 256 % 256) (by omega) (by omega)
  obtain ⟨d0, d1⟩ := pop8_bd (b := (x : Int) % 256) (by omega) (by omega)
  have s1 : IntKind.u8.wrap (Lib.pop8 ((x : Int) / 16777216) + Lib.pop8 ((x : Int) / 65536 % 256)) = Lib.pop8 ((x : Int) / 16777216) + Lib.pop8 ((x : Int) / 65536 % 256) := by rw [IntKind.wrap_u8]; omega
  have s2 : IntKind.u8.wrap (Lib.pop8 ((x : Int) / 16777216) + Lib.pop8 ((x : Int) / 65536 % 256) + Lib.pop8 ((x : Int) / 256 % 256)) = Lib.pop8 ((x : Int) / 16777216) + Lib.pop8 ((x : Int) / 65536 % 256) + Lib.pop8 ((x : Int) / 256 % 256) := by rw [IntKind.wrap_u8]; omega
  have s3 : IntKind.u8.wrap (Lib.pop8 ((x : Int) / 16777216) + Lib.pop8 ((x : Int) / 65536 % 256) + Lib.pop8 ((x : Int) / 256 % 256) + Lib.pop8 ((x : Int) % 256)) = Lib.pop8 ((x : Int) / 16777216) + Lib.pop8 ((x : Int) / 65536 % 256) + Lib.pop8 ((x : Int) / 256 % 256) + Lib.pop8 ((x : Int) % 256) := by rw [IntKind.wrap_u8]; omega
  have s4 : IntKind.i64.wrap (Lib.pop8 ((x : Int) / 16777216) + Lib.pop8 ((x : Int) / 65536 % 256) + Lib.pop8 ((x : Int) / 256 % 256) + Lib.pop8 ((x : Int) % 256)) = Lib.pop8 ((x : Int) / 16777216) + Lib.pop8 ((x : Int) / 65536 % 256) + Lib.pop8 ((x : Int) / 256 % 256) + Lib.pop8 ((x : Int) % 256) := IntWalk.i64_in _ (by omega)
  have HE : Hid (Lib.pop8 ((x : Int) / 16777216) + Lib.pop8 ((x : Int) / 65536 % 256) + Lib.pop8 ((x : Int) / 256 % 256) + Lib.pop8 ((x : Int) % 256) = (ones 32 x : Nat)) := by
    show Lib.pop8 ((x : Int) / 16777216) + Lib.pop8 ((x : Int) / 65536 % 256) + Lib.pop8 ((x : Int) / 256 % 256) + Lib.pop8 ((x : Int) % 256) = (ones 32 x : Nat)
    rw [pop8_ones g1 g2, pop8_ones (b := (x : Int) / 65536 % 256) (by omega) (by omega), pop8_ones (b := (x : Int) / 256 % 256) (by omega) (by omega), pop8_ones (b := (x : Int) % 256) (by omega) (by omega),
      ones_add 8 24 x, ones_add 8 16, ones_add 8 8, ← ones_mod 8 x, ← ones_mod 8 (x / 2 ^ 8), ← ones_mod 8 (x / 2 ^ 8 / 2 ^ 8),
      show ((x : Int) / 16777216).toNat = x / 2 ^ 8 / 2 ^ 8 / 2 ^ 8 by omega, show ((x : Int) / 65536 % 256).toNat = x / 2 ^ 8 / 2 ^ 8 % 2 ^ 8 by omega, show ((x : Int) / 256 % 256).toNat = x / 2 ^ 8 % 2 ^ 8 by omega, show ((x : Int) % 256).toNat = x % 2 ^ 8 by omega]
    omega
  go_enter Try.func27, Try.ntmps27
  go_wp2
  go_quiet (fail)
  go_wp2
  go_ret
  exact ⟨ret_int HE.out, _, rfl⟩
end Go.Proofs.Ytcbkcdhhigobpaa
