/-
  Plain theory: the laws of the field with 256 elements.
-/
import Derived.Test.YtlnjphggfbiabaaGreatMRg
namespace Go.Proofs.YtlnjphggfbiabaaGreat
open Go.RowKit
set_option linter.unusedVariables false

theorem xor8 {a b : Nat} (ha : a < 256) (hb : b < 256) : a ^^^ b < 256 := Nat.xor_lt_two_pow (n := 8) ha hb
/-! ### The field -/
theorem dblN_form : ∀ a, a < 256 → dblN a = (a <<< 1) ^^^ (a >>> 7) * 285 := by decide +kernel
theorem bit_mul285 : ∀ p, p < 2 → ∀ q, q < 2 → (p ^^^ q) * 285 = p * 285 ^^^ q * 285 := by decide
theorem dblN_xor {a b : Nat} (ha : a < 256) (hb : b < 256) : dblN (a ^^^ b) = dblN a ^^^ dblN b := by
  rw [dblN_form _ (xor8 ha hb), dblN_form _ ha, dblN_form _ hb, Nat.shiftLeft_xor_distrib, Nat.shiftRight_xor_distrib]
  have h1 : a >>> 7 < 2 := by rw [Nat.shiftRight_eq_div_pow]; omega
  have h2 : b >>> 7 < 2 := by rw [Nat.shiftRight_eq_div_pow]; omega
  rw [bit_mul285 _ h1 _ h2]
  ac_rfl
def LinX (f : Nat → Nat) : Prop := ∀ a b, a < 256 → b < 256 → f (a ^^^ b) = f a ^^^ f b
theorem split_bit : ∀ k, k < 8 → ∀ a, a < 256 → 2 ^ k ≤ a → a < 2 ^ (k + 1) → a = 2 ^ k ^^^ (a - 2 ^ k) := by decide +kernel
theorem LinX.zero {f : Nat → Nat} (h : LinX f) : f 0 = 0 := by
  have := h 0 0 (by decide) (by decide)
  rw [Nat.xor_self] at this
  rw [this, Nat.xor_self]
theorem LinX.ext {f g : Nat → Nat} (hf : LinX f) (hg : LinX g) (h : ∀ i, i < 8 → f (2 ^ i) = g (2 ^ i)) : ∀ k, k ≤ 8 → ∀ a, a < 2 ^ k → f a = g a
  | 0, _, a, ha => by
    have : a = 0 := by simp at ha; omega
    rw [this, hf.zero, hg.zero]
  | k + 1, hk, a, ha => by
    have h8 : 2 ^ (k + 1) ≤ 2 ^ 8 := Nat.pow_le_pow_right (by decide) hk
    have hk2 : 2 ^ k < 2 ^ 8 := Nat.pow_lt_pow_right (by decide) (by omega)
    by_cases h2 : a < 2 ^ k
    · exact LinX.ext hf hg h k (by omega) a h2
    · have e := split_bit k (by omega) a (by omega) (by omega) ha
      have e2 : a - 2 ^ k < 2 ^ k := by rw [Nat.pow_succ] at ha; omega
      rw [e, hf _ _ (by omega) (by omega), hg _ _ (by omega) (by omega), h k (by omega), LinX.ext hf hg h k (by omega) _ e2]
theorem LinX.ext8 {f g : Nat → Nat} (hf : LinX f) (hg : LinX g) (h : ∀ i, i < 8 → f (2 ^ i) = g (2 ^ i)) {a : Nat} (ha : a < 256) : f a = g a := LinX.ext hf hg h 8 (Nat.le_refl _) a ha
theorem mulK_zero : ∀ f a o, mulK f a 0 o = o
  | 0, _, _ => rfl
  | f + 1, a, o => by rw [mulK, if_pos rfl]
theorem mulK_succ (f a b o : Nat) : mulK (f + 1) a b o = mulK f (dblN a) (b / 2) (if b % 2 = 1 then o ^^^ a else o) := by
  by_cases h : b = 0
  · subst h
    rw [mulK_zero, if_neg (by decide)]
    exact (mulK_zero _ _ _).symm
  · rw [mulK, if_neg h]
theorem mulK_left : ∀ f {a a' b o o'}, a < 256 → a' < 256 → mulK f (a ^^^ a') b (o ^^^ o') = mulK f a b o ^^^ mulK f a' b o'
  | 0, _, _, _, _, _, _, _ => rfl
  | f + 1, a, a', b, o, o', ha, ha' => by
    rw [mulK_succ, mulK_succ, mulK_succ, dblN_xor ha ha', ← mulK_left f (dblN_lt ha) (dblN_lt ha')]
    congr 1
    split
    · ac_rfl
    · rfl
theorem mulK_right : ∀ f {a b b' o o'}, mulK f a (b ^^^ b') (o ^^^ o') = mulK f a b o ^^^ mulK f a b' o'
  | 0, _, _, _, _, _ => rfl
  | f + 1, a, b, b', o, o' => by
    rw [mulK_succ, mulK_succ, mulK_succ, ← mulK_right f]
    have e1 : (b ^^^ b') / 2 = b / 2 ^^^ b' / 2 := by
      have := Nat.shiftRight_xor_distrib (a := b) (b := b') (i := 1)
      simpa [Nat.shiftRight_eq_div_pow] using this
    have e2 : (b ^^^ b') % 2 = (b % 2 ^^^ b' % 2) := by
      have := Nat.xor_mod_two_pow (a := b) (b := b') (n := 1)
      simpa using this
    rw [e1]
    congr 1
    rw [e2]
    rcases Nat.mod_two_eq_zero_or_one b with h | h <;> rcases Nat.mod_two_eq_zero_or_one b' with h' | h' <;> rw [h, h'] <;> simp
    · ac_rfl
    · ac_rfl
    · have : o ^^^ a ^^^ (o' ^^^ a) = o ^^^ o' ^^^ (a ^^^ a) := by ac_rfl
      rw [this, Nat.xor_self, Nat.xor_zero]
theorem mulN_lin1 (b : Nat) : LinX fun a => mulN a b := fun a a' ha ha' => by
  have := mulK_left 8 (b := b) (o := 0) (o' := 0) ha ha'
  simpa [mulN] using this
theorem mulN_lin2 (a : Nat) : LinX fun b => mulN a b := fun b b' _ _ => by
  have := mulK_right 8 (a := a) (b := b) (b' := b') (o := 0) (o' := 0)
  simpa [mulN] using this
theorem LinX.comp {f g : Nat → Nat} (hf : LinX f) (hg : LinX g) (hlt : ∀ a, a < 256 → g a < 256) : LinX fun a => f (g a) := fun a b ha hb => by
  show f (g (a ^^^ b)) = _
  rw [hg a b ha hb]
  exact hf _ _ (hlt a ha) (hlt b hb)
theorem comm_bits : ∀ i, i < 8 → ∀ j, j < 8 → mulN (2 ^ i) (2 ^ j) = mulN (2 ^ j) (2 ^ i) := by decide +kernel
theorem mulN_comm {a b : Nat} (ha : a < 256) (hb : b < 256) : mulN a b = mulN b a :=
  (mulN_lin1 b).ext8 (g := fun a => mulN b a) (mulN_lin2 b) (fun i hi =>
    (mulN_lin2 (2 ^ i)).ext8 (g := fun b => mulN b (2 ^ i)) (mulN_lin1 (2 ^ i)) (fun j hj => comm_bits i hi j hj) hb) ha
theorem assoc_bits : ∀ i, i < 8 → ∀ j, j < 8 → ∀ k, k < 8 → mulN (mulN (2 ^ i) (2 ^ j)) (2 ^ k) = mulN (2 ^ i) (mulN (2 ^ j) (2 ^ k)) := by decide +kernel
theorem pow8 : ∀ i, i < 8 → 2 ^ i < 256 := by decide
theorem mulN_assoc {a b c : Nat} (ha : a < 256) (hb : b < 256) (hc : c < 256) : mulN (mulN a b) c = mulN a (mulN b c) :=
  ((mulN_lin1 c).comp (mulN_lin1 b) (fun _ h => mulN_lt h)).ext8 (g := fun a => mulN a (mulN b c)) (mulN_lin1 _) (fun i hi =>
    ((mulN_lin1 c).comp (mulN_lin2 (2 ^ i)) (fun _ _ => mulN_lt (pow8 i hi))).ext8 (g := fun b => mulN (2 ^ i) (mulN b c)) ((mulN_lin2 _).comp (mulN_lin1 c) (fun _ h => mulN_lt h)) (fun j hj =>
      (mulN_lin2 (mulN (2 ^ i) (2 ^ j))).ext8 (g := fun c => mulN (2 ^ i) (mulN (2 ^ j) c)) ((mulN_lin2 _).comp (mulN_lin2 _) (fun _ _ => mulN_lt (pow8 j hj))) (fun k hk => assoc_bits i hi j hj k hk) hc) hb) ha
theorem one_bits : ∀ i, i < 8 → mulN (2 ^ i) 1 = 2 ^ i := by decide +kernel
theorem two_bits : ∀ i, i < 8 → mulN (2 ^ i) 2 = dblN (2 ^ i) := by decide +kernel
theorem mulN_one {a : Nat} (ha : a < 256) : mulN a 1 = a := (mulN_lin1 1).ext8 (g := fun a => a) (fun _ _ _ _ => rfl) one_bits ha
theorem mulN_two {a : Nat} (ha : a < 256) : mulN a 2 = dblN a := (mulN_lin1 2).ext8 (g := fun a => dblN a) (fun _ _ h h' => dblN_xor h h') two_bits ha
theorem xK_pow : ∀ k, xK k = powN k
  | 0 => rfl
  | k + 1 => by rw [xK, powN, xK_pow k, mulN_two (powN_lt k)]
theorem powN_add : ∀ i j, powN (i + j) = mulN (powN i) (powN j)
  | i, 0 => by rw [Nat.add_zero]; exact (mulN_one (powN_lt i)).symm
  | i, j + 1 => by
    rw [← Nat.add_assoc, powN, powN, powN_add i j, ← mulN_two (mulN_lt (powN_lt i)), ← mulN_two (powN_lt j), mulN_assoc (powN_lt i) (powN_lt j) (by decide)]
theorem powN_255 : powN 255 = 1 := by decide +kernel
theorem powN_order : ∀ k, k < 255 → k = 0 ∨ powN k ≠ 1 := by decide +kernel
def logT : List Nat := [0, 0, 1, 25, 2, 50, 26, 198, 3, 223, 51, 238, 27, 104, 199, 75, 4, 100, 224, 14, 52, 141, 239, 129, 28, 193, 105, 248, 200, 8, 76, 113, 5, 138, 101, 47, 225, 36, 15, 33, 53, 147, 142, 218, 240, 18, 130, 69, 29, 181, 194, 125, 106, 39, 249, 185, 201, 154, 9, 120, 77, 228, 114, 166, 6, 191, 139, 98, 102, 221, 48, 253, 226, 152, 37, 179, 16, 145, 34, 136, 54, 208, 148, 206, 143, 150, 219, 189, 241, 210, 19, 92, 131, 56, 70, 64, 30, 66, 182, 163, 195, 72, 126, 110, 107, 58, 40, 84, 250, 133, 186, 61, 202, 94, 155, 159, 10, 21, 121, 43, 78, 212, 229, 172, 115, 243, 167, 87, 7, 112, 192, 247, 140, 128, 99, 13, 103, 74, 222, 237, 49, 197, 254, 24, 227, 165, 153, 119, 38, 184, 180, 124, 17, 68, 146, 217, 35, 32, 137, 46, 55, 63, 209, 91, 149, 188, 207, 205, 144, 135, 151, 178, 220, 252, 190, 97, 242, 86, 211, 171, 20, 42, 93, 158, 132, 60, 57, 83, 71, 109, 65, 162, 31, 45, 67, 216, 183, 123, 164, 118, 196, 23, 73, 236, 127, 12, 111, 246, 108, 161, 59, 82, 41, 157, 85, 170, 251, 96, 134, 177, 187, 204, 62, 90, 203, 89, 95, 176, 156, 169, 160, 81, 11, 245, 22, 235, 122, 117, 44, 215, 79, 174, 213, 233, 230, 231, 173, 232, 116, 214, 244, 234, 168, 80, 88, 175]
theorem logT_ok : ∀ a, a < 256 → a = 0 ∨ (logT[a]?.getD 0 < 255 ∧ powN (logT[a]?.getD 0) = a) := by decide +kernel
theorem logF_of {a : Nat} (ha : a < 256) (h0 : a ≠ 0) : ∃ k, k < 255 ∧ logF a = some k ∧ powN k = a := by
  rcases logT_ok a ha with h | ⟨h1, h2⟩
  · exact absurd h h0
  cases h : logF a with
  | none =>
    have := List.find?_eq_none.1 h _ (List.mem_range.2 h1)
    rw [h2] at this
    simp at this
  | some k =>
    have e := List.find?_some h
    have m := List.mem_range.1 (List.mem_of_find?_eq_some h)
    exact ⟨k, m, rfl, by simpa using e⟩
theorem mulN_inv {a : Nat} (ha : a < 256) (h0 : a ≠ 0) : mulN a (invN a) = 1 := by
  obtain ⟨k, hk, h1, h2⟩ := logF_of ha h0
  have e : invN a = powN ((255 - k) % 255) := by
    unfold invN logN expN
    rw [h1, if_neg (by simp)]
    congr 1
    simp only [Option.getD_some]
    omega
  rw [e, ← h2, ← powN_add]
  by_cases hz : k = 0
  · subst hz; rfl
  · rw [Nat.mod_eq_of_lt (by omega), show k + (255 - k) = 255 by omega, powN_255]
theorem powN_ne (k : Nat) : powN k ≠ 0 := by
  have h255 : ∀ j, j < 255 → powN j ≠ 0 := by decide +kernel
  have : ∀ q r, powN (255 * q + r) = powN r := by
    intro q
    induction q with
    | zero => intro r; rw [Nat.mul_zero, Nat.zero_add]
    | succ q ih =>
      intro r
      rw [show 255 * (q + 1) + r = (255 * q + r) + 255 by omega, powN_add, powN_255, mulN_one (powN_lt _), ih]
  rw [← Nat.div_add_mod k 255, this]
  exact h255 _ (Nat.mod_lt _ (by decide))
theorem powN_inj {i j : Nat} (hi : i < 255) (hj : j < 255) (h : powN i = powN j) : i = j := by
  have key : ∀ i j, i < j → j < 255 → powN i = powN j → False := fun i j hij hj h => by
    have e : powN j = mulN (powN i) (powN (j - i)) := by rw [← powN_add]; congr 1; omega
    have e2 : mulN (mulN (powN i) (powN (j - i))) (invN (powN i)) = 1 := by rw [← e, ← h]; exact mulN_inv (powN_lt i) (powN_ne i)
    have hlt : invN (powN i) < 256 := invN_lt _
    rw [mulN_comm (powN_lt i) (powN_lt _), mulN_assoc (powN_lt _) (powN_lt i) hlt, mulN_inv (powN_lt i) (powN_ne i), mulN_one (powN_lt _)] at e2
    rcases powN_order (j - i) (by omega) with h | h
    · omega
    · exact h e2
  rcases Nat.lt_trichotomy i j with hh | hh | hh
  · exact (key i j hh hj h).elim
  · exact hh
  · exact (key j i hh hi h.symm).elim
end Go.Proofs.YtlnjphggfbiabaaGreat

/-
  Plain theory: series over the field; lists as series.
-/
namespace Go.Proofs.YtlnjphggfbiabaaGreat
open Go.RowKit
set_option linter.unusedVariables false

/-! ### The field as a type -/
structure F8 where
  n : Nat
  h : n < 256
namespace F8
theorem eq {a b : F8} (h : a.n = b.n) : a = b := by
  cases a; cases b; cases h; rfl
instance : Add F8 := ⟨fun a b => ⟨a.n ^^^ b.n, xor8 a.h b.h⟩⟩
instance : Mul F8 := ⟨fun a b => ⟨mulN a.n b.n, mulN_lt a.h⟩⟩
def zero : F8 := ⟨0, by decide⟩
def one : F8 := ⟨1, by decide⟩
def inv (a : F8) : F8 := ⟨invN a.n, invN_lt _⟩
theorem add_n (a b : F8) : (a + b).n = a.n ^^^ b.n := rfl
theorem mul_n (a b : F8) : (a * b).n = mulN a.n b.n := rfl
theorem add_comm (a b : F8) : a + b = b + a := eq (Nat.xor_comm _ _)
theorem add_assoc (a b c : F8) : a + b + c = a + (b + c) := eq (Nat.xor_assoc _ _ _)
theorem mul_comm (a b : F8) : a * b = b * a := eq (mulN_comm a.h b.h)
theorem mul_assoc (a b c : F8) : a * b * c = a * (b * c) := eq (mulN_assoc a.h b.h c.h)
instance : Std.Commutative (α := F8) (· + ·) := ⟨add_comm⟩
instance : Std.Associative (α := F8) (· + ·) := ⟨add_assoc⟩
instance : Std.Commutative (α := F8) (· * ·) := ⟨mul_comm⟩
instance : Std.Associative (α := F8) (· * ·) := ⟨mul_assoc⟩
theorem add_self (a : F8) : a + a = zero := eq (Nat.xor_self _)
theorem add_zero (a : F8) : a + zero = a := eq (Nat.xor_zero _)
theorem zero_add (a : F8) : zero + a = a := eq (Nat.zero_xor _)
theorem mul_one (a : F8) : a * one = a := eq (mulN_one a.h)
theorem one_mul (a : F8) : one * a = a := by rw [mul_comm, mul_one]
theorem add_mul (a b c : F8) : (a + b) * c = a * c + b * c := eq (mulN_lin1 c.n a.n b.n a.h b.h)
theorem mul_add (a b c : F8) : a * (b + c) = a * b + a * c := eq (mulN_lin2 a.n b.n c.n b.h c.h)
theorem zero_mul (a : F8) : zero * a = zero := eq ((mulN_lin1 a.n).zero)
theorem mul_zero (a : F8) : a * zero = zero := eq ((mulN_lin2 a.n).zero)
theorem mul_inv {a : F8} (h : a ≠ zero) : a * inv a = one := eq (mulN_inv a.h (fun e => h (eq e)))
theorem eq_of_add {a b : F8} (h : a + b = zero) : a = b := by
  have : a + b + b = zero + b := by rw [h]
  rw [add_assoc, add_self, add_zero, zero_add] at this
  exact this
theorem mul_ne {a b : F8} (ha : a ≠ zero) (hb : b ≠ zero) : a * b ≠ zero := fun h => by
  have : inv a * (a * b) = b := by rw [← mul_assoc, mul_comm (inv a), mul_inv ha, one_mul]
  rw [h, mul_zero] at this
  exact hb this.symm
theorem one_ne : one ≠ zero := fun h => by
  have := congrArg F8.n h
  exact absurd this (by decide)
theorem add4 (a b c d : F8) : a + b + (c + d) = a + c + (b + d) := by ac_rfl
end F8
open F8 in
/-- Powers. -/
def pw (x : F8) : Nat → F8
  | 0 => F8.one
  | n + 1 => pw x n * x
theorem pw_add (x : F8) (i : Nat) : ∀ j, pw x (i + j) = pw x i * pw x j
  | 0 => (F8.mul_one _).symm
  | j + 1 => by rw [← Nat.add_assoc, pw, pw, pw_add x i j, F8.mul_assoc]
/-- Sums. -/
def sm : Nat → (Nat → F8) → F8
  | 0, _ => F8.zero
  | n + 1, f => sm n f + f n
theorem sm_congr : ∀ {n : Nat} {f g : Nat → F8}, (∀ i, i < n → f i = g i) → sm n f = sm n g
  | 0, _, _, _ => rfl
  | n + 1, f, g, h => by rw [sm, sm, sm_congr (fun i hi => h i (by omega)), h n (by omega)]
theorem sm_add : ∀ (n : Nat) (f g : Nat → F8), sm n (fun i => f i + g i) = sm n f + sm n g
  | 0, _, _ => (F8.add_zero _).symm
  | n + 1, f, g => by rw [sm, sm, sm, sm_add n, F8.add4]
theorem sm_mul (c : F8) : ∀ (n : Nat) (f : Nat → F8), sm n (fun i => c * f i) = c * sm n f
  | 0, _ => (F8.mul_zero _).symm
  | n + 1, f => by rw [sm, sm, sm_mul c n, F8.mul_add]
theorem sm_zero : ∀ {n : Nat} {f : Nat → F8}, (∀ i, i < n → f i = F8.zero) → sm n f = F8.zero
  | 0, _, _ => rfl
  | n + 1, f, h => by rw [sm, sm_zero (fun i hi => h i (by omega)), h n (by omega), F8.add_zero]
theorem sm_single {n : Nat} {f : Nat → F8} {k : Nat} (hk : k < n) (h : ∀ i, i < n → i ≠ k → f i = F8.zero) : sm n f = f k := by
  induction n with
  | zero => omega
  | succ n ih =>
    rw [sm]
    by_cases e : k = n
    · subst e
      rw [sm_zero (fun i hi => h i (by omega) (by omega)), F8.zero_add]
    · rw [ih (by omega) (fun i hi hne => h i (by omega) hne), h n (by omega) (fun e2 => e e2.symm), F8.add_zero]
/-! ### Series -/
def dlt : Nat → F8 := fun n => if n = 0 then F8.one else F8.zero
def tX (X : F8) (f : Nat → F8) : Nat → F8 := fun n => f n + (if n = 0 then F8.zero else X * f (n - 1))
theorem tX_zero (X : F8) (f : Nat → F8) : tX X f 0 = f 0 := F8.add_zero _
theorem tX_succ (X : F8) (f : Nat → F8) (n : Nat) : tX X f (n + 1) = f (n + 1) + X * f n := rfl
theorem tX_add (X : F8) (f g : Nat → F8) : tX X (fun n => f n + g n) = fun n => tX X f n + tX X g n := by
  funext n
  cases n with
  | zero => rw [tX_zero, tX_zero, tX_zero]
  | succ n => rw [tX_succ, tX_succ, tX_succ, F8.mul_add, F8.add4]
theorem tX_mul (X c : F8) (f : Nat → F8) : tX X (fun n => c * f n) = fun n => c * tX X f n := by
  funext n
  cases n with
  | zero => rw [tX_zero, tX_zero]
  | succ n =>
    have e : X * (c * f n) = c * (X * f n) := by ac_rfl
    rw [tX_succ, tX_succ, F8.mul_add, e]
theorem tX_comm (X Y : F8) (f : Nat → F8) : tX X (tX Y f) = tX Y (tX X f) := by
  funext n
  match n with
  | 0 => simp only [tX_zero]
  | 1 => simp only [tX_succ, tX_zero]; ac_rfl
  | n + 2 =>
    simp only [tX_succ, F8.mul_add]
    have : X * (Y * f n) = Y * (X * f n) := by ac_rfl
    rw [this]
    ac_rfl
theorem tX_nil (X : F8) : tX X (fun _ => F8.zero) = fun _ => F8.zero := by
  funext n
  cases n with
  | zero => rw [tX_zero]
  | succ n => rw [tX_succ, F8.mul_zero, F8.add_zero]
theorem tX_geo (X : F8) : tX X (pw X) = dlt := by
  funext n
  cases n with
  | zero => rw [tX_zero]; rfl
  | succ n => rw [tX_succ, pw, F8.mul_comm X, F8.add_self]; rfl
def pT (A : List F8) (f : Nat → F8) : Nat → F8 := A.foldr tX f
theorem pT_nil (f : Nat → F8) : pT [] f = f := rfl
theorem pT_cons (X : F8) (A : List F8) (f : Nat → F8) : pT (X :: A) f = tX X (pT A f) := rfl
theorem pT_in (X : F8) : ∀ (A : List F8) (f : Nat → F8), pT A (tX X f) = tX X (pT A f)
  | [], _ => rfl
  | Y :: A, f => by rw [pT_cons, pT_in X A, tX_comm, ← pT_cons]
theorem pT_add (A : List F8) (f g : Nat → F8) : pT A (fun n => f n + g n) = fun n => pT A f n + pT A g n := by
  induction A with
  | nil => rfl
  | cons X A ih => rw [pT_cons, ih, tX_add]; rfl
theorem pT_mul (A : List F8) (c : F8) (f : Nat → F8) : pT A (fun n => c * f n) = fun n => c * pT A f n := by
  induction A with
  | nil => rfl
  | cons X A ih => rw [pT_cons, ih, tX_mul]; rfl
theorem pT_zero (A : List F8) : pT A (fun _ => F8.zero) = fun _ => F8.zero := by
  induction A with
  | nil => rfl
  | cons X A ih => rw [pT_cons, ih, tX_nil]
theorem pT_perm {A B : List F8} (h : A.Perm B) (f : Nat → F8) : pT A f = pT B f := by
  induction h with
  | nil => rfl
  | cons X _ ih => rw [pT_cons, pT_cons, ih]
  | swap X Y A => rw [pT_cons, pT_cons, pT_cons, pT_cons, tX_comm]
  | trans _ _ h1 h2 => exact h1.trans h2
theorem pT_low (A : List F8) {f g : Nat → F8} {n : Nat} (h : ∀ m, m ≤ n → f m = g m) : ∀ m, m ≤ n → pT A f m = pT A g m := by
  induction A with
  | nil => exact h
  | cons X A ih =>
    intro m hm
    rw [pT_cons, pT_cons]
    cases m with
    | zero => rw [tX_zero, tX_zero, ih 0 hm]
    | succ m => rw [tX_succ, tX_succ, ih _ hm, ih m (by omega)]
theorem tX_top {X : F8} {f : Nat → F8} {N : Nat} (h : ∀ n, N ≤ n → f n = F8.zero) : ∀ n, N + 1 ≤ n → tX X f n = F8.zero := fun n hn => by
  obtain ⟨m, rfl⟩ := Nat.exists_eq_add_of_le' (show 1 ≤ n by omega)
  rw [tX_succ, h _ (by omega), h _ (by omega), F8.mul_zero, F8.add_zero]
theorem pT_top {A : List F8} {f : Nat → F8} {N : Nat} (h : ∀ n, N ≤ n → f n = F8.zero) : ∀ n, N + A.length ≤ n → pT A f n = F8.zero := by
  induction A with
  | nil => exact h
  | cons X A ih => exact fun n hn => tX_top ih n (by rw [List.length_cons] at hn; omega)
theorem dlt_top : ∀ n, 1 ≤ n → dlt n = F8.zero := fun n hn => if_neg (by omega)
/-- The series of errors e at X. -/
def srs : List (F8 × F8) → Nat → F8
  | [] => fun _ => F8.zero
  | (X, e) :: E => fun n => e * pw X n + srs E n
def lcs (E : List (F8 × F8)) : List F8 := E.map (·.1)
theorem srs_head (X e : F8) (E : List (F8 × F8)) : pT (lcs ((X, e) :: E)) (srs ((X, e) :: E)) = fun n => e * pT (lcs E) dlt n + tX X (pT (lcs E) (srs E)) n := by
  show tX X (pT (lcs E) (fun n => e * pw X n + srs E n)) = _
  rw [pT_add, pT_mul, tX_add, tX_mul, ← pT_in, tX_geo]
theorem srs_top : ∀ (E : List (F8 × F8)) (n : Nat), E.length ≤ n → pT (lcs E) (srs E) n = F8.zero
  | [], _, _ => rfl
  | (X, e) :: E, n, hn => by
    rw [List.length_cons] at hn
    rw [srs_head]
    show e * pT (lcs E) dlt n + tX X (pT (lcs E) (srs E)) n = _
    rw [pT_top (A := lcs E) dlt_top n (by simp [lcs]; omega), tX_top (srs_top E) n hn, F8.mul_zero, F8.add_zero]
theorem srs_perm {E E' : List (F8 × F8)} (h : E.Perm E') : srs E = srs E' := by
  induction h with
  | nil => rfl
  | cons x _ ih => obtain ⟨X, e⟩ := x; show (fun n => _ + _) = (fun n => _ + _); rw [ih]
  | swap x y E =>
    obtain ⟨X, e⟩ := x
    obtain ⟨Y, d⟩ := y
    funext n
    show d * pw Y n + (e * pw X n + srs E n) = e * pw X n + (d * pw Y n + srs E n)
    ac_rfl
  | trans _ _ h1 h2 => exact h1.trans h2
/-! ### Values -/
def ev (N : Nat) (f : Nat → F8) (y : F8) : F8 := sm N (fun i => f i * pw y i)
theorem ev_ext {f : Nat → F8} {N : Nat} (y : F8) (h : ∀ n, N ≤ n → f n = F8.zero) : ∀ k, ev (N + k) f y = ev N f y
  | 0 => rfl
  | k + 1 => by
    show ev (N + k) f y + f (N + k) * pw y (N + k) = _
    rw [ev_ext y h k, h _ (by omega), F8.zero_mul, F8.add_zero]
theorem ev_le {f : Nat → F8} {N M : Nat} (y : F8) (h : ∀ n, N ≤ n → f n = F8.zero) (hM : N ≤ M) : ev M f y = ev N f y := by
  obtain ⟨k, rfl⟩ := Nat.exists_eq_add_of_le hM
  exact ev_ext y h k
theorem ev_tX (X y : F8) (f : Nat → F8) : ∀ N, ev (N + 1) (tX X f) y = ev (N + 1) f y + X * y * ev N f y
  | 0 => by
    show F8.zero + tX X f 0 * pw y 0 = F8.zero + f 0 * pw y 0 + X * y * F8.zero
    rw [tX_zero, F8.mul_zero, F8.add_zero]
  | N + 1 => by
    show ev (N + 1) (tX X f) y + tX X f (N + 1) * pw y (N + 1) = (ev (N + 1) f y + f (N + 1) * pw y (N + 1)) + X * y * (ev N f y + f N * pw y N)
    rw [ev_tX X y f N, tX_succ, F8.add_mul, F8.mul_add]
    have : X * f N * pw y (N + 1) = X * y * (f N * pw y N) := by rw [pw]; ac_rfl
    rw [this]
    ac_rfl
theorem ev_tX' {X y : F8} {f : Nat → F8} {N : Nat} (h : ∀ n, N ≤ n → f n = F8.zero) : ev (N + 1) (tX X f) y = (F8.one + X * y) * ev N f y := by
  rw [ev_tX, ev_ext y h 1, F8.add_mul, F8.one_mul]
theorem ev_gam (y : F8) (A : List F8) : (∃ X ∈ A, X * y = F8.one) → ev (1 + A.length) (pT A dlt) y = F8.zero := by
  induction A with
  | nil => rintro ⟨X, h, _⟩; cases h
  | cons Y A ih =>
    rintro ⟨X, h, hX⟩
    rw [List.length_cons, ← Nat.add_assoc, pT_cons, ev_tX' (pT_top dlt_top)]
    rcases List.mem_cons.1 h with rfl | h
    · rw [hX, F8.add_self, F8.zero_mul]
    · rw [ih ⟨X, h, hX⟩, F8.mul_zero]
theorem ev_gam_ne (y : F8) (A : List F8) : (∀ X ∈ A, X * y ≠ F8.one) → ev (1 + A.length) (pT A dlt) y ≠ F8.zero := by
  induction A with
  | nil =>
    intro _
    show F8.zero + F8.one * F8.one ≠ F8.zero
    rw [F8.mul_one, F8.zero_add]
    exact F8.one_ne
  | cons Y A ih =>
    intro h
    rw [List.length_cons, ← Nat.add_assoc, pT_cons, ev_tX' (pT_top dlt_top)]
    refine F8.mul_ne (fun e => h Y List.mem_cons_self (F8.eq_of_add ?_)) (ih fun X hX => h X (List.mem_cons_of_mem _ hX))
    rw [F8.add_comm]; exact e
theorem ev_srs {X e y : F8} {E : List (F8 × F8)} (h : X * y = F8.one) : ev (1 + E.length) (pT (lcs ((X, e) :: E)) (srs ((X, e) :: E))) y = e * ev (1 + E.length) (pT (lcs E) dlt) y := by
  rw [srs_head]
  unfold ev
  rw [← sm_mul]
  have h1 : ev (E.length + 1) (tX X (pT (lcs E) (srs E))) y = F8.zero := by
    rw [ev_tX' (srs_top E), h, F8.add_self, F8.zero_mul]
  rw [Nat.add_comm] at h1
  unfold ev at h1
  have h2 := sm_add (1 + E.length) (fun i => e * (pT (lcs E) dlt i * pw y i)) (fun i => tX X (pT (lcs E) (srs E)) i * pw y i)
  rw [h1, F8.add_zero] at h2
  rw [← h2]
  refine sm_congr fun i _ => ?_
  rw [F8.add_mul, F8.mul_assoc]
/-! ### The derivative -/
def dv (f : Nat → F8) : Nat → F8 := fun n => if n % 2 = 0 then f (n + 1) else F8.zero
theorem dv_tX (X : F8) (f : Nat → F8) : dv (tX X f) = fun n => tX X (dv f) n + X * (f n) := by
  funext n
  cases n with
  | zero =>
    show tX X f 1 = tX X (dv f) 0 + X * f 0
    rw [tX_zero, tX_succ]
    rfl
  | succ n =>
    rw [tX_succ]
    unfold dv
    by_cases h : (n + 1) % 2 = 0
    · rw [if_pos h, if_pos h, if_neg (by omega), tX_succ, F8.mul_zero, F8.add_zero]
    · rw [if_neg h, if_neg h, if_pos (by omega), F8.zero_add, F8.add_self]
theorem ev_dv {X y : F8} {f : Nat → F8} {N : Nat} (hf : ∀ n, N ≤ n → f n = F8.zero) (h : X * y = F8.one) : ev N (dv (tX X f)) y = X * ev N f y := by
  have hd : ∀ n, N ≤ n → dv (tX X f) n = F8.zero := fun n hn => by
    unfold dv
    split
    · exact tX_top hf _ (by omega)
    · rfl
  have hd0 : ∀ n, N ≤ n → dv f n = F8.zero := fun n hn => by
    unfold dv
    split
    · exact hf _ (by omega)
    · rfl
  rw [← ev_ext y hd 1, dv_tX]
  have h1 : ev (N + 1) (tX X (dv f)) y = F8.zero := by rw [ev_tX' hd0, h, F8.add_self, F8.zero_mul]
  have h2 := sm_add (N + 1) (fun i => tX X (dv f) i * pw y i) (fun i => X * (f i * pw y i))
  unfold ev at h1
  rw [h1, F8.zero_add, sm_mul] at h2
  rw [← ev_ext y hf 1]
  unfold ev
  rw [← h2]
  refine sm_congr fun i _ => ?_
  rw [F8.add_mul, F8.mul_assoc]
/-! ### Lists as series -/
def c8 (n : Nat) : F8 := ⟨n % 256, Nat.mod_lt _ (by decide)⟩
theorem c8_n {n : Nat} (h : n < 256) : (c8 n).n = n := Nat.mod_eq_of_lt h
theorem c8_val (a : F8) : c8 a.n = a := F8.eq (c8_n a.h)
theorem c8_zero : c8 0 = F8.zero := rfl
theorem c8_one : c8 1 = F8.one := rfl
theorem c8_xor {a b : Nat} (ha : a < 256) (hb : b < 256) : c8 (a ^^^ b) = c8 a + c8 b := F8.eq (by rw [F8.add_n, c8_n (xor8 ha hb), c8_n ha, c8_n hb])
theorem c8_mul {a b : Nat} (ha : a < 256) (hb : b < 256) : c8 (mulN a b) = c8 a * c8 b := F8.eq (by rw [F8.mul_n, c8_n (mulN_lt ha), c8_n ha, c8_n hb])
theorem c8_inv {a : Nat} (ha : a < 256) : c8 (invN a) = (c8 a).inv := F8.eq (show (c8 (invN a)).n = invN (c8 a).n by rw [c8_n (invN_lt a), c8_n ha])
theorem c8_inj {a b : Nat} (ha : a < 256) (hb : b < 256) (h : c8 a = c8 b) : a = b := by
  have := congrArg F8.n h
  rwa [c8_n ha, c8_n hb] at this
/-- The coefficients of a list. -/
def cf (l : List Nat) (n : Nat) : F8 := c8 (l[n]?.getD 0)
theorem cf_out {l : List Nat} {n : Nat} (h : l.length ≤ n) : cf l n = F8.zero := by
  unfold cf
  rw [List.getElem?_eq_none h]
  rfl
theorem accK_get {out q : List Nat} {o f : Nat} (ho : B8 out) (hq : B8 q) (hf : f < 256) : ∀ k, k ≤ q.length → o + k ≤ out.length → ∀ n, cf (accK out o f q k) n = cf out n + (if o ≤ n ∧ n < o + k then c8 f * cf q (n - o) else F8.zero)
  | 0, _, _, n => by
    rw [if_neg (by omega), F8.add_zero]
    rfl
  | k + 1, hk, hl, n => by
    have ih := accK_get (o := o) ho hq hf k (by omega) (by omega)
    have hb := accK_b8 (o := o) (q := q) ho hf k
    unfold cf
    rw [accK]
    by_cases hn : o + k = n
    · subst hn
      rw [List.getElem?_set_self (by rw [accK_length]; omega), Option.getD_some, c8_xor (hb.getD _) (mulN_lt hf), c8_mul hf (hq.getD _)]
      have := ih (o + k)
      rw [if_neg (by omega), F8.add_zero] at this
      unfold cf at this
      rw [this, if_pos (by omega), Nat.add_sub_cancel_left]
    · rw [List.getElem?_set_ne hn]
      have := ih n
      unfold cf at this
      rw [this]
      congr 1
      by_cases h2 : o ≤ n ∧ n < o + k
      · rw [if_pos h2, if_pos (by omega)]
      · rw [if_neg h2, if_neg (by omega)]
/-- The product of a list and a series. -/
def mS (p : List Nat) (g : Nat → F8) (k n : Nat) : F8 := sm k (fun t => if t ≤ n then cf p t * g (n - t) else F8.zero)
theorem prodK_get {p q : List Nat} (hp : B8 p) (hq : B8 q) (hq0 : 0 < q.length) : ∀ k, k ≤ p.length → ∀ n, cf (prodK p q k) n = mS p (cf q) k n
  | 0, _, n => by
    show cf (List.replicate _ 0) n = F8.zero
    unfold cf
    rw [List.getElem?_replicate]
    split <;> rfl
  | k + 1, hk, n => by
    have ih := prodK_get hp hq hq0 k (by omega) n
    rw [prodK]
    unfold accA
    rw [accK_get (prodK_b8 hp k) hq (hp.getD k) q.length (Nat.le_refl _) (by rw [prodK_length]; omega), ih]
    show _ = mS p (cf q) k n + (if k ≤ n then cf p k * cf q (n - k) else F8.zero)
    congr 1
    by_cases h : k ≤ n
    · rw [if_pos h]
      by_cases h2 : n < k + q.length
      · rw [if_pos ⟨h, h2⟩]; rfl
      · rw [if_neg (by omega), cf_out (l := q) (by omega), F8.mul_zero]
    · rw [if_neg h, if_neg (by omega)]
theorem prodN_get {p q : List Nat} (hp : B8 p) (hq : B8 q) (hp0 : p ≠ []) (hq0 : q ≠ []) (n : Nat) : cf (prodN p q) n = mS p (cf q) p.length n := by
  unfold prodN
  rw [if_neg (fun h => h.elim hp0 hq0)]
  exact prodK_get hp hq (by cases q with | nil => exact absurd rfl hq0 | cons a q => simp) p.length (Nat.le_refl _) n
theorem mS_dlt {p : List Nat} (n : Nat) : mS p dlt p.length n = cf p n := by
  unfold mS
  by_cases h : n < p.length
  · rw [sm_single h (fun i hi hne => ?_), if_pos (Nat.le_refl _), Nat.sub_self]
    · exact F8.mul_one _
    · by_cases h2 : i ≤ n
      · rw [if_pos h2, dlt_top _ (by omega), F8.mul_zero]
      · rw [if_neg h2]
  · rw [cf_out (by omega)]
    refine sm_zero fun i hi => ?_
    rw [if_pos (by omega), dlt_top _ (by omega), F8.mul_zero]
theorem mS_tX (X : F8) (p : List Nat) (g : Nat → F8) (k : Nat) : mS p (tX X g) k = tX X (mS p g k) := by
  funext n
  cases n with
  | zero =>
    rw [tX_zero]
    refine sm_congr fun i _ => ?_
    by_cases h : i ≤ 0
    · rw [if_pos h, if_pos h, Nat.zero_sub, tX_zero]
    · rw [if_neg h, if_neg h]
  | succ n =>
    rw [tX_succ]
    unfold mS
    rw [← sm_mul, ← sm_add]
    refine sm_congr fun i _ => ?_
    show _ = (if i ≤ n + 1 then cf p i * g (n + 1 - i) else F8.zero) + X * (if i ≤ n then cf p i * g (n - i) else F8.zero)
    by_cases h : i ≤ n
    · have e : X * (cf p i * g (n - i)) = cf p i * (X * g (n - i)) := by ac_rfl
      rw [if_pos h, if_pos (by omega), if_pos (by omega), show n + 1 - i = n - i + 1 by omega, tX_succ, F8.mul_add, e]
    · rw [if_neg h, F8.mul_zero, F8.add_zero]
      by_cases h2 : i ≤ n + 1
      · rw [if_pos h2, if_pos h2, show n + 1 - i = 0 by omega, tX_zero]
      · rw [if_neg h2, if_neg h2]
theorem cf_two {x : Nat} (hx : x < 256) : cf [1, x] = tX (c8 x) dlt := by
  funext n
  match n with
  | 0 => rw [tX_zero]; rfl
  | 1 =>
    rw [tX_succ]
    show c8 x = F8.zero + c8 x * F8.one
    rw [F8.mul_one, F8.zero_add]
  | n + 2 =>
    rw [tX_succ, cf_out (by simp)]
    show F8.zero = F8.zero + c8 x * F8.zero
    rw [F8.mul_zero, F8.add_zero]
theorem prodN_two {p : List Nat} {x : Nat} (hp : B8 p) (hx : x < 256) (hp0 : p ≠ []) : cf (prodN p [1, x]) = tX (c8 x) (cf p) := by
  funext n
  rw [prodN_get hp (b8_two hx) hp0 (by simp), cf_two hx, mS_tX]
  congr 1
  funext m
  exact mS_dlt m
/-- The locators of erased positions. -/
def lcL (L : Nat) (er : List Nat) : List F8 := er.map fun a : Nat => c8 (powN (L - 1 - a))
theorem expN_pos {L a : Nat} (hL : L ≤ 255) (ha : a < L) : expN ((L : Int) - 1 - (a : Int)) = powN (L - 1 - a) := by
  unfold expN
  congr 1
  omega
theorem erN_get {L : Nat} (hL : L ≤ 255) {er : List Nat} (h : ∀ a ∈ er, a < L) : ∀ k, k ≤ er.length → cf (erN L (er.take k)) = pT (lcL L (er.take k)) dlt
  | 0, _ => by
    rw [List.take_zero]
    show cf [1] = dlt
    funext n
    match n with
    | 0 => rfl
    | n + 1 => rw [cf_out (by simp)]; rfl
  | k + 1, hk => by
    have hget := List.getElem?_eq_getElem (show k < er.length by omega)
    have hmem := h _ (List.getElem_mem (show k < er.length by omega))
    obtain ⟨h1, h2⟩ := erN_len L er k (by omega)
    rw [erN_take hget, expN_pos hL hmem, prodN_two h2 (powN_lt _) (by intro e; rw [e] at h1; cases h1), erN_get hL h k (by omega), List.take_add_one, hget]
    show tX _ _ = pT ((er.take k ++ [er[k]]).map _) dlt
    rw [List.map_append]
    show tX _ _ = (List.map _ (er.take k) ++ [c8 (powN (L - 1 - er[k]))]).foldr tX dlt
    rw [List.foldr_append]
    exact (pT_in _ _ _).symm
theorem erN_cf {L : Nat} (hL : L ≤ 255) {er : List Nat} (h : ∀ a ∈ er, a < L) : cf (erN L er) = pT (lcL L er) dlt := by
  have := erN_get hL h er.length (Nat.le_refl _)
  rwa [List.take_length] at this
theorem mS_pT (p : List Nat) (k : Nat) (A : List F8) (g : Nat → F8) : mS p (pT A g) k = pT A (mS p g k) := by
  induction A with
  | nil => rfl
  | cons X A ih => rw [pT_cons, mS_tX, ih]; rfl
theorem cf_take {l : List Nat} {k n : Nat} (h : n < k) : cf (l.take k) n = cf l n := by
  unfold cf
  rw [List.getElem?_take_of_lt h]
theorem xiN_cf {d : List Nat} {par : Nat} {er : List Nat} (hd : B8 d) (hL : d.length ≤ 255) (h : ∀ a ∈ er, a < d.length) (hp : 0 < par) {n : Nat} (hn : n < par) : cf (xiN d par er) n = pT (lcL d.length er) (cf (synN d par)) n := by
  unfold xiN
  rw [cf_take hn, prodN_get (synN_b8 hd par) (erN_full _ _).2 (by intro e; have := synN_length d par; rw [e] at this; simp at this; omega) (by intro e; have := (erN_full d.length er).1; rw [e] at this; simp at this), erN_cf hL h, mS_pT]
  congr 1
  funext m
  exact mS_dlt m
/-! ### Values of lists -/
theorem sm_succ' : ∀ (n : Nat) (f : Nat → F8), sm (n + 1) f = f 0 + sm n (fun i => f (i + 1))
  | 0, f => by show F8.zero + f 0 = f 0 + F8.zero; rw [F8.add_comm]
  | n + 1, f => by
    show sm (n + 1) f + f (n + 1) = f 0 + (sm n (fun i => f (i + 1)) + f (n + 1))
    rw [sm_succ' n f, F8.add_assoc]
theorem evalK_sum {x : Nat} (hx : x < 256) : ∀ (p : List Nat) (s : Nat), B8 p → s < 256 → c8 (evalK x s p) = c8 s * pw (c8 x) p.length + sm p.length (fun i => cf p i * pw (c8 x) (p.length - 1 - i))
  | [], s, _, _ => by
    show c8 s = c8 s * F8.one + F8.zero
    rw [F8.mul_one, F8.add_zero]
  | c :: p, s, hp, hs => by
    have hc : c < 256 := hp c List.mem_cons_self
    have hp' : B8 p := fun n hn => hp n (List.mem_cons_of_mem _ hn)
    show c8 (evalK x (mulN s x ^^^ c) p) = _
    rw [evalK_sum hx p _ hp' (xor8 (mulN_lt hs) hc), c8_xor (mulN_lt hs) hc, c8_mul hs hx, List.length_cons, sm_succ', F8.add_mul]
    have e1 : c8 s * c8 x * pw (c8 x) p.length = c8 s * pw (c8 x) (p.length + 1) := by rw [pw]; ac_rfl
    have e2 : sm p.length (fun i => cf (c :: p) (i + 1) * pw (c8 x) (p.length + 1 - 1 - (i + 1))) = sm p.length (fun i => cf p i * pw (c8 x) (p.length - 1 - i)) := sm_congr fun i hi => by
      rw [show p.length + 1 - 1 - (i + 1) = p.length - 1 - i by omega]
      rfl
    rw [e1, e2, F8.add_assoc]
    rfl
theorem evalN_sum {x : Nat} (hx : x < 256) {p : List Nat} (hp : B8 p) : c8 (evalN p x) = sm p.length (fun i => cf p i * pw (c8 x) (p.length - 1 - i)) := by
  unfold evalN
  rw [evalK_sum hx p 0 hp (by decide), c8_zero, F8.zero_mul, F8.zero_add]
theorem sm_rev : ∀ (n : Nat) (f : Nat → F8), sm n (fun i => f (n - 1 - i)) = sm n f
  | 0, _ => rfl
  | n + 1, f => by
    rw [sm_succ']
    have : sm n (fun i => f (n + 1 - 1 - (i + 1))) = sm n (fun i => f (n - 1 - i)) := sm_congr fun i _ => by rw [show n + 1 - 1 - (i + 1) = n - 1 - i by omega]
    rw [this, sm_rev n f, F8.add_comm]
    rfl
theorem atN_ev {p : List Nat} {y : Nat} (hp : B8 p) (hy : y < 256) : c8 (atN p y) = ev p.length (cf p) (c8 y) := by
  unfold atN
  rw [evalN_sum hy (fun n hn => hp n (List.mem_reverse.1 hn)), List.length_reverse]
  unfold ev
  rw [← sm_rev p.length (fun i => cf p i * pw (c8 y) i)]
  refine sm_congr fun i hi => ?_
  congr 1
  unfold cf
  rw [List.getElem?_reverse hi]
theorem derN_cf {p : List Nat} : cf (derN p) = dv (cf p) := by
  funext n
  unfold derN derK
  by_cases h : n < p.length - 1
  · unfold cf dv
    rw [List.getElem?_map, List.getElem?_range h]
    simp only [Option.map_some, Option.getD_some]
    by_cases h2 : n % 2 = 0
    · rw [if_pos ⟨h, h2⟩, if_pos h2]
    · rw [if_neg (by omega), if_neg h2]; rfl
  · rw [cf_out (by simp; omega)]
    unfold dv
    split
    · rw [cf_out (by omega)]
    · rfl
theorem derN_length (p : List Nat) : (derN p).length = p.length - 1 := derK_length _ _ _
theorem pw_pow : ∀ (i k : Nat), pw (c8 (powN i)) k = c8 (powN (i * k))
  | _, 0 => rfl
  | i, k + 1 => by rw [pw, pw_pow i k, ← c8_mul (powN_lt _) (powN_lt _), ← powN_add, Nat.mul_succ]
end Go.Proofs.YtlnjphggfbiabaaGreat

/-
  Plain theory: erasures are restored (dec_fix); Encode makes codewords (rsEnc_code).
-/
namespace Go.Proofs.YtlnjphggfbiabaaGreat
open Go.RowKit
set_option linter.unusedVariables false

/-! ### Erasures are restored -/
theorem sm_srs (X g : Nat → F8) (n L : Nat) : ∀ (er : List Nat), er.Nodup → (∀ a ∈ er, a < L) → sm L (fun j => if j ∈ er then g j * pw (X j) n else F8.zero) = srs (er.map fun a => (X a, g a)) n
  | [], _, _ => sm_zero fun i _ => if_neg (by simp)
  | a :: er, hn, hl => by
    have hna : a ∉ er := (List.nodup_cons.1 hn).1
    have e : sm L (fun j => if j ∈ a :: er then g j * pw (X j) n else F8.zero) = sm L (fun j => (if j = a then g j * pw (X j) n else F8.zero) + (if j ∈ er then g j * pw (X j) n else F8.zero)) := sm_congr fun j _ => by
      by_cases h : j = a
      · subst h
        rw [if_pos List.mem_cons_self, if_pos rfl, if_neg hna, F8.add_zero]
      · rw [if_neg h, F8.zero_add]
        by_cases h2 : j ∈ er
        · rw [if_pos h2, if_pos (List.mem_cons_of_mem _ h2)]
        · rw [if_neg h2, if_neg (fun h3 => (List.mem_cons.1 h3).elim h h2)]
    rw [e, sm_add, sm_single (hl a List.mem_cons_self) (fun i _ hne => if_neg hne), if_pos rfl, sm_srs X g n L er (List.nodup_cons.1 hn).2 (fun b hb => hl b (List.mem_cons_of_mem _ hb))]
    rfl
theorem inv_two : mulN 2 (invN 2) = 1 := mulN_inv (by decide) (by decide)
theorem repS_half {half : Nat} (hi : half < 256) (h2' : mulN 2 half = 1) : ∀ t, (repS half t).1 = powN t ∧ mulN (powN t) (repS half t).2 = 1
  | 0 => ⟨rfl, mulN_one (by decide)⟩
  | t + 1 => by
    obtain ⟨h1, h2⟩ := repS_half hi h2' t
    have hy := (repS_lt half t).2
    have e0 : repS half (t + 1) = (mulN (repS half t).1 2, mulN (repS half t).2 half) := rfl
    rw [e0, powN]
    refine ⟨by rw [h1, mulN_two (powN_lt t)], ?_⟩
    have e : c8 (mulN (dblN (powN t)) (mulN (repS half t).2 half)) = c8 1 := by
      rw [← mulN_two (powN_lt t), c8_mul (mulN_lt (powN_lt t)) (mulN_lt hy), c8_mul (powN_lt t) (by decide), c8_mul hy hi]
      have e1 : c8 (powN t) * c8 2 * (c8 (repS half t).2 * c8 half) = (c8 (powN t) * c8 (repS half t).2) * (c8 2 * c8 half) := by ac_rfl
      rw [e1, ← c8_mul (powN_lt t) hy, ← c8_mul (by decide) hi, h2, h2', c8_one, F8.mul_one]
    exact c8_inj (mulN_lt (dblN_lt (powN_lt t))) (by decide) e
theorem repS_inv (t : Nat) : (repS (invN 2) t).1 = powN t ∧ mulN (powN t) (repS (invN 2) t).2 = 1 := repS_half (invN_lt _) inv_two t
def dltR (psi om : List Nat) (t : Nat) : Nat := mulN (repS (invN 2) t).1 (mulN (atN om (repS (invN 2) t).2) (invN (atN (derN psi) (repS (invN 2) t).2)))
theorem repK_get (d psi om : List Nat) : ∀ k, k ≤ d.length → ∀ j, j < d.length → (repK d psi om (invN 2) k)[j]?.getD 0 = if d.length - 1 - j < k ∧ atN psi (repS (invN 2) (d.length - 1 - j)).2 = 0 then d[j]?.getD 0 ^^^ dltR psi om (d.length - 1 - j) else d[j]?.getD 0
  | 0, _, j, _ => by
    rw [if_neg (by omega)]
    rfl
  | k + 1, hk, j, hj => by
    have ih := repK_get d psi om k (by omega) j hj
    rw [repK]
    by_cases h : d.length - 1 - j = k
    · rw [if_neg (by omega)] at ih
      have hj2 : d.length - 1 - k = j := by omega
      rw [h, hj2]
      by_cases hz : atN psi (repS (invN 2) k).2 = 0
      · rw [if_pos hz, if_pos ⟨by omega, hz⟩, List.getElem?_set_self (by rw [repK_length]; omega), Option.getD_some, ih]
        rfl
      · rw [if_neg hz, if_neg (fun h2 => hz h2.2), ih]
    · have e : (d.length - 1 - j < k + 1 ∧ atN psi (repS (invN 2) (d.length - 1 - j)).2 = 0) ↔ (d.length - 1 - j < k ∧ atN psi (repS (invN 2) (d.length - 1 - j)).2 = 0) := by
        constructor
        · rintro ⟨h1, h2⟩; exact ⟨by omega, h2⟩
        · rintro ⟨h1, h2⟩; exact ⟨by omega, h2⟩
      simp only [e]
      rw [← ih]
      split
      · rw [List.getElem?_set_ne (by omega)]
      · rfl
/-- An increasing list has no element twice. -/
theorem nd_lt : ∀ {l : List Nat}, l.Pairwise (· < ·) → l.Nodup
  | [], _ => List.Pairwise.nil
  | a :: l, h => List.Pairwise.cons (fun b hb => Nat.ne_of_lt ((List.pairwise_cons.1 h).1 b hb)) (nd_lt (List.pairwise_cons.1 h).2)
structure EraOk (d c : List Nat) (par : Nat) (er : List Nat) : Prop where
  bd : B8 d
  bc : B8 c
  len : d.length = c.length
  le : c.length ≤ 255
  p1 : 0 < par
  code : ∀ i, i < par → evalN c (powN i) = 0
  lt : ∀ a ∈ er, a < c.length
  nd : er.Nodup
  off : ∀ j, j ∉ er → d[j]? = c[j]?
  few : er.length ≤ par
def errL (d c : List Nat) (L : Nat) (er : List Nat) : List (F8 × F8) := er.map fun a => (c8 (powN (L - 1 - a)), cf d a + cf c a)
section
variable {d c : List Nat} {par : Nat} {er : List Nat}
theorem lcs_errL (d c : List Nat) (L : Nat) (er : List Nat) : lcs (errL d c L er) = lcL L er := by
  unfold lcs errL lcL
  rw [List.map_map]
  rfl
theorem EraOk.syn (h : EraOk d c par er) {n : Nat} (hn : n < par) : cf (synN d par) n = srs (errL d c c.length er) n := by
  have hx : xK n = powN n := xK_pow n
  have e0 : cf (synN d par) n = c8 (evalN d (powN n)) := by
    unfold cf synN
    rw [List.getElem?_map, List.getElem?_range hn]
    simp only [Option.map_some, Option.getD_some]
    rw [hx]
  have e1 := evalN_sum (powN_lt n) h.bd
  have e2 := evalN_sum (powN_lt n) h.bc
  rw [h.code n hn] at e2
  rw [e0, e1, h.len, ← F8.add_zero (sm _ _)]
  have e3 : F8.zero = c8 0 := rfl
  unfold errL
  rw [e3, e2, ← sm_add, ← sm_srs (fun a => c8 (powN (c.length - 1 - a))) (fun a => cf d a + cf c a) n c.length er h.nd h.lt]
  refine sm_congr fun j _ => ?_
  rw [← F8.add_mul, pw_pow, pw_pow, Nat.mul_comm n]
  by_cases hj : j ∈ er
  · rw [if_pos hj]
  · rw [if_neg hj]
    have : cf d j = cf c j := by unfold cf; rw [h.off j hj]
    rw [this, F8.add_self, F8.zero_mul]
theorem EraOk.xi (h : EraOk d c par er) : cf (xiN d par er) = pT (lcL c.length er) (srs (errL d c c.length er)) := by
  funext n
  by_cases hn : n < par
  · rw [xiN_cf h.bd (by rw [h.len]; exact h.le) (by rw [h.len]; exact h.lt) h.p1 hn, h.len]
    exact pT_low _ (fun m hm => h.syn (by omega)) n (Nat.le_refl _)
  · rw [cf_out (by rw [xiN_length er h.p1]; omega), ← lcs_errL d c]
    refine (srs_top _ n ?_).symm
    have := h.few
    simp [errL]
    omega
theorem psi_cf (L : Nat) (er : List Nat) : cf (prodN [1] (erN L er)) = cf (erN L er) ∧ (prodN [1] (erN L er)).length = er.length + 1 ∧ B8 (prodN [1] (erN L er)) := by
  have h1 := erN_full L er
  have hne : erN L er ≠ [] := by intro e; rw [e] at h1; simp at h1
  have hb : B8 [1] := fun n hn => by rw [List.mem_singleton.1 hn]; decide
  refine ⟨?_, by rw [prodN_length (by simp) hne, h1.1]; simp, prodN_b8 hb⟩
  funext n
  rw [prodN_get hb h1.2 (by simp) hne]
  show F8.zero + (if 0 ≤ n then F8.one * cf (erN L er) (n - 0) else F8.zero) = _
  rw [if_pos (Nat.zero_le _), F8.zero_add, F8.one_mul, Nat.sub_zero]
theorem EraOk.psi (h : EraOk d c par er) : cf (prodN [1] (erN c.length er)) = pT (lcL c.length er) dlt := (psi_cf _ _).1.trans (erN_cf h.le h.lt)
theorem f8_ne_one {X X' y : F8} (h : X * y = F8.one) (h' : X' * y = F8.one) : X' = X := by
  have : X' * (X * y) = X * (X' * y) := by ac_rfl
  rw [h, h', F8.mul_one, F8.mul_one] at this
  exact this
/-- The value at a position. -/
theorem EraOk.at (h : EraOk d c par er) {j : Nat} (hj : j < c.length) :
    (j ∉ er → atN (prodN [1] (erN c.length er)) (repS (invN 2) (c.length - 1 - j)).2 ≠ 0) ∧
    (j ∈ er → atN (prodN [1] (erN c.length er)) (repS (invN 2) (c.length - 1 - j)).2 = 0 ∧ d[j]?.getD 0 ^^^ dltR (prodN [1] (erN c.length er)) (xiN d par er) (c.length - 1 - j) = c[j]?.getD 0) := by
  obtain ⟨r1, r2⟩ := repS_inv (c.length - 1 - j)
  obtain ⟨l1, l2⟩ := repS_lt (invN 2) (c.length - 1 - j)
  have hle := h.le
  obtain ⟨p1, p2, p3⟩ := psi_cf c.length er
  have hXy : c8 (powN (c.length - 1 - j)) * c8 (repS (invN 2) (c.length - 1 - j)).2 = F8.one := by rw [← c8_mul (powN_lt _) l2, r2]; rfl
  have eP := atN_ev p3 l2
  rw [h.psi, p2, Nat.add_comm er.length 1] at eP
  have ll : (lcL c.length er).length = er.length := by simp [lcL]
  constructor
  · intro hne e
    rw [e, ← ll] at eP
    refine ev_gam_ne _ (lcL c.length er) (fun X hX hXe => ?_) eP.symm
    obtain ⟨a, ha, rfl⟩ := List.mem_map.1 hX
    have e3 := c8_inj (powN_lt _) (powN_lt _) (f8_ne_one hXy hXe)
    have hal := h.lt a ha
    have := powN_inj (by omega) (by omega) e3
    have : a = j := by omega
    subst this
    exact hne ha
  · intro hin
    have hz : atN (prodN [1] (erN c.length er)) (repS (invN 2) (c.length - 1 - j)).2 = 0 := by
      refine c8_inj (atN_lt p3 _) (by decide) ?_
      have hmem : c8 (powN (c.length - 1 - j)) ∈ lcL c.length er := List.mem_map_of_mem (f := fun a : Nat => c8 (powN (c.length - 1 - a))) hin
      rw [eP, ← ll, ev_gam _ _ ⟨_, hmem, hXy⟩]
      exact c8_zero.symm
    refine ⟨hz, ?_⟩
    have hp := List.perm_cons_erase hin
    have hpos : 0 < er.length := List.length_pos_of_mem hin
    have hlen : (er.erase j).length + 1 = er.length := by rw [List.length_erase_of_mem hin]; omega
    obtain ⟨X, hX⟩ : ∃ X, c8 (powN (c.length - 1 - j)) = X := ⟨_, rfl⟩
    obtain ⟨y, hy⟩ : ∃ y, c8 (repS (invN 2) (c.length - 1 - j)).2 = y := ⟨_, rfl⟩
    obtain ⟨E', hE'⟩ : ∃ E', errL d c c.length (er.erase j) = E' := ⟨_, rfl⟩
    have eE : (errL d c c.length er).Perm ((X, cf d j + cf c j) :: E') := by
      rw [← hX, ← hE']
      exact hp.map _
    have eL : (lcL c.length er).Perm (X :: lcs E') := by
      rw [← hX, ← hE', lcs_errL]
      exact hp.map _
    have hEl : 1 + E'.length = er.length := by rw [← hE', ← hlen]; simp [errL]; omega
    have hEl2 : (lcs E').length = E'.length := by simp [lcs]
    rw [hX, hy] at hXy
    -- the evaluator
    have eO := atN_ev (xiN_b8 h.bd par er) l2
    rw [h.xi, xiN_length er h.p1, hy, srs_perm eE, pT_perm eL] at eO
    have eO2 : ev par (pT (X :: lcs E') (srs ((X, cf d j + cf c j) :: E'))) y = ev (1 + E'.length) (pT (lcs ((X, cf d j + cf c j) :: E')) (srs ((X, cf d j + cf c j) :: E'))) y :=
      ev_le y (fun n hn => srs_top ((X, cf d j + cf c j) :: E') n (by rw [List.length_cons]; omega)) (by have := h.few; omega)
    rw [eO2, ev_srs hXy] at eO
    -- the slope
    have eD := atN_ev (derN_b8 p3) l2
    rw [derN_cf, derN_length, p2, h.psi, hy, pT_perm eL, pT_cons, Nat.add_sub_cancel, ev_dv (N := er.length) (fun n hn => pT_top dlt_top n (by omega)) hXy, ← hEl] at eD
    have hG : ev (1 + E'.length) (pT (lcs E') dlt) y ≠ F8.zero := by
      rw [← hEl2]
      refine ev_gam_ne y _ (fun X' hX' hXe => ?_)
      rw [← hE', lcs_errL] at hX'
      obtain ⟨a, ha, rfl⟩ := List.mem_map.1 hX'
      have e3 := f8_ne_one hXy hXe
      rw [← hX] at e3
      have e4 := c8_inj (powN_lt _) (powN_lt _) e3
      have hal := h.lt a (List.mem_of_mem_erase ha)
      have := powN_inj (by omega) (by omega) e4
      have : a = j := by omega
      subst this
      exact (h.nd.not_mem_erase) ha
    generalize ev (1 + E'.length) (pT (lcs E') dlt) y = G at *
    have hX0 : X ≠ F8.zero := fun e => by rw [e, F8.zero_mul] at hXy; exact F8.one_ne hXy.symm
    have hlt : dltR (prodN [1] (erN c.length er)) (xiN d par er) (c.length - 1 - j) < 256 := mulN_lt l1
    have eR : c8 (dltR (prodN [1] (erN c.length er)) (xiN d par er) (c.length - 1 - j)) = cf d j + cf c j := by
      unfold dltR
      rw [c8_mul l1 (mulN_lt (atN_lt (xiN_b8 h.bd par er) _)), c8_mul (atN_lt (xiN_b8 h.bd par er) _) (invN_lt _), c8_inv (atN_lt (derN_b8 p3) _), eO, eD, r1, hX]
      have e5 : X * ((cf d j + cf c j) * G * (X * G).inv) = (cf d j + cf c j) * ((X * G) * (X * G).inv) := by ac_rfl
      rw [e5, F8.mul_inv (F8.mul_ne hX0 hG), F8.mul_one]
    refine c8_inj (xor8 (h.bd.getD _) hlt) (h.bc.getD _) ?_
    rw [c8_xor (h.bd.getD _) hlt, eR]
    show cf d j + (cf d j + cf c j) = cf c j
    rw [← F8.add_assoc, F8.add_self, F8.zero_add]
theorem EraOk.rep (h : EraOk d c par er) : repN d (prodN [1] (erN c.length er)) (xiN d par er) = c := by
  have hl : (repN d (prodN [1] (erN c.length er)) (xiN d par er)).length = c.length := by unfold repN; rw [repK_length, h.len]
  refine List.ext_getElem? fun j => ?_
  by_cases hj : j < c.length
  · have e : (repN d (prodN [1] (erN c.length er)) (xiN d par er))[j]?.getD 0 = c[j]?.getD 0 := by
      unfold repN
      rw [repK_get _ _ _ _ (Nat.le_refl _) _ (by rw [h.len]; exact hj), h.len]
      obtain ⟨h1, h2⟩ := h.at hj
      by_cases hin : j ∈ er
      · obtain ⟨h3, h4⟩ := h2 hin
        rw [if_pos ⟨by omega, h3⟩, h4]
      · rw [if_neg (fun h5 => h1 hin h5.2), h.off j hin]
    rw [List.getElem?_eq_getElem (by rw [hl]; exact hj), List.getElem?_eq_getElem hj] at e ⊢
    rw [Option.getD_some, Option.getD_some] at e
    rw [e]
  · rw [List.getElem?_eq_none (by omega), List.getElem?_eq_none (by omega)]
theorem degK_lt {p : List Nat} {N : Nat} (h : ∀ n, N ≤ n → p[n]?.getD 0 = 0) : ∀ k, degK p k < N ∨ degK p k = -1
  | 0 => Or.inr rfl
  | k + 1 => by
    rw [degK]
    split
    · exact degK_lt h k
    · rename_i hne
      left
      have : ¬ N ≤ k := fun hk => hne (h k hk)
      omega
theorem EraOk.deg (h : EraOk d c par er) : 2 * degN (xiN d par er) < (par : Int) + er.length := by
  have hf := h.few
  have hp := h.p1
  have hz : ∀ n, er.length ≤ n → (xiN d par er)[n]?.getD 0 = 0 := fun n hn => by
    refine c8_inj ((xiN_b8 h.bd par er).getD _) (by decide) ?_
    show cf (xiN d par er) n = _
    rw [h.xi, ← lcs_errL d c, srs_top _ n (by simp [errL]; omega)]
    rfl
  rcases degK_lt hz (xiN d par er).length with h1 | h1
  · show 2 * degK _ _ < _
    omega
  · show 2 * degK _ _ < _
    rw [h1]
    omega
theorem zerB_iff {l : List Nat} : zerB l = true ↔ ∀ n ∈ l, n = 0 := by simp [zerB]
theorem EraOk.zer (h : EraOk d c par []) : zerB (xiN d par []) = true := by
  rw [zerB_iff]
  intro x hx
  obtain ⟨n, hn, rfl⟩ := List.mem_iff_getElem.1 hx
  have : cf (xiN d par []) n = F8.zero := by rw [h.xi]; rfl
  unfold cf at this
  rw [List.getElem?_eq_getElem hn, Option.getD_some] at this
  exact c8_inj (xiN_b8 h.bd par [] _ (List.getElem_mem hn)) (by decide) this
theorem chK_none {a b er : List Nat} (h : ∀ j, j ∉ er → a[j]? = b[j]?) : ∀ k, (chK a b er k).2 = 0
  | 0 => rfl
  | k + 1 => by
    rw [chK]
    split
    · exact chK_none h k
    · rename_i hne
      have : k ∈ er := Classical.byContradiction fun hn => hne (h k hn)
      show (if k ∈ er then _ else _) = 0
      rw [if_pos this]
      exact chK_none h k
theorem valid_iff {c : List Nat} {par : Nat} (hc : B8 c) : validN c par = true ↔ ∀ i, i < par → evalN c (powN i) = 0 := by
  unfold validN
  rw [zerB_iff]
  unfold synN
  constructor
  · intro h i hi
    have := h (evalN c (xK i)) (List.mem_map.2 ⟨i, List.mem_range.2 hi, rfl⟩)
    rwa [xK_pow] at this
  · intro h n hn
    obtain ⟨i, hi, rfl⟩ := List.mem_map.1 hn
    rw [xK_pow]
    exact h i (List.mem_range.1 hi)
end
/-- A word that differs from a codeword at erased positions only is decoded as it. -/
theorem dec_fix {s : ByteArray} {c : List Nat} {par : Nat} {er : List Nat} (h : EraOk (sN s) c par er) : 2 * degN (xiN (sN s) par er) < (par : Int) + er.length ∧ ∃ n, decN s par er = (natS c, n, 0) := by
  have hs : s.size = c.length := by rw [← sN_length, h.len]
  refine ⟨h.deg, ?_⟩
  unfold decN
  rw [if_neg (by have := h.few; omega), hs, h.rep]
  by_cases hn : er = []
  · subst hn
    rw [if_pos ⟨rfl, h.zer⟩]
    refine ⟨0, ?_⟩
    have : sN s = c := List.ext_getElem? fun j => h.off j (by simp)
    rw [← this, natS_sN]
  · rw [if_neg (fun h2 => hn h2.1), chK_none h.off, if_pos ⟨(valid_iff h.bc).2 h.code, by have := h.few; omega⟩]
    exact ⟨_, rfl⟩
/-! ### Encode makes codewords -/
theorem sm_split (f : Nat → F8) (a : Nat) : ∀ b, sm (a + b) f = sm a f + sm b (fun i => f (a + i))
  | 0 => (F8.add_zero _).symm
  | b + 1 => by
    show sm (a + b) f + f (a + b) = _
    rw [sm_split f a b, F8.add_assoc]
    rfl
theorem evalN_acc {out q : List Nat} {o f y : Nat} (ho : B8 out) (hq : B8 q) (hf : f < 256) (hy : y < 256) (hl : o + q.length ≤ out.length) (hz : evalN q y = 0) : evalN (accA out o f q) y = evalN out y := by
  have hb := accA_b8 (o := o) (q := q) ho hf
  refine c8_inj (evaln_lt hb) (evaln_lt ho) ?_
  rw [evalN_sum hy hb, evalN_sum hy ho, accA_length]
  have eq0 := evalN_sum hy hq
  rw [hz, c8_zero] at eq0
  obtain ⟨r, hr⟩ : ∃ r, out.length = o + q.length + r := ⟨out.length - (o + q.length), by omega⟩
  have e1 : sm out.length (fun i => cf (accA out o f q) i * pw (c8 y) (out.length - 1 - i)) = sm out.length (fun i => cf out i * pw (c8 y) (out.length - 1 - i) + (if o ≤ i ∧ i < o + q.length then c8 f * cf q (i - o) else F8.zero) * pw (c8 y) (out.length - 1 - i)) := sm_congr fun i hi => by
    have := accK_get ho hq hf q.length (Nat.le_refl _) hl i
    unfold accA
    rw [this, F8.add_mul]
  rw [e1, sm_add]
  have e2 : sm out.length (fun i => (if o ≤ i ∧ i < o + q.length then c8 f * cf q (i - o) else F8.zero) * pw (c8 y) (out.length - 1 - i)) = F8.zero := by
    rw [hr, sm_split, sm_split, sm_zero (n := o), sm_zero (n := r), F8.add_zero, F8.zero_add]
    · have e3 : sm q.length (fun i => (if o ≤ o + i ∧ o + i < o + q.length then c8 f * cf q (o + i - o) else F8.zero) * pw (c8 y) (o + q.length + r - 1 - (o + i))) = sm q.length (fun i => (c8 f * pw (c8 y) r) * (cf q i * pw (c8 y) (q.length - 1 - i))) := sm_congr fun i hi => by
        rw [if_pos (by omega), Nat.add_sub_cancel_left, show o + q.length + r - 1 - (o + i) = r + (q.length - 1 - i) by omega, pw_add]
        ac_rfl
      rw [e3, sm_mul, ← eq0, F8.mul_zero]
    · intro i hi
      rw [if_neg (by omega), F8.zero_mul]
    · intro i hi
      rw [if_neg (by omega), F8.zero_mul]
  rw [e2, F8.add_zero]
theorem invN_one : invN 1 = 1 := by
  have h := mulN_inv (a := 1) (by decide) (by decide)
  rw [mulN_comm (by decide) (invN_lt _), mulN_one (invN_lt _)] at h
  exact h
theorem evalN_append (a b : List Nat) (y : Nat) : evalN (a ++ b) y = evalK y (evalN a y) b := by
  unfold evalN evalK
  rw [List.foldl_append]
theorem evalN_zeros (n y : Nat) : evalN (List.replicate n 0) y = 0 := by
  induction n with
  | zero => rfl
  | succ n ih =>
    rw [List.replicate_succ', evalN_append, ih]
    show mulN 0 y ^^^ 0 = 0
    rw [(mulN_lin1 y).zero]
    rfl
theorem accA_get {out q : List Nat} {o f n : Nat} (ho : B8 out) (hq : B8 q) (hf : f < 256) (hl : o + q.length ≤ out.length) : cf (accA out o f q) n = cf out n + (if o ≤ n ∧ n < o + q.length then c8 f * cf q (n - o) else F8.zero) := accK_get ho hq hf q.length (Nat.le_refl _) hl n
section
variable {q r0 : List Nat} {m : Nat}
theorem remK_ok (hq : B8 q) (h0 : B8 r0) (hq0 : cf q 0 = F8.one) (hq2 : 0 < q.length) (hl : m + q.length ≤ r0.length + 1) : ∀ k, k ≤ m →
    (∀ y, y < 256 → evalN q y = 0 → evalN (remK 1 q r0 k) y = evalN r0 y) ∧ ∀ j, j < k → cf (remK 1 q r0 k) j = F8.zero
  | 0, _ => ⟨fun _ _ _ => rfl, fun j hj => absurd hj (by omega)⟩
  | k + 1, hk => by
    obtain ⟨h1, h2⟩ := remK_ok hq h0 hq0 hq2 hl k (by omega)
    have hb := remK_b8 (inv := 1) (q := q) h0 k
    have hlk := remK_length 1 q r0 k
    have hf : mulN ((remK 1 q r0 k)[k]?.getD 0) 1 < 256 := mulN_lt (hb.getD k)
    refine ⟨fun y hy hz => ?_, fun j hj => ?_⟩
    · rw [remK, evalN_acc hb hq hf hy (by omega) hz, h1 y hy hz]
    · rw [remK, accA_get hb hq hf (by omega)]
      by_cases e : j = k
      · subst e
        rw [if_pos (by omega), Nat.sub_self, hq0, F8.mul_one, mulN_one (hb.getD j)]
        exact F8.add_self _
      · rw [if_neg (by omega), h2 j (by omega), F8.add_zero]
end
theorem gen_roots {par : Nat} (h : par = 2 ∨ par = 4) : ∀ i, i < par → evalN (genN par) (powN i) = 0 := by
  rcases h with rfl | rfl
  · decide +kernel
  · decide +kernel
theorem gen_cf0 {par : Nat} (h : par = 2 ∨ par = 4) : cf (genN par) 0 = F8.one := by
  unfold cf
  rw [gen_head h]
  rfl
theorem remN_eval {p : List Nat} {par : Nat} (h : par = 2 ∨ par = 4) (hp : B8 p) {i : Nat} (hi : i < par) : evalN (remN p (genN par)) (powN i) = evalN p (powN i) := by
  obtain ⟨g1, g2⟩ := genN_len par
  have hh : (genN par).headD 0 = 1 := by rcases h with rfl | rfl <;> decide +kernel
  have hB0 : B8 (List.replicate ((genN par).length - 1) 0 ++ p) := (B8.zeros _).append hp
  have hl0 : (List.replicate ((genN par).length - 1) 0 ++ p).length = par + p.length := by simp [g1]
  obtain ⟨h1, h2⟩ := remK_ok (m := p.length) g2 hB0 (gen_cf0 h) (by omega) (by omega) p.length (Nat.le_refl _)
  unfold remN
  rw [hh, invN_one]
  have e1 := h1 (powN i) (powN_lt i) (gen_roots h i hi)
  rw [evalN_append, evalN_zeros] at e1
  generalize hr : remK 1 (genN par) (List.replicate ((genN par).length - 1) 0 ++ p) p.length = r at *
  have hbr : B8 r := by rw [← hr]; exact remK_b8 hB0 _
  have hlr : r.length = par + p.length := by rw [← hr, remK_length, hl0]
  have e2 : r.take p.length = List.replicate p.length 0 := List.ext_getElem? fun j => by
    by_cases hj : j < p.length
    · rw [List.getElem?_take_of_lt hj, List.getElem?_replicate, if_pos hj]
      have := h2 j hj
      unfold cf at this
      rw [List.getElem?_eq_getElem (by omega), Option.getD_some] at this
      rw [List.getElem?_eq_getElem (by omega), c8_inj (b := 0) (hbr _ (List.getElem_mem _)) (by decide) this]
    · rw [List.getElem?_eq_none (by rw [List.length_take]; omega), List.getElem?_eq_none (by simp; omega)]
  have e3 : r = List.replicate p.length 0 ++ r.drop p.length := by rw [← e2, List.take_append_drop]
  rw [e3, evalN_append, evalN_zeros] at e1
  exact e1
theorem rsEnc_code {d : List Nat} {par : Nat} (h : par = 2 ∨ par = 4) (hd : B8 d) {i : Nat} (hi : i < par) : evalN (rsEnc d par) (powN i) = 0 := by
  have hp : B8 (d ++ List.replicate par 0) := hd.append (B8.zeros _)
  have hr : B8 (remN (d ++ List.replicate par 0) (genN par)) := remN_b8 hp
  have e := remN_eval h hp hi
  have hl : (remN (d ++ List.replicate par 0) (genN par)).length = par := by rw [remN_length, (genN_len par).1]; rfl
  unfold rsEnc
  have hs : evalN d (powN i) < 256 := evaln_lt hd
  have hy := powN_lt i
  rw [evalN_append]
  refine c8_inj (evalK_lt hr hs) (by decide) ?_
  rw [evalK_sum hy _ _ hr hs, ← evalN_sum hy hr, e, hl, evalN_append]
  rw [evalK_sum hy _ _ (B8.zeros _) hs, List.length_replicate]
  have : sm par (fun j => cf (List.replicate par 0) j * pw (c8 (powN i)) (par - 1 - j)) = F8.zero := sm_zero fun j hj => by
    unfold cf
    rw [List.getElem?_replicate, if_pos hj]
    exact F8.zero_mul _
  rw [this, F8.add_zero, F8.add_self]
  rfl
theorem rsEnc_len {d : List Nat} {par : Nat} (hd : B8 d) : (rsEnc d par).length = d.length + par ∧ B8 (rsEnc d par) := by
  have hp : B8 (d ++ List.replicate par 0) := hd.append (B8.zeros _)
  refine ⟨?_, hd.append (remN_b8 hp)⟩
  unfold rsEnc
  rw [List.length_append, remN_length, (genN_len par).1]
  rfl
end Go.Proofs.YtlnjphggfbiabaaGreat
