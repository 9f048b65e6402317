/-
  The walk of the law EndianOrders.
-/
import Derived.Test.YtlllcnbaebfbiaaRefBoth
namespace Go.Proofs.Ytlllcnbaebfbiaa
open Go.RowKit
set_option linter.unusedVariables false

theorem valN_rev_cons (c : UInt8) (t : List UInt8) : valN (c :: t).reverse = valN t.reverse + 256 ^ t.length * c.toNat := by
  rw [List.reverse_cons, valN_snoc, List.length_reverse]
theorem order_less (l r : List UInt8) (h : l.length = r.length) : Op.bytesLess l r = decide (valN l.reverse < valN r.reverse) := by
  induction l generalizing r with
  | nil => cases r with
    | nil => rfl
    | cons => simp at h
  | cons c t ih => cases r with
    | nil => simp at h
    | cons d u =>
      have hl : t.length = u.length := by simpa using h
      have i := ih u hl
      have h1 := valN_lt t.reverse
      have h2 := valN_lt u.reverse
      rw [List.length_reverse] at h1 h2
      rw [valN_rev_cons, valN_rev_cons, ← hl]
      rw [← hl] at h2
      have hp : 0 < 256 ^ t.length := Nat.pow_pos (by omega)
      generalize 256 ^ t.length = p at *
      unfold Op.bytesLess
      by_cases e1 : c < d
      · have e1' : c.toNat + 1 ≤ d.toNat := e1
        have := Nat.mul_le_mul_left p e1'
        rw [Nat.mul_add, Nat.mul_one] at this
        simp [e1]
        omega
      · by_cases e2 : d < c
        · have e2' : d.toNat + 1 ≤ c.toNat := e2
          have := Nat.mul_le_mul_left p e2'
          rw [Nat.mul_add, Nat.mul_one] at this
          have e3 : c ≠ d := fun e => by subst e; exact e1 e2
          have f1 : decide (c < d) = false := decide_eq_false e1
          have f2 : (c == d) = false := by simpa using e3
          have f3 : decide (valN t.reverse + p * c.toNat < valN u.reverse + p * d.toNat) = false := decide_eq_false (by omega)
          rw [f1, f2, f3]
          rfl
        · have e3 : c = d := by
            apply UInt8.toNat_inj.1
            have a1 : ¬ c.toNat < d.toNat := e1
            have a2 : ¬ d.toNat < c.toNat := e2
            omega
          subst e3
          simp [i]
theorem order_eq (l r : List UInt8) (h : l.length = r.length) : (l == r) = decide (valN l.reverse = valN r.reverse) := by
  rw [Bool.eq_iff_iff, beq_iff_eq, decide_eq_true_iff]
  constructor
  · rintro rfl; rfl
  · intro e
    have := valN_inj _ _ (by simpa using h) e
    simpa using this

set_option maxHeartbeats 400000 in
theorem orders_no (a b : ByteArray) (w : World) (ha : a.size ≤ 9223372036854775807) (hb : b.size ≤ 9223372036854775807) (h : a.size ≠ b.size ∨ a.size < 1 ∨ 7 < a.size) :
    Calls Try.prog 7 #[.string a, .string b] w fun e w' => e = .returned (.bool true) ∧ Below w.heap.size w w' := by
  by_cases h1 : a.size = b.size
  · have h1' : ((a.size : Int) != (b.size : Int)) = false := by simp; omega
    by_cases h2 : (a.size : Int) < 1
    · clear h h1
      go_enter Try.func7, Try.ntmps7
      go_wp2_with (first
        | (go_at_call 10; refine (awake_any _).mono ?_; rintro e w1 ⟨rfl, hb1⟩)
        | fail)
      go_ret
      exact ⟨rfl, hb1⟩
    · have h3 : 7 < (a.size : Int) := by omega
      clear h h1
      go_enter Try.func7, Try.ntmps7
      go_wp2_with (first
        | (go_at_call 10; refine (awake_any _).mono ?_; rintro e w1 ⟨rfl, hb1⟩)
        | fail)
      go_ret
      exact ⟨rfl, hb1⟩
  · have h1' : ((a.size : Int) != (b.size : Int)) = true := by simp; omega
    clear h h1
    go_enter Try.func7, Try.ntmps7
    go_wp2_with (first
      | (go_at_call 10; refine (awake_any _).mono ?_; rintro e w1 ⟨rfl, hb1⟩)
      | fail)
    go_ret
    exact ⟨rfl, hb1⟩

theorem partB_all (s : ByteArray) : partB s 0 s.size = s.data.toList := by
  rw [partB, List.drop_zero, List.take_of_length_le (by simp)]

set_option maxHeartbeats 1000000 in
theorem orders_yes (a b : ByteArray) (w : World) (h1 : b.size = a.size) (h2 : 1 ≤ a.size) (h3 : a.size ≤ 7) :
    Calls Try.prog 7 #[.string a, .string b] w fun e w' => e = .returned (.bool true) ∧ Below w.heap.size w w' := by
  have ca : ∀ w, _ := fun w => readbig_any a 0 a.size w (by omega)
  have cb : ∀ w, _ := fun w => readbig_any b 0 b.size w (by omega)
  have hla : nBe a 0 a.size < 256 ^ a.size := by have := valN_lt (partB a 0 a.size).reverse; rw [List.length_reverse, partB_length (by omega)] at this; exact this
  have hlb : nBe b 0 b.size < 256 ^ a.size := by have := valN_lt (partB b 0 b.size).reverse; rw [List.length_reverse, partB_length (by omega), h1] at this; rw [h1]; exact this
  have h7 : 256 ^ a.size ≤ 72057594037927936 := by
    have := Nat.pow_le_pow_right (show 0 < 256 by omega) h3
    have e : (256 : Nat) ^ 7 = 72057594037927936 := by decide
    omega
  rw [rV_in (by unfold sizeBad; omega) (by simp [insideB]), rE_in (by unfold sizeBad; omega) (by simp [insideB]), rdV, rdE, if_pos (by omega), if_pos (by omega)] at ca
  rw [rV_in (by unfold sizeBad; omega) (by simp [insideB]), rE_in (by unfold sizeBad; omega) (by simp [insideB]), rdV, rdE, if_pos (by omega), if_pos (by omega)] at cb
  have hlen : a.data.toList.length = b.data.toList.length := by simp; omega
  have o1 := order_less _ _ hlen
  have o2 := order_eq _ _ hlen
  have na : nBe a 0 a.size = valN a.data.toList.reverse := by show valN (partB a 0 a.size).reverse = _; rw [partB_all]
  have nb : nBe b 0 b.size = valN b.data.toList.reverse := by show valN (partB b 0 b.size).reverse = _; rw [partB_all]
  rw [← na, ← nb, ← ByteArray.toList_eq, ← ByteArray.toList_eq] at o1 o2
  have hsh : ∃ p : Nat, p = 256 ^ a.size ∧ (2 : Int) ^ (8 * a.size) = p := ⟨_, rfl, by rw [Int.pow_mul, Int.natCast_pow]; rfl⟩
  obtain ⟨p, hp, hsh⟩ := hsh
  rw [← hp] at hla hlb h7
  generalize nBe a 0 a.size = M at *
  generalize nBe b 0 b.size = N at *
  have e1 : (decide ((M : Int) < (N : Int)) == Op.bytesLess a.toList b.toList) = true := by rw [o1]; simp
  have e1' : (decide (M < N) == Op.bytesLess a.toList b.toList) = true := by rw [o1]; simp
  have e2 : (((M : Int) == (N : Int)) == (a.toList == b.toList)) = true := by
    rw [o2]
    by_cases h : M = N
    · subst h; simp
    · have f : ((M : Int) == (N : Int)) = false := by simp; omega
      rw [f, decide_eq_false h]; rfl
  have e2' : ((M == N) == (a.toList == b.toList)) = true := by
    rw [o2]
    by_cases h : M = N
    · subst h; simp
    · have f : (M == N) = false := by simpa using h
      rw [f, decide_eq_false h]; rfl
  have h1' : ((a.size : Int) != (b.size : Int)) = false := by simp; omega
  have hsz : b.size ≤ 7 := by omega
  have CA := Lib.hid ca
  have CB := Lib.hid cb
  clear ca cb o1 o2 na nb hlen hp h1
  go_enter Try.func7, Try.ntmps7
  go_wp2_with fail
  refine (awake_any _).mono ?_
  rintro e w1 ⟨rfl, hb1⟩
  go_wp2_with fail
  refine (CA.out _).mono ?_
  rintro e w2 ⟨rfl, hb2⟩
  go_wp2_with fail
  refine (CB.out _).mono ?_
  rintro e w3 ⟨rfl, hb3⟩
  go_wp2_with fail
  go_ret
  have b2 := hb1.trans (hb2.mono hb1.size)
  exact ⟨rfl, b2.trans (hb3.mono b2.size)⟩

theorem orders_walk (a b : ByteArray) (w : World) (w0 : a.size ≤ maxLen) (w1 : b.size ≤ maxLen) :
    Calls Try.prog 7 #[.string a, .string b] w fun e w' => e = .returned (.bool true) ∧ Below w.heap.size w w' := by
  unfold maxLen at w0 w1
  by_cases h : a.size ≠ b.size ∨ a.size < 1 ∨ 7 < a.size
  · exact orders_no a b w (by omega) (by omega) h
  · exact orders_yes a b w (by omega) (by omega) (by omega)
end Go.Proofs.Ytlllcnbaebfbiaa
