/-
  The walk of the law EndianPuts.
-/
import Derived.Test.YtlllcnbaebfbiaaPut
namespace Go.Proofs.Ytlllcnbaebfbiaa
open Go.RowKit

set_option maxHeartbeats 400000 in
theorem puts_big (s p : ByteArray) (a : Int) (w : World) (hs1 : s.size ≤ maxLen) (hp1 : p.size ≤ maxLen) (h : 80 < s.size ∨ 80 < p.size) :
    Calls Try.prog 6 #[.string s, .int .i64 a, .string p] w fun e w' => e = .returned (.bool true) ∧ Below w.heap.size w w' := by
  unfold maxLen at hs1 hp1
  rcases Nat.lt_or_ge 80 s.size with h1 | h1
  · have h1' : (80 : Int) < (s.size : Int) := by omega
    clear h
    go_enter Try.func6, Try.ntmps6
    go_wp2_with (first
      | (go_at_call 10; refine (awake_any _).mono ?_; rintro e w1 ⟨rfl, hb1⟩)
      | fail)
    go_ret
    exact ⟨rfl, hb1⟩
  · have h1' : (80 : Int) < (p.size : Int) := by omega
    clear h
    go_enter Try.func6, Try.ntmps6
    go_wp2_with (first
      | (go_at_call 10; refine (awake_any _).mono ?_; rintro e w1 ⟨rfl, hb1⟩)
      | fail)
    go_ret
    exact ⟨rfl, hb1⟩

set_option maxHeartbeats 400000 in
theorem puts_no (s p : ByteArray) (a : Int) (w : World) (hs : s.size ≤ 80) (hp : p.size ≤ 80) (h : insideB s.size a p.size = false) :
    Calls Try.prog 6 #[.string s, .int .i64 a, .string p] w fun e w' => e = .returned (.bool true) ∧ Below w.heap.size w w' := by
  have h' : ¬ (0 ≤ a ∧ a ≤ (s.size : Int) - p.size) := of_decide_eq_false h
  have HI := Lib.hid h
  clear h
  by_cases h1 : a < 0
  · clear h'
    go_enter Try.func6, Try.ntmps6
    go_wp2_with (first
      | (go_at_call 10; refine (awake_any _).mono ?_; rintro e w1 ⟨rfl, hb1⟩)
      | (go_at_call 21; refine (put_no _ _ _ _ hs hp HI.out).mono ?_; rintro e w' ⟨rfl, rfl⟩)
      | fail)
    go_ret
    exact ⟨rfl, hb1⟩
  · by_cases h2 : (s.size : Int) < a
    · clear h'
      go_enter Try.func6, Try.ntmps6
      go_wp2_with (first
        | (go_at_call 10; refine (awake_any _).mono ?_; rintro e w1 ⟨rfl, hb1⟩)
        | (go_at_call 21; refine (put_no _ _ _ _ hs hp HI.out).mono ?_; rintro e w' ⟨rfl, rfl⟩)
        | fail)
      go_ret
      exact ⟨rfl, hb1⟩
    · have h3 : (s.size : Int) - a < (p.size : Int) := by omega
      clear h'
      go_enter Try.func6, Try.ntmps6
      go_wp2_with (first
        | (go_at_call 10; refine (awake_any _).mono ?_; rintro e w1 ⟨rfl, hb1⟩)
        | (go_at_call 21; refine (put_no _ _ _ _ hs hp HI.out).mono ?_; rintro e w' ⟨rfl, rfl⟩)
        | fail)
      go_ret
      exact ⟨rfl, hb1⟩

set_option maxHeartbeats 1000000 in
theorem puts_ok (s p : ByteArray) (a : Nat) (w : World) (hs : s.size ≤ 80) (hp : p.size ≤ 80) (h : a + p.size ≤ s.size) :
    Calls Try.prog 6 #[.string s, .int .i64 a, .string p] w fun e w' => e = .returned (.bool true) ∧ Below w.heap.size w w' := by
  have HG := Lib.hid (fun k (hk : k < s.size) (hk' : k < (putS s a p).size) => putS_get s p a k h hk hk')
  have HZ := Lib.hid (putS_size s p a h)
  have hz1 : (putS s a p).size ≤ s.size := by rw [HZ.out]; exact Nat.le_refl _
  have hz2 : s.size ≤ (putS s a p).size := by rw [HZ.out]; exact Nat.le_refl _
  have HP := Lib.hid (fun w => put_ok s p a w hs hp h)
  generalize putS s a p = x at *
  go_enter Try.func6, Try.ntmps6
  go_wp2_with (first
    | (go_at_call 10; refine (awake_any _).mono ?_; rintro e w1 ⟨rfl, hb1⟩)
    | (go_at_call 21; refine (HP.out _).mono ?_; rintro e w2 ⟨rfl, n2, hw2⟩; have hb2 : Below w.heap.size w w2 := hw2 ▸ below_drewN hb1 n2; clear hw2)
    | fail)
  go_loop [62] (fun i => ∃ k : Nat, k ≤ s.size ∧ i = .int .i64 k) (fun i => s.size - (intOf i).toNat)
  case atStart => exact ⟨0, by omega, rfl⟩
  case round =>
    obtain ⟨k, hk, rfl⟩ := hrel
    by_cases hlt : k < s.size
    · have hkx : k < x.size := by omega
      have hg := HG.out k hlt hkx
      by_cases h1 : a ≤ k
      · by_cases h2 : k < a + p.size
        · rw [dif_pos ⟨h1, h2⟩] at hg
          have e1 : (k : Int) - (a : Int) = ((k - a : Nat) : Int) := by omega
          have h3 : k - a < p.size := by omega
          go_wp2
          go_round
          case rel => exact ⟨k + 1, by omega, by go_num⟩
          case measure => simp [intOf]; omega
        · rw [dif_neg (fun h => h2 h.2)] at hg
          go_wp2
          go_round
          case rel => exact ⟨k + 1, by omega, by go_num⟩
          case measure => simp [intOf]; omega
      · rw [dif_neg (fun h => h1 h.1)] at hg
        go_wp2
        go_round
        case rel => exact ⟨k + 1, by omega, by go_num⟩
        case measure => simp [intOf]; omega
    · obtain rfl : k = s.size := by omega
      go_wp2
      go_ret
      exact ⟨rfl, hb2⟩

theorem puts_walk (s : ByteArray) (a : Int) (p : ByteArray) (w : World) (w0 : s.size ≤ maxLen) (_ : (Lit.int .i64 a).wf = true) (w2 : p.size ≤ maxLen) :
    Calls Try.prog 6 #[.string s, .int .i64 a, .string p] w fun e w' => e = .returned (.bool true) ∧ Below w.heap.size w w' := by
  by_cases h : 80 < s.size ∨ 80 < p.size
  · exact puts_big s p a w w0 w2 h
  · by_cases h2 : insideB s.size a p.size = true
    · have h3 := of_decide_eq_true h2
      obtain ⟨b, rfl⟩ : ∃ b : Nat, a = b := ⟨a.toNat, by omega⟩
      exact puts_ok s p b w (by omega) (by omega) (by omega)
    · exact puts_no s p a w (by omega) (by omega) (by simpa using h2)
end Go.Proofs.Ytlllcnbaebfbiaa
