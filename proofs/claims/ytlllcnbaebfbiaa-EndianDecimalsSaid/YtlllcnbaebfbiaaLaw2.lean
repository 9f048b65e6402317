/-
  The walk of the law EndianDecimals.
-/
import Derived.Test.YtlllcnbaebfbiaaD
namespace Go.Proofs.Ytlllcnbaebfbiaa
open Go.RowKit

theorem un_bcd {n : Int} (h : bcdOk n) : unV (bcdV n) = n ∧ unE (bcdV n) = 0 ∧ 0 ≤ bcdV n ∧ bcdV n ≤ 255 := by
  obtain ⟨h0, h1⟩ := h
  rw [bcdV_ok h0 h1]
  have hu : unOk (n / 10 * 16 + n % 10) := by constructor <;> omega
  refine ⟨?_, if_pos hu, by omega, by omega⟩
  rw [unV, if_pos hu]
  omega
theorem bcd_un {b : Int} (h0 : 0 ≤ b) (h : unOk b) : bcdV (unV b) = b ∧ bcdE (unV b) = 0 := by
  have hv : unV b = b / 16 * 10 + b % 16 := if_pos h
  obtain ⟨h2, h3⟩ := h
  rw [hv]
  refine ⟨?_, bcdE_ok (by omega) (by omega)⟩
  rw [bcdV_ok (by omega) (by omega)]
  omega

set_option maxHeartbeats 400000 in
theorem dec_walk0 (n b : Int) (w : World) (hb0 : 0 ≤ b) (hb1 : b ≤ 255) (hn : bcdOk n) (hb : unOk b) :
    Calls Try.prog 5 #[.int .i64 n, .int .u8 b] w fun e w' => e = .returned (.bool true) ∧ Below w.heap.size w w' := by
  obtain ⟨e1, e2, e3, e4⟩ := un_bcd hn
  have c1 : ∀ w, _ := fun w => frombcd_any (bcdV n) w e3 e4
  rw [e1, e2] at c1
  have C1 := Lib.hid c1
  have hE : (bcdE n == 0) = true := by rw [bcdE, if_pos hn]; rfl
  clear c1 e1 e2 hn
  obtain ⟨e5, e6⟩ := bcd_un hb0 hb
  have c2 : ∀ w, _ := fun w => bcd_any (unV b) w
  rw [e5, e6] at c2
  have C2 := Lib.hid c2
  have hU : (unE b == 0) = true := by rw [unE, if_pos hb]; rfl
  clear c2 e5 e6 hb
  go_enter Try.func5, Try.ntmps5
  go_wp2_with fail
  refine (awake_any _).mono ?_; rintro e w1 ⟨rfl, hbw1⟩
  go_wp2_with fail
  refine (bcd_any _ _).mono ?_; rintro e w' ⟨rfl, rfl⟩
  go_wp2_with fail
  refine (rbcd_any _ _).mono ?_; rintro e w' ⟨rfl, rfl⟩
  go_wp2_with fail
  refine (frombcd_any _ _ hb0 hb1).mono ?_; rintro e w' ⟨rfl, rfl⟩
  go_wp2_with fail
  refine (rfrombcd_any _ _ hb0 hb1).mono ?_; rintro e w' ⟨rfl, rfl⟩
  go_wp2_with fail
  refine (C1.out _).mono ?_; rintro e w' ⟨rfl, rfl⟩
  go_wp2_with fail
  refine (C2.out _).mono ?_; rintro e w' ⟨rfl, rfl⟩
  go_wp2_with fail
  go_ret
  exact ⟨rfl, hbw1⟩

set_option maxHeartbeats 400000 in
theorem dec_walk1 (n b : Int) (w : World) (hb0 : 0 ≤ b) (hb1 : b ≤ 255) (hn : bcdOk n) (hb : ¬ unOk b) :
    Calls Try.prog 5 #[.int .i64 n, .int .u8 b] w fun e w' => e = .returned (.bool true) ∧ Below w.heap.size w w' := by
  obtain ⟨e1, e2, e3, e4⟩ := un_bcd hn
  have c1 : ∀ w, _ := fun w => frombcd_any (bcdV n) w e3 e4
  rw [e1, e2] at c1
  have C1 := Lib.hid c1
  have hE : (bcdE n == 0) = true := by rw [bcdE, if_pos hn]; rfl
  clear c1 e1 e2 hn
  have hU : (unE b == 0) = false := by rw [unE, if_neg hb]; rfl
  clear hb
  go_enter Try.func5, Try.ntmps5
  go_wp2_with fail
  refine (awake_any _).mono ?_; rintro e w1 ⟨rfl, hbw1⟩
  go_wp2_with fail
  refine (bcd_any _ _).mono ?_; rintro e w' ⟨rfl, rfl⟩
  go_wp2_with fail
  refine (rbcd_any _ _).mono ?_; rintro e w' ⟨rfl, rfl⟩
  go_wp2_with fail
  refine (frombcd_any _ _ hb0 hb1).mono ?_; rintro e w' ⟨rfl, rfl⟩
  go_wp2_with fail
  refine (rfrombcd_any _ _ hb0 hb1).mono ?_; rintro e w' ⟨rfl, rfl⟩
  go_wp2_with fail
  refine (C1.out _).mono ?_; rintro e w' ⟨rfl, rfl⟩
  go_wp2_with fail
  go_ret
  exact ⟨rfl, hbw1⟩

set_option maxHeartbeats 400000 in
theorem dec_walk2 (n b : Int) (w : World) (hb0 : 0 ≤ b) (hb1 : b ≤ 255) (hn : ¬ bcdOk n) (hb : unOk b) :
    Calls Try.prog 5 #[.int .i64 n, .int .u8 b] w fun e w' => e = .returned (.bool true) ∧ Below w.heap.size w w' := by
  have hE : (bcdE n == 0) = false := by rw [bcdE, if_neg hn]; rfl
  clear hn
  obtain ⟨e5, e6⟩ := bcd_un hb0 hb
  have c2 : ∀ w, _ := fun w => bcd_any (unV b) w
  rw [e5, e6] at c2
  have C2 := Lib.hid c2
  have hU : (unE b == 0) = true := by rw [unE, if_pos hb]; rfl
  clear c2 e5 e6 hb
  go_enter Try.func5, Try.ntmps5
  go_wp2_with fail
  refine (awake_any _).mono ?_; rintro e w1 ⟨rfl, hbw1⟩
  go_wp2_with fail
  refine (bcd_any _ _).mono ?_; rintro e w' ⟨rfl, rfl⟩
  go_wp2_with fail
  refine (rbcd_any _ _).mono ?_; rintro e w' ⟨rfl, rfl⟩
  go_wp2_with fail
  refine (frombcd_any _ _ hb0 hb1).mono ?_; rintro e w' ⟨rfl, rfl⟩
  go_wp2_with fail
  refine (rfrombcd_any _ _ hb0 hb1).mono ?_; rintro e w' ⟨rfl, rfl⟩
  go_wp2_with fail
  refine (C2.out _).mono ?_; rintro e w' ⟨rfl, rfl⟩
  go_wp2_with fail
  go_ret
  exact ⟨rfl, hbw1⟩

set_option maxHeartbeats 400000 in
theorem dec_walk3 (n b : Int) (w : World) (hb0 : 0 ≤ b) (hb1 : b ≤ 255) (hn : ¬ bcdOk n) (hb : ¬ unOk b) :
    Calls Try.prog 5 #[.int .i64 n, .int .u8 b] w fun e w' => e = .returned (.bool true) ∧ Below w.heap.size w w' := by
  have hE : (bcdE n == 0) = false := by rw [bcdE, if_neg hn]; rfl
  clear hn
  have hU : (unE b == 0) = false := by rw [unE, if_neg hb]; rfl
  clear hb
  go_enter Try.func5, Try.ntmps5
  go_wp2_with fail
  refine (awake_any _).mono ?_; rintro e w1 ⟨rfl, hbw1⟩
  go_wp2_with fail
  refine (bcd_any _ _).mono ?_; rintro e w' ⟨rfl, rfl⟩
  go_wp2_with fail
  refine (rbcd_any _ _).mono ?_; rintro e w' ⟨rfl, rfl⟩
  go_wp2_with fail
  refine (frombcd_any _ _ hb0 hb1).mono ?_; rintro e w' ⟨rfl, rfl⟩
  go_wp2_with fail
  refine (rfrombcd_any _ _ hb0 hb1).mono ?_; rintro e w' ⟨rfl, rfl⟩
  go_wp2_with fail
  go_ret
  exact ⟨rfl, hbw1⟩

theorem decimals_walk (n b : Int) (w : World) (_ : (Lit.int .i64 n).wf = true) (w1 : (Lit.int .u8 b).wf = true) :
    Calls Try.prog 5 #[.int .i64 n, .int .u8 b] w fun e w' => e = .returned (.bool true) ∧ Below w.heap.size w w' := by
  obtain ⟨h0, h1⟩ := wf_u8 w1
  by_cases hn : bcdOk n <;> by_cases hb : unOk b
  · exact dec_walk0 n b w h0 h1 hn hb
  · exact dec_walk1 n b w h0 h1 hn hb
  · exact dec_walk2 n b w h0 h1 hn hb
  · exact dec_walk3 n b w h0 h1 hn hb
end Go.Proofs.Ytlllcnbaebfbiaa
