/-
  The walk of the law PacketCounts.
-/
import Derived.Test.YticmopgpfplbnaaLaw2
namespace Go.Proofs.Yticmopgpfplbnaa
open Go.RowKit
set_option linter.unusedVariables false

theorem sec_zero {size n : Int} (h : secE size n ≠ 0) : secV size n = 0 := by
  unfold secE at h
  unfold secV
  split
  · rename_i h0
    rw [if_pos h0] at h
    unfold bndE at h
    unfold bndV
    split
    · rfl
    · rename_i h1; rw [if_neg h1] at h; exact absurd rfl h
  · rfl
theorem sec_ok {size n : Int} (h : secE size n = 0) : numE size n = 0 ∧ secN size n ≤ 449849 ∧ secV size n = secN size n := by
  unfold secE at h
  split at h
  · rename_i h0
    unfold bndE at h
    split at h
    · omega
    · rename_i h1
      refine ⟨h0, by omega, ?_⟩
      rw [secV, if_pos h0, bndV, if_neg h1]
  · rename_i h0; exact absurd h h0

set_option maxHeartbeats 400000 in
theorem counts_no (size n : Int) (w : World) (h : secE size n ≠ 0) :
    Calls Try.prog 6 #[.int .i64 size, .int .i64 n] w fun e w' => e = .returned (.bool true) ∧ Below w.heap.size w w' := by
  have c1 : ∀ w, _ := fun w => sectors_any size n w
  rw [sec_zero h] at c1
  have C1 := Lib.hid c1
  have hE : (secE size n != 0) = true := by simpa using h
  clear c1 h
  go_enter Try.func6, Try.ntmps6
  go_wp2_with (first
    | (go_at_call 10; refine (awake_any _).mono ?_; rintro e w1 ⟨rfl, hb1⟩)
    | (go_at_call 11; refine (C1.out _).mono ?_; rintro e w' ⟨rfl, rfl⟩)
    | fail)
  go_ret
  exact ⟨rfl, hb1⟩

set_option maxHeartbeats 400000 in
theorem counts_zero (size : Int) (w : World) (h1 : 1 ≤ size) (h2 : size ≤ 1024)
    (c1 : ∀ w, Calls Try.prog 11 #[.int .i64 size, .int .i64 0] w fun e w' => e = .returned (.tuple #[.int .i64 0, .int .i64 0]) ∧ w = w') :
    Calls Try.prog 6 #[.int .i64 size, .int .i64 0] w fun e w' => e = .returned (.bool true) ∧ Below w.heap.size w w' := by
  have C1 := Lib.hid c1
  clear c1
  have z1 : ¬ (size + 7 = 0) := by omega
  go_enter Try.func6, Try.ntmps6
  go_wp2_with (first
    | (go_at_call 10; refine (awake_any _).mono ?_; rintro e w1 ⟨rfl, hb1⟩)
    | (go_at_call 11; refine (C1.out _).mono ?_; rintro e w' ⟨rfl, rfl⟩)
    | fail)
  go_ret
  exact ⟨rfl, hb1⟩

set_option maxHeartbeats 400000 in
theorem counts_yes (size n N P L : Int) (w : World) (h1 : 1 ≤ size) (h2 : size ≤ 1024) (h3 : 1 ≤ n) (h4 : n ≤ 449849) (hN0 : 0 ≤ N) (hN : N ≤ 449849)
    (hm : (N % (size + 7) != 0) = false) (hq : N / (size + 7) = P) (hP0 : 0 ≤ P) (hP : P ≤ 449849) (hPs0 : 0 ≤ P * size) (hPs : n ≤ P * size) (hPs2 : P * size ≤ 1000000000) (hPs3 : (P - 1) * size < n) (hPs4 : -2000 ≤ (P - 1) * size) (hL : L < N)
    (c1 : ∀ w, Calls Try.prog 11 #[.int .i64 size, .int .i64 n] w fun e w' => e = .returned (.tuple #[.int .i64 N, .int .i64 0]) ∧ w = w')
    (c2 : ∀ w, Calls Try.prog 13 #[.int .i64 size, .int .i64 (n - 1)] w fun e w' => e = .returned (.tuple #[.int .i64 L, .int .i64 0]) ∧ ∃ k, w' = w.drewN k) :
    Calls Try.prog 6 #[.int .i64 size, .int .i64 n] w fun e w' => e = .returned (.bool true) ∧ Below w.heap.size w w' := by
  have C1 := Lib.hid c1
  have C2 := Lib.hid c2
  clear c1 c2
  have z1 : ¬ (size + 7 = 0) := by omega
  have z2 : (n == 0) = false := by simp; omega
  go_enter Try.func6, Try.ntmps6
  go_wp2_with (first
    | (go_at_call 10; refine (awake_any _).mono ?_; rintro e w1 ⟨rfl, hb1⟩)
    | (go_at_call 11; refine (C1.out _).mono ?_; rintro e w' ⟨rfl, rfl⟩)
    | (go_at_call 13; refine (C2.out _).mono ?_; rintro e w' ⟨rfl, k1, rfl⟩)
    | fail)
  go_ret
  exact ⟨rfl, below_drewN hb1 k1⟩

theorem counts_walk (size n : Int) (w : World) (_ : (Lit.int .i64 size).wf = true) (_ : (Lit.int .i64 n).wf = true) :
    Calls Try.prog 6 #[.int .i64 size, .int .i64 n] w fun e w' => e = .returned (.bool true) ∧ Below w.heap.size w w' := by
  by_cases h : secE size n = 0
  · obtain ⟨h0, hN, hV⟩ := sec_ok h
    obtain ⟨h1, h2, h3, h4⟩ := numE_zero h0
    obtain ⟨b1, b2, b3, b4⟩ := secN_bd h1 h2 h3 h4
    have c1 : ∀ w, _ := fun w => sectors_any size n w
    rw [h, hV] at c1
    have hm : size ≠ 0 := by omega
    by_cases hz : n = 0
    · subst hz
      have e : secN size 0 = 0 := by unfold secN; rw [Int.zero_add, Int.ediv_eq_zero_of_lt (by omega) (by omega), Int.zero_mul]
      rw [e] at c1
      exact counts_zero size w h1 h2 c1
    · obtain ⟨P, hP⟩ : ∃ P, P = (n + size - 1) / size := ⟨_, rfl⟩
      have e := Int.mul_ediv_add_emod (n + size - 1) size
      have hr0 := Int.emod_nonneg (n + size - 1) hm
      have hr1 := Int.emod_lt_of_pos (n + size - 1) (show 0 < size by omega)
      have e1 := Int.mul_ediv_add_emod (n - 1) size
      have hs0 := Int.emod_nonneg (n - 1) hm
      have hs1 := Int.emod_lt_of_pos (n - 1) (show 0 < size by omega)
      have hq : (n - 1) / size = P - 1 := by
        rw [hP, show n + size - 1 = n - 1 + 1 * size by omega, Int.add_mul_ediv_right _ _ hm]
        omega
      have hsec : secN size n = P * (size + 7) := by rw [secN, ← hP]
      have hphy : phyN size (n - 1) = (P - 1) * (size + 7) + 5 + (n - 1) % size := by rw [phyN, hq]
      rw [← hP] at b1 b2 b3 b4
      rw [hsec] at hN
      rw [hq] at e1
      rw [← hP] at e
      have hx1 : size * P = P * size := Int.mul_comm _ _
      have hx2 : size * (P - 1) = (P - 1) * size := Int.mul_comm _ _
      have hx3 : (P - 1) * size = P * size - size := by rw [Int.sub_mul]; omega
      have hx4 : (P - 1) * (size + 7) = P * (size + 7) - (size + 7) := by rw [Int.sub_mul]; omega
      have hx5 : P * (size + 7) = P * size + P * 7 := Int.mul_add _ _ _
      have hlast : phyN size (n - 1) < secN size n := by rw [hphy, hsec]; omega
      have hE : phyE size (n - 1) = 0 := by
        rw [phyE, if_pos (numE_ok (sizedB_of h1 h2) (by omega)), bndE, if_neg (by rw [hsec] at hlast; omega)]
      obtain ⟨_, _, hV2⟩ := phy_ok hE
      have c2 : ∀ w, _ := fun w => physical_any size (n - 1) w
      rw [hE, hV2] at c2
      rw [hsec] at c1 hlast
      obtain ⟨d1, d2⟩ := div_mod_of P 0 (size + 7) (by omega) (by omega)
      rw [Int.add_zero] at d1 d2
      exact counts_yes size n _ P _ w h1 h2 (by omega) h4 b3 hN (by rw [d2]; rfl) d1 b1 (by omega) (by omega) (by omega) (by omega) (by omega) (by omega) hlast c1 c2
  · exact counts_no size n w h
end Go.Proofs.Yticmopgpfplbnaa
