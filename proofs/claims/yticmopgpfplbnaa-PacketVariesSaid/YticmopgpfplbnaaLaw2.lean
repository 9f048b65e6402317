/-
  The walk of the law PacketInverse.
-/
import Derived.Test.YticmopgpfplbnaaLaw1
namespace Go.Proofs.Yticmopgpfplbnaa
open Go.RowKit
set_option linter.unusedVariables false

theorem phy_zero {size n : Int} (h : phyE size n ≠ 0) : phyV size n = 0 := by
  unfold phyE at h
  unfold phyV
  split
  · rename_i h0
    rw [if_pos h0] at h
    unfold bndE at h
    unfold bndV
    split
    · rfl
    · rename_i h1; rw [if_neg h1] at h; exact absurd rfl h
  · rfl
theorem phy_ok {size n : Int} (h : phyE size n = 0) : numE size n = 0 ∧ phyN size n ≤ 449849 ∧ phyV size n = phyN size n := by
  unfold phyE at h
  split at h
  · rename_i h0
    unfold bndE at h
    split at h
    · omega
    · rename_i h1
      refine ⟨h0, by omega, ?_⟩
      rw [phyV, if_pos h0, bndV, if_neg h1]
  · rename_i h0; exact absurd h h0
theorem phy_err {size n : Int} (hs : sizedB size = true) (h : phyE size n ≠ 0) : phyE size n = 2 := by
  unfold phyE at h ⊢
  split
  · rename_i h0
    rw [if_pos h0] at h
    unfold bndE at h ⊢
    split
    · rfl
    · rename_i h1; rw [if_neg h1] at h; exact absurd rfl h
  · rename_i h0
    unfold numE at h0 ⊢
    rw [if_pos hs] at h0 ⊢
    split
    · rfl
    · rename_i h1; rw [if_neg h1] at h0; exact absurd rfl h0

theorem div_mod_of (q r m : Int) (h0 : 0 ≤ r) (h1 : r < m) : (q * m + r) / m = q ∧ (q * m + r) % m = r := by
  have hm : m ≠ 0 := by omega
  constructor
  · rw [Int.add_comm, Int.add_mul_ediv_right _ _ hm, Int.ediv_eq_zero_of_lt h0 h1, Int.zero_add]
  · rw [Int.add_comm, Int.add_mul_emod_self_right, Int.emod_eq_of_lt h0 h1]

theorem loc_phy {size n : Int} (h1 : 1 ≤ size) (h2 : size ≤ 1024) (h3 : 0 ≤ n) (h4 : n ≤ 449849) (hN : phyN size n ≤ 449849) :
    numE size (phyN size n) = 0 ∧ locV size (phyN size n) = .agg #[.int .i64 (n / size), .int .i64 2, .int .i64 (n % size)] := by
  obtain ⟨b1, b2, b3, b4, b5, b6⟩ := phyN_bd h1 h2 h3 h4
  have e : phyN size n = n / size * (size + 7) + (5 + n % size) := by unfold phyN; omega
  have hE : numE size (phyN size n) = 0 := numE_ok (sizedB_of h1 h2) (by rw [e] at hN ⊢; omega)
  refine ⟨hE, ?_⟩
  rw [locV, if_pos hE, e]
  obtain ⟨d1, d2⟩ := div_mod_of (n / size) (5 + n % size) (size + 7) (by omega) (by omega)
  rw [d1, d2, placeV2 _ _ _ (by omega) (by omega) (by omega), show 5 + n % size - 5 = n % size by omega]

theorem phy_next {size n : Int} (h1 : 1 ≤ size) (h3 : 0 ≤ n) : phyN size (n + 1) = if n % size < size - 1 then phyN size n + 1 else phyN size n + 8 := by
  have hm : size ≠ 0 := by omega
  have e := Int.mul_ediv_add_emod n size
  have hr0 := Int.emod_nonneg n hm
  have hr1 := Int.emod_lt_of_pos n (show 0 < size by omega)
  have en : n + 1 = n / size * size + (n % size + 1) := by rw [Int.mul_comm]; omega
  split
  · rename_i h
    obtain ⟨d1, d2⟩ := div_mod_of (n / size) (n % size + 1) size (by omega) (by omega)
    unfold phyN
    rw [show (n + 1) / size = n / size by rw [en]; exact d1, show (n + 1) % size = n % size + 1 by rw [en]; exact d2]
    omega
  · rename_i h
    have h' : n % size = size - 1 := by omega
    have en2 : n + 1 = (n / size + 1) * size + 0 := by rw [Int.add_mul]; omega
    obtain ⟨d1, d2⟩ := div_mod_of (n / size + 1) 0 size (by omega) (by omega)
    unfold phyN
    rw [show (n + 1) / size = n / size + 1 by rw [en2]; exact d1, show (n + 1) % size = 0 by rw [en2]; exact d2, h', Int.add_mul]
    omega

set_option maxHeartbeats 400000 in
theorem inverse_no (size n : Int) (w : World) (h : phyE size n ≠ 0) :
    Calls Try.prog 4 #[.int .i64 size, .int .i64 n] w fun e w' => e = .returned (.bool true) ∧ Below w.heap.size w w' := by
  have c1 : ∀ w, _ := fun w => physical_any size n w
  rw [phy_zero h] at c1
  have C1 := Lib.hid c1
  have hE : (phyE size n != 0) = true := by simpa using h
  clear c1 h
  go_enter Try.func4, Try.ntmps4
  go_wp2_with (first
    | (go_at_call 10; refine (awake_any _).mono ?_; rintro e w1 ⟨rfl, hb1⟩)
    | (go_at_call 13; refine (C1.out _).mono ?_; rintro e w' ⟨rfl, k1, rfl⟩)
    | fail)
  go_ret
  exact ⟨rfl, below_drewN hb1 k1⟩

set_option maxHeartbeats 1000000 in
theorem inverse_yes (size n N M E2 : Int) (w : World) (h1 : 1 ≤ size) (h2 : size ≤ 1024) (h3 : 0 ≤ n) (h4 : n ≤ 449849) (hN0 : 0 ≤ N) (hN : N ≤ 449849)
    (c1 : ∀ w, Calls Try.prog 13 #[.int .i64 size, .int .i64 n] w fun e w' => e = .returned (.tuple #[.int .i64 N, .int .i64 0]) ∧ ∃ k, w' = w.drewN k)
    (c2 : ∀ w, Calls Try.prog 15 #[.int .i64 size, .int .i64 N] w fun e w' => e = .returned (.tuple #[.agg #[.int .i64 (n / size), .int .i64 2, .int .i64 (n % size)], .int .i64 0]) ∧ Below w.heap.size w w')
    (c3 : ∀ w, Calls Try.prog 13 #[.int .i64 size, .int .i64 (n + 1)] w fun e w' => e = .returned (.tuple #[.int .i64 M, .int .i64 E2]) ∧ ∃ k, w' = w.drewN k)
    (hcase : (E2 = 2) ∨ (E2 = 0 ∧ n % size < size - 1 ∧ M = N + 1) ∨ (E2 = 0 ∧ size - 1 ≤ n % size ∧ M = N + 1 + 7)) :
    Calls Try.prog 4 #[.int .i64 size, .int .i64 n] w fun e w' => e = .returned (.bool true) ∧ Below w.heap.size w w' := by
  have C1 := Lib.hid c1
  have C2 := Lib.hid c2
  clear c1 c2
  have z1 : ¬ (size = 0) := by omega
  have z2 : IntKind.i64.wrap (n.tdiv size) = n / size := by rw [Int.tdiv_eq_ediv_of_nonneg h3]; exact IntWalk.i64_in _ (by obtain ⟨b1, b2, _⟩ := phyN_bd h1 h2 h3 h4; omega)
  have z3 : n.tmod size = n % size := Int.tmod_eq_emod_of_nonneg h3
  obtain ⟨_, _, _, _, b5, b6⟩ := phyN_bd h1 h2 h3 h4
  rcases hcase with rfl | ⟨rfl, hr, rfl⟩ | ⟨rfl, hr, rfl⟩
  all_goals
    have C3 := Lib.hid c3
    clear c3
    go_enter Try.func4, Try.ntmps4
    go_wp2_with fail
    refine (awake_any _).mono ?_
    rintro e w1 ⟨rfl, hb1⟩
    go_wp2_with fail
    refine (C1.out _).mono ?_
    rintro e w' ⟨rfl, k1, rfl⟩
    go_wp2_with fail
    refine (C2.out _).mono ?_
    rintro e w2 ⟨rfl, hb2⟩
    go_wp2_with fail
    go_quiet (fail)
    go_wp2_with fail
    refine (C3.out _).mono ?_
    rintro e w' ⟨rfl, k3, rfl⟩
    go_wp2_with fail
    go_ret
    have b2 : Below w.heap.size w w2 := (below_drewN hb1 k1).trans (hb2.mono (by have := hb1.size; simpa using this))
    exact ⟨by first | rfl | exact ret_bool (by simp), below_drewN (b2.alloc b2.size (.cells #[.int .i64 (n / size), .int .i64 2, .int .i64 (n % size)] 27)) _⟩

theorem inverse_walk (size n : Int) (w : World) (_ : (Lit.int .i64 size).wf = true) (_ : (Lit.int .i64 n).wf = true) :
    Calls Try.prog 4 #[.int .i64 size, .int .i64 n] w fun e w' => e = .returned (.bool true) ∧ Below w.heap.size w w' := by
  by_cases h : phyE size n = 0
  · obtain ⟨h0, hN, hV⟩ := phy_ok h
    obtain ⟨h1, h2, h3, h4⟩ := numE_zero h0
    obtain ⟨b1, b2, b3, b4, b5, b6⟩ := phyN_bd h1 h2 h3 h4
    obtain ⟨l1, l2⟩ := loc_phy h1 h2 h3 h4 hN
    refine inverse_yes size n (phyN size n) (phyV size (n + 1)) (phyE size (n + 1)) w h1 h2 h3 h4 (by unfold phyN; omega) hN ?_ ?_ (fun w => physical_any size (n + 1) w) ?_
    · intro w
      have := physical_any size n w
      rw [h, hV] at this
      exact this
    · intro w
      have := locate_any size (phyN size n) w
      rw [l1, l2] at this
      exact this
    · by_cases h' : phyE size (n + 1) = 0
      · obtain ⟨_, _, hV'⟩ := phy_ok h'
        have hn := phy_next (size := size) h1 h3
        by_cases hr : n % size < size - 1
        · rw [if_pos hr] at hn
          exact .inr (.inl ⟨h', hr, by rw [hV', hn]⟩)
        · rw [if_neg hr] at hn
          exact .inr (.inr ⟨h', by omega, by rw [hV', hn]; omega⟩)
      · exact .inl (phy_err (sizedB_of h1 h2) h')
  · exact inverse_no size n w h
end Go.Proofs.Yticmopgpfplbnaa
