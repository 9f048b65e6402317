/-
  The walks of sized, numbered, bounded, Sectors, Physical, Locate, of the program and of the reference.
-/
import Derived.Test.YticmopgpfplbnaaPlace
namespace Go.Proofs.Yticmopgpfplbnaa
open Go.RowKit
set_option linter.unusedVariables false

def sizedB (size : Int) : Bool := decide (1 ≤ size ∧ size ≤ 1024)
theorem sizedB_of {size : Int} (h1 : 1 ≤ size) (h2 : size ≤ 1024) : sizedB size = true := decide_eq_true ⟨h1, h2⟩
theorem sized_any (size : Int) (w : World) : Calls Try.prog 34 #[.int .i64 size] w fun e w' => e = .returned (.bool (sizedB size)) ∧ w = w' := by
  by_cases h : 1 ≤ size
  · have HS := Lib.hid (show sizedB size = decide (size ≤ 1024) by simp [sizedB, h])
    go_enter Try.func34, Try.ntmps34
    go_wp2
    go_ret
    exact ⟨ret_bool HS.out.symm, rfl⟩
  · have HS := Lib.hid (show sizedB size = false by simp [sizedB, h])
    go_enter Try.func34, Try.ntmps34
    go_wp2
    go_ret
    exact ⟨ret_bool HS.out.symm, rfl⟩
theorem rsized_any (size : Int) (w : World) : Calls Try.prog 31 #[.int .i64 size] w fun e w' => e = .returned (.bool (sizedB size)) ∧ w = w' := by
  by_cases h : 1 ≤ size
  · have HS := Lib.hid (show sizedB size = decide (size ≤ 1024) by simp [sizedB, h])
    go_enter Try.func31, Try.ntmps31
    go_wp2
    go_ret
    exact ⟨ret_bool HS.out.symm, rfl⟩
  · have HS := Lib.hid (show sizedB size = false by simp [sizedB, h])
    go_enter Try.func31, Try.ntmps31
    go_wp2
    go_ret
    exact ⟨ret_bool HS.out.symm, rfl⟩

/-- The error of a size and a number. -/
def numE (size n : Int) : Int := if sizedB size then (if n < 0 ∨ 449849 < n then 2 else 0) else 1
theorem numE_size {size n : Int} (h : sizedB size = false) : numE size n = 1 := by rw [numE, h]; rfl
theorem numE_num {size n : Int} (h : sizedB size = true) (h' : n < 0 ∨ 449849 < n) : numE size n = 2 := by rw [numE, if_pos h, if_pos h']
theorem numE_ok {size n : Int} (h : sizedB size = true) (h' : ¬ (n < 0 ∨ 449849 < n)) : numE size n = 0 := by rw [numE, if_pos h, if_neg h']
theorem numE_zero {size n : Int} (h : numE size n = 0) : 1 ≤ size ∧ size ≤ 1024 ∧ 0 ≤ n ∧ n ≤ 449849 := by
  unfold numE at h
  split at h
  · rename_i hs
    have := of_decide_eq_true hs
    split at h
    · omega
    · omega
  · omega

theorem numbered_any (size n : Int) (w : World) : Calls Try.prog 29 #[.int .i64 size, .int .i64 n] w fun e w' => e = .returned (.int .i64 (numE size n)) ∧ w = w' := by
  by_cases hs : sizedB size = true
  · by_cases h : n < 0 ∨ 449849 < n
    · have HE := Lib.hid (numE_num hs h)
      rcases h with h | h
      · go_enter Try.func29, Try.ntmps29
        go_wp2_with (first | (go_at_call 34; refine (sized_any _ _).mono ?_; rintro e w' ⟨rfl, rfl⟩) | fail)
        go_ret
        exact ⟨ret_int HE.out.symm, rfl⟩
      · go_enter Try.func29, Try.ntmps29
        go_wp2_with (first | (go_at_call 34; refine (sized_any _ _).mono ?_; rintro e w' ⟨rfl, rfl⟩) | fail)
        go_ret
        exact ⟨ret_int HE.out.symm, rfl⟩
    · have HE := Lib.hid (numE_ok hs h)
      have h1 : 0 ≤ n := by omega
      have h2 : n ≤ 449849 := by omega
      clear h
      go_enter Try.func29, Try.ntmps29
      go_wp2_with (first | (go_at_call 34; refine (sized_any _ _).mono ?_; rintro e w' ⟨rfl, rfl⟩) | fail)
      go_ret
      exact ⟨ret_int HE.out.symm, rfl⟩
  · have hs : sizedB size = false := by simpa using hs
    have HE := Lib.hid (numE_size (n := n) hs)
    go_enter Try.func29, Try.ntmps29
    go_wp2_with (first | (go_at_call 34; refine (sized_any _ _).mono ?_; rintro e w' ⟨rfl, rfl⟩) | fail)
    go_ret
    exact ⟨ret_int HE.out.symm, rfl⟩

def bndV (n : Int) : Int := if 449849 < n then 0 else n
def bndE (n : Int) : Int := if 449849 < n then 2 else 0
theorem bounded_any (n : Int) (w : World) : Calls Try.prog 30 #[.int .i64 n] w fun e w' => e = .returned (.tuple #[.int .i64 (bndV n), .int .i64 (bndE n)]) ∧ w = w' := by
  by_cases h : 449849 < n
  · have HV := Lib.hid (show bndV n = 0 from if_pos h)
    have HE := Lib.hid (show bndE n = 2 from if_pos h)
    go_enter Try.func30, Try.ntmps30
    go_wp2
    go_ret2
    exact ⟨by rw [HV.out, HE.out]; rfl, rfl⟩
  · have HV := Lib.hid (show bndV n = n from if_neg h)
    have HE := Lib.hid (show bndE n = 0 from if_neg h)
    go_enter Try.func30, Try.ntmps30
    go_wp2
    go_ret2
    exact ⟨by rw [HV.out, HE.out]; rfl, rfl⟩

/-- Sectors, in plain numbers. -/
def secN (size n : Int) : Int := (n + size - 1) / size * (size + 7)
def secV (size n : Int) : Int := if numE size n = 0 then bndV (secN size n) else 0
def secE (size n : Int) : Int := if numE size n = 0 then bndE (secN size n) else numE size n
theorem secN_bd {size n : Int} (h1 : 1 ≤ size) (h2 : size ≤ 1024) (h3 : 0 ≤ n) (h4 : n ≤ 449849) : 0 ≤ (n + size - 1) / size ∧ (n + size - 1) / size ≤ 450873 ∧ 0 ≤ (n + size - 1) / size * (size + 7) ∧ (n + size - 1) / size * (size + 7) ≤ 1000000000 := by
  have a : 0 ≤ (n + size - 1) / size := Int.ediv_nonneg (by omega) (by omega)
  have b : (n + size - 1) / size ≤ 450873 := Int.le_trans (Int.ediv_le_self _ (by omega)) (by omega)
  refine ⟨a, b, Int.mul_nonneg a (by omega), ?_⟩
  have := Int.mul_le_mul b (show size + 7 ≤ 1031 by omega) (by omega) (by omega)
  omega

theorem sectors_any (size n : Int) (w : World) : Calls Try.prog 11 #[.int .i64 size, .int .i64 n] w fun e w' => e = .returned (.tuple #[.int .i64 (secV size n), .int .i64 (secE size n)]) ∧ w = w' := by
  by_cases h : numE size n = 0
  · obtain ⟨h1, h2, h3, h4⟩ := numE_zero h
    obtain ⟨b1, b2, b3, b4⟩ := secN_bd h1 h2 h3 h4
    have HV := Lib.hid (show secV size n = bndV ((n + size - 1) / size * (size + 7)) from if_pos h)
    have HE := Lib.hid (show secE size n = bndE ((n + size - 1) / size * (size + 7)) from if_pos h)
    have hE : (numE size n != 0) = false := by rw [h]; rfl
    clear h
    go_enter Try.func11, Try.ntmps11
    go_wp2_with (first
      | (go_at_call 29; refine (numbered_any _ _ _).mono ?_; rintro e w' ⟨rfl, rfl⟩)
      | (go_at_call 30; refine (bounded_any _ _).mono ?_; rintro e w' ⟨rfl, rfl⟩)
      | fail)
    go_ret2
    exact ⟨by rw [HV.out, HE.out]; rfl, rfl⟩
  · have HV := Lib.hid (show secV size n = 0 from if_neg h)
    have HE := Lib.hid (show secE size n = numE size n from if_neg h)
    have hE : (numE size n != 0) = true := by simpa using h
    clear h
    go_enter Try.func11, Try.ntmps11
    go_wp2_with (first
      | (go_at_call 29; refine (numbered_any _ _ _).mono ?_; rintro e w' ⟨rfl, rfl⟩)
      | fail)
    go_ret2
    exact ⟨by rw [HV.out, HE.out]; rfl, rfl⟩

def phyN (size n : Int) : Int := n / size * (size + 7) + 5 + n % size
def phyV (size n : Int) : Int := if numE size n = 0 then bndV (phyN size n) else 0
def phyE (size n : Int) : Int := if numE size n = 0 then bndE (phyN size n) else numE size n
theorem phyN_bd {size n : Int} (h1 : 1 ≤ size) (h2 : size ≤ 1024) (h3 : 0 ≤ n) (h4 : n ≤ 449849) : 0 ≤ n / size ∧ n / size ≤ 450873 ∧ 0 ≤ n / size * (size + 7) ∧ n / size * (size + 7) ≤ 1000000000 ∧ 0 ≤ n % size ∧ n % size < size := by
  have a : 0 ≤ n / size := Int.ediv_nonneg (by omega) (by omega)
  have b : n / size ≤ 450873 := Int.le_trans (Int.ediv_le_self _ (by omega)) (by omega)
  refine ⟨a, b, Int.mul_nonneg a (by omega), ?_, Int.emod_nonneg _ (by omega), Int.emod_lt_of_pos _ (by omega)⟩
  have := Int.mul_le_mul b (show size + 7 ≤ 1031 by omega) (by omega) (by omega)
  omega

set_option maxHeartbeats 400000 in
theorem physical_any (size n : Int) (w : World) : Calls Try.prog 13 #[.int .i64 size, .int .i64 n] w fun e w' => e = .returned (.tuple #[.int .i64 (phyV size n), .int .i64 (phyE size n)]) ∧ ∃ k, w' = w.drewN k := by
  by_cases h : numE size n = 0
  · obtain ⟨h1, h2, h3, h4⟩ := numE_zero h
    obtain ⟨b1, b2, b3, b4, b5, b6⟩ := phyN_bd h1 h2 h3 h4
    have HV := Lib.hid (show phyV size n = bndV (n / size * (size + 7) + 5 + n % size) from if_pos h)
    have HE := Lib.hid (show phyE size n = bndE (n / size * (size + 7) + 5 + n % size) from if_pos h)
    have hE : (numE size n != 0) = false := by rw [h]; rfl
    clear h
    go_enter Try.func13, Try.ntmps13
    go_wp2_with (first
      | (go_at_call 29; refine (numbered_any _ _ _).mono ?_; rintro e w' ⟨rfl, rfl⟩)
      | fail)
    go_quiet ((go_at_call 30; exact Calls.quiet_of_same (flipw (bounded_any _ _))))
    go_wp2
    go_ret2
    exact ⟨by rw [HV.out, HE.out]; rfl, _, rfl⟩
  · have HV := Lib.hid (show phyV size n = 0 from if_neg h)
    have HE := Lib.hid (show phyE size n = numE size n from if_neg h)
    have hE : (numE size n != 0) = true := by simpa using h
    clear h
    go_enter Try.func13, Try.ntmps13
    go_wp2_with (first
      | (go_at_call 29; refine (numbered_any _ _ _).mono ?_; rintro e w' ⟨rfl, rfl⟩)
      | fail)
    go_ret2
    exact ⟨by rw [HV.out, HE.out]; rfl, 0, rfl⟩

theorem numE_cases (size n : Int) : (sizedB size = false ∧ numE size n = 1) ∨ (sizedB size = true ∧ n < 0 ∧ numE size n = 2) ∨ (sizedB size = true ∧ 449849 < n ∧ numE size n = 2) ∨ (sizedB size = true ∧ 0 ≤ n ∧ n ≤ 449849 ∧ numE size n = 0) := by
  rcases hs : sizedB size with _ | _
  · exact .inl ⟨rfl, numE_size hs⟩
  · by_cases h : n < 0
    · exact .inr (.inl ⟨rfl, h, numE_num hs (.inl h)⟩)
    · by_cases h' : 449849 < n
      · exact .inr (.inr (.inl ⟨rfl, h', numE_num hs (.inr h')⟩))
      · exact .inr (.inr (.inr ⟨rfl, by omega, by omega, numE_ok hs (by omega)⟩))

set_option maxHeartbeats 400000 in
theorem rsectors_any (size n : Int) (w : World) : Calls Try.prog 12 #[.int .i64 size, .int .i64 n] w fun e w' => e = .returned (.tuple #[.int .i64 (secV size n), .int .i64 (secE size n)]) ∧ w = w' := by
  rcases numE_cases size n with ⟨hs, hE⟩ | ⟨hs, hn, hE⟩ | ⟨hs, hn, hE⟩ | ⟨hs, h3, h4, hE⟩
  all_goals (try
    (have HV := Lib.hid (show secV size n = 0 by rw [secV, hE]; rfl)
     have HE := Lib.hid (show secE size n = numE size n by rw [secE, if_neg (by rw [hE]; decide)])
     have HN := Lib.hid hE
     clear hE
     go_enter Try.func12, Try.ntmps12
     go_wp2_with (first
       | (go_at_call 31; refine (rsized_any _ _).mono ?_; rintro e w' ⟨rfl, rfl⟩)
       | fail)
     go_ret2
     exact ⟨by rw [HV.out, HE.out, HN.out]; rfl, rfl⟩))
  have h12 := of_decide_eq_true hs
  obtain ⟨h1, h2⟩ := h12
  obtain ⟨b1, b2, b3, b4⟩ := secN_bd h1 h2 h3 h4
  by_cases hb : 449849 < (n + size - 1) / size * (size + 7)
  · have HV := Lib.hid (show secV size n = 0 by rw [secV, if_pos hE, bndV, secN, if_pos hb])
    have HE := Lib.hid (show secE size n = 2 by rw [secE, if_pos hE, bndE, secN, if_pos hb])
    clear hE
    go_enter Try.func12, Try.ntmps12
    go_wp2_with (first
      | (go_at_call 31; refine (rsized_any _ _).mono ?_; rintro e w' ⟨rfl, rfl⟩)
      | fail)
    go_ret2
    exact ⟨by rw [HV.out, HE.out]; rfl, rfl⟩
  · have HV := Lib.hid (show secV size n = (n + size - 1) / size * (size + 7) by rw [secV, if_pos hE, bndV, secN, if_neg hb])
    have HE := Lib.hid (show secE size n = 0 by rw [secE, if_pos hE, bndE, secN, if_neg hb])
    clear hE
    go_enter Try.func12, Try.ntmps12
    go_wp2_with (first
      | (go_at_call 31; refine (rsized_any _ _).mono ?_; rintro e w' ⟨rfl, rfl⟩)
      | fail)
    go_ret2
    exact ⟨by rw [HV.out, HE.out]; rfl, rfl⟩

set_option maxHeartbeats 1000000 in
theorem rphysical_any (size n : Int) (w : World) : Calls Try.prog 14 #[.int .i64 size, .int .i64 n] w fun e w' => e = .returned (.tuple #[.int .i64 (phyV size n), .int .i64 (phyE size n)]) ∧ ∃ k, w' = w.drewN k := by
  rcases numE_cases size n with ⟨hs, hE⟩ | ⟨hs, hn, hE⟩ | ⟨hs, hn, hE⟩ | ⟨hs, h3, h4, hE⟩
  all_goals (try
    (have HV := Lib.hid (show phyV size n = 0 by rw [phyV, hE]; rfl)
     have HE := Lib.hid (show phyE size n = numE size n by rw [phyE, if_neg (by rw [hE]; decide)])
     have HN := Lib.hid hE
     clear hE
     go_enter Try.func14, Try.ntmps14
     go_wp2_with (first
       | (go_at_call 31; refine (rsized_any _ _).mono ?_; rintro e w' ⟨rfl, rfl⟩)
       | fail)
     go_ret2
     exact ⟨by rw [HV.out, HE.out, HN.out]; rfl, 0, rfl⟩))
  have h12 := of_decide_eq_true hs
  obtain ⟨h1, h2⟩ := h12
  obtain ⟨b1, b2, b3, b4, b5, b6⟩ := phyN_bd h1 h2 h3 h4
  by_cases hb : 449849 < n / size * (size + 7) + 5 + n % size
  · have HV := Lib.hid (show phyV size n = 0 by rw [phyV, if_pos hE, bndV, phyN, if_pos hb])
    have HE := Lib.hid (show phyE size n = 2 by rw [phyE, if_pos hE, bndE, phyN, if_pos hb])
    clear hE
    go_enter Try.func14, Try.ntmps14
    go_wp2_with (first
      | (go_at_call 31; refine (rsized_any _ _).mono ?_; rintro e w' ⟨rfl, rfl⟩)
      | fail)
    go_quiet (fail)
    go_wp2
    go_ret2
    exact ⟨by rw [HV.out, HE.out]; rfl, _, rfl⟩
  · have HV := Lib.hid (show phyV size n = n / size * (size + 7) + 5 + n % size by rw [phyV, if_pos hE, bndV, phyN, if_neg hb])
    have HE := Lib.hid (show phyE size n = 0 by rw [phyE, if_pos hE, bndE, phyN, if_neg hb])
    clear hE
    go_enter Try.func14, Try.ntmps14
    go_wp2_with (first
      | (go_at_call 31; refine (rsized_any _ _).mono ?_; rintro e w' ⟨rfl, rfl⟩)
      | fail)
    go_quiet (fail)
    go_wp2
    go_ret2
    exact ⟨by rw [HV.out, HE.out]; rfl, _, rfl⟩
end Go.Proofs.Yticmopgpfplbnaa
