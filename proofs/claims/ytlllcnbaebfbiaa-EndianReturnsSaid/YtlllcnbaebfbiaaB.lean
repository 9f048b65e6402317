/-
  The walks of double and Both, of the program and of the reference.
-/
import Derived.Test.YtlllcnbaebfbiaaR
namespace Go.Proofs.Ytlllcnbaebfbiaa
open Go.RowKit

theorem double_any (size : Int) (w : World) :
    Calls Try.prog 35 #[.int .i64 size] w fun e w' => e = .returned (.bool (doubleB size)) ∧ w = w' := by
  by_cases h1 : size = 1
  · have HD := Lib.hid (show doubleB size = true by simp [doubleB, h1])
    go_enter Try.func35, Try.ntmps35
    go_wp2
    go_ret
    exact ⟨ret_bool HD.out.symm, rfl⟩
  · by_cases h2 : size = 2
    · have HD := Lib.hid (show doubleB size = true by simp [doubleB, h2])
      go_enter Try.func35, Try.ntmps35
      go_wp2
      go_ret
      exact ⟨ret_bool HD.out.symm, rfl⟩
    · have HD := Lib.hid (show doubleB size = (size == 4) by simp [doubleB, h1, h2]; rfl)
      have h1' : (size == 1) = false := by simpa using h1
      have h2' : (size == 2) = false := by simpa using h2
      go_enter Try.func35, Try.ntmps35
      go_wp2
      go_ret
      exact ⟨ret_bool HD.out.symm, rfl⟩

set_option maxHeartbeats 400000 in
theorem both_any (n size : Int) (w : World) (hn2 : n < 9223372036854775808) :
    Calls Try.prog 15 #[.int .i64 n, .int .i64 size] w fun e w' => e = .returned (.tuple #[.string (strBoth n size), .int .i64 (errBoth n size)]) ∧ Below w.heap.size w w' := by
  by_cases hd : doubleB size = true
  · have HB := Lib.hid (errB_double (n := n) hd)
    by_cases h : errBoth n size = 0
    · obtain ⟨s, rfl, hs1, hs2, hf, hn⟩ := errB_ok n size (HB.out.trans h)
      have HE := Lib.hid h
      have HF := Lib.hid (show strBoth n s = ⟨(leB n s).toArray⟩ ++ ⟨(beB n s).toArray⟩ by rw [strBoth, if_pos h, strLe_ok (HB.out.trans h), strBe_ok (HB.out.trans h)])
      have l1 : (⟨(leB n s).toArray⟩ : ByteArray).size ≤ 8 := by rw [size_mk, leB_length]; exact hs2
      have l2 : (⟨(beB n s).toArray⟩ : ByteArray).size ≤ 8 := by rw [size_mk, beB_length]; exact hs2
      clear h
      generalize hx : (⟨(leB n s).toArray⟩ : ByteArray) = X at *
      generalize hy : (⟨(beB n s).toArray⟩ : ByteArray) = Y at *
      have HX := Lib.hid hx
      have HY := Lib.hid hy
      clear hx hy
      go_enter Try.func15, Try.ntmps15
      go_wp2_with (first
        | (go_at_call 35; refine (double_any _ _).mono ?_; rintro e w' ⟨rfl, rfl⟩)
        | (go_at_call 36; refine (fits_any _ _ _ hs1 hs2 hn2).mono ?_; rintro e w' ⟨rfl, rfl⟩)
        | (go_at_call 30; refine (up_any _ _).mono ?_; rintro e w' ⟨rfl, rfl⟩)
        | (go_at_call 33; refine (down_any _ _).mono ?_; rintro e w' ⟨rfl, rfl⟩)
        | fail)
      have Hw1 := write_up n s w hs1 hs2 hn
      rw [HX.out] at Hw1
      refine Hw1.mono ?_
      rintro e w1 ⟨rfl, hb1⟩
      go_wp2_with (first
        | (go_at_call 33; refine (down_any _ _).mono ?_; rintro e w' ⟨rfl, rfl⟩)
        | fail)
      have Hw2 := write_down n s (w1.alloc (.cells #[.int .i64 s] 3)) hs1 hs2 hn ⟨w1.heap.size, 0, none⟩ (by simp) (by simp)
      rw [HY.out] at Hw2
      refine Hw2.mono ?_
      rintro e w2 ⟨rfl, hb2⟩
      go_wp2
      go_ret2
      exact ⟨by rw [HF.out, HE.out]; rfl, (hb1.alloc hb1.size _).trans (hb2.mono (by have := hb1.size; simp; omega))⟩
    · have hE := h
      have HF := Lib.hid (show strBoth n size = ByteArray.empty by simp [strBoth, h])
      have hsz : 1 ≤ size ∧ size ≤ 8 := by have := of_decide_eq_true hd; omega
      obtain ⟨s, rfl⟩ : ∃ s : Nat, size = s := ⟨size.toNat, by omega⟩
      have hf : fitsB n s = false := by
        rcases hfb : fitsB n s with _ | _
        · rfl
        · exact absurd (show errBoth n s = 0 by simp [errBoth, hd, hfb]) h
      have HE := Lib.hid (show errBoth n s = 2 by simp [errBoth, hd, hf])
      have hs1 : 1 ≤ s := by omega
      have hs2 : s ≤ 8 := by omega
      clear h hE hsz
      go_enter Try.func15, Try.ntmps15
      go_wp2_with (first
        | (go_at_call 35; refine (double_any _ _).mono ?_; rintro e w' ⟨rfl, rfl⟩)
        | (go_at_call 36; refine (fits_any _ _ _ hs1 hs2 hn2).mono ?_; rintro e w' ⟨rfl, rfl⟩)
        | fail)
      go_ret2
      exact ⟨by rw [HF.out, HE.out]; rfl, Below.refl _ _⟩
  · have hd : doubleB size = false := by simpa using hd
    have HE := Lib.hid (show errBoth n size = 1 by simp [errBoth, hd])
    have HF := Lib.hid (show strBoth n size = ByteArray.empty by rw [strBoth, HE.out]; rfl)
    go_enter Try.func15, Try.ntmps15
    go_wp2_with (first
      | (go_at_call 35; refine (double_any _ _).mono ?_; rintro e w' ⟨rfl, rfl⟩)
      | fail)
    go_ret2
    exact ⟨by rw [HF.out, HE.out]; rfl, Below.refl _ _⟩

set_option maxHeartbeats 400000 in
theorem rboth_any (n size : Int) (w : World) (hn2 : n < 9223372036854775808) :
    Calls Try.prog 16 #[.int .i64 n, .int .i64 size] w fun e w' => e = .returned (.tuple #[.string (strBoth n size), .int .i64 (errBoth n size)]) ∧ Below w.heap.size w w' := by
  have hz := strLe_size n size
  by_cases hd : doubleB size = true
  · have HB := Lib.hid (errB_double (n := n) hd)
    have HF := Lib.hid (show strBoth n size = strLe n size ++ ⟨(strLe n size).data.toList.reverse.toArray⟩ by
      by_cases h : errBoth n size = 0
      · rw [strBoth, if_pos h, strBe_rev]
      · rw [strBoth, if_neg h, strLe_bad (by rw [HB.out]; exact h)]; rfl)
    have hz2 : (⟨(strLe n size).data.toList.reverse.toArray⟩ : ByteArray).size ≤ 8 := by rw [size_mk]; simpa using hz
    have hdd := of_decide_eq_true hd
    rcases hdd with rfl | rfl | rfl
    all_goals
      go_enter Try.func16, Try.ntmps16
      go_wp2_with (first
        | (go_at_call 12; refine (rlittle_any _ _ _ hn2).mono ?_; rintro e w1 ⟨rfl, hb1⟩)
        | (go_at_call 34; refine (reverse_any _ _ (by omega)).mono ?_; rintro e w2 ⟨rfl, hb2⟩)
        | fail)
      go_ret2
      exact ⟨by rw [HF.out, ← HB.out]; rfl, hb1.trans (hb2.mono hb1.size)⟩
  · have hd : doubleB size = false := by simpa using hd
    have HE := Lib.hid (show errBoth n size = 1 by simp [errBoth, hd])
    have HF := Lib.hid (show strBoth n size = ByteArray.empty by rw [strBoth, HE.out]; rfl)
    have hdd : ¬ (size = 1 ∨ size = 2 ∨ size = 4) := of_decide_eq_false hd
    have h1' : (size == 1) = false := by simp; omega
    have h2' : (size == 2) = false := by simp; omega
    have h4' : (size == 4) = false := by simp; omega
    have h1 : (size != 1) = true := by simp; omega
    have h2 : (size != 2) = true := by simp; omega
    have h4 : (size != 4) = true := by simp; omega
    clear hdd
    go_enter Try.func16, Try.ntmps16
    go_wp2_with fail
    go_ret2
    exact ⟨by rw [HF.out, HE.out]; rfl, Below.refl _ _⟩
end Go.Proofs.Ytlllcnbaebfbiaa
