/-
  The walks of endian.fits, check, Little, Big, Both, double.
-/
import Derived.Test.YtlllcnbaebfbiaaWrite
namespace Go.Proofs.Ytlllcnbaebfbiaa
open Go.RowKit

theorem fits_lemma (n : Int) (size : Nat) (h1 : 1 ≤ size) (h2 : size ≤ 8) (hn2 : n < 9223372036854775808) (h0 : 0 ≤ n) :
    ((size : Int) == 8 || decide (n < wrap64 (2 ^ (8 * size)))) = fitsB n size := by
  have : size = 1 ∨ size = 2 ∨ size = 3 ∨ size = 4 ∨ size = 5 ∨ size = 6 ∨ size = 7 ∨ size = 8 := by omega
  rcases this with rfl | rfl | rfl | rfl | rfl | rfl | rfl | rfl <;> simp [fitsB, wrap64, h0] <;> omega

set_option maxHeartbeats 400000 in
theorem fits_any (n : Int) (size : Nat) (w : World) (h1 : 1 ≤ size) (h2 : size ≤ 8) (hn2 : n < 9223372036854775808) :
    Calls Try.prog 36 #[.int .i64 n, .int .i64 size] w fun e w' => e = .returned (.bool (fitsB n size)) ∧ w = w' := by
  by_cases h0 : 0 ≤ n
  · have HF := Lib.hid (fits_lemma n size h1 h2 hn2 h0)
    by_cases h8 : (size : Int) = 8
    · have h8' : size = 8 := by omega
      subst h8'
      go_enter Try.func36, Try.ntmps36
      go_wp2
      go_ret
      exact ⟨ret_bool (by rw [← HF.out]; simp), rfl⟩
    · go_enter Try.func36, Try.ntmps36
      go_wp2
      go_ret
      exact ⟨ret_bool HF.out, rfl⟩
  · have HF := Lib.hid (show fitsB n size = false by simp [fitsB, h0])
    go_enter Try.func36, Try.ntmps36
    go_wp2
    go_ret
    exact ⟨ret_bool HF.out.symm, rfl⟩

/-- The error of a number and a size. -/
def errB (n size : Int) : Int := if size < 1 ∨ 8 < size then 1 else if fitsB n size.toNat then 0 else 2

set_option maxHeartbeats 400000 in
theorem check_any (n size : Int) (w : World) (hn2 : n < 9223372036854775808) :
    Calls Try.prog 28 #[.int .i64 n, .int .i64 size] w fun e w' => e = .returned (.int .i64 (errB n size)) ∧ w = w' := by
  by_cases h : size < 1 ∨ 8 < size
  · have HF := Lib.hid (show errB n size = 1 by simp [errB, h])
    rcases h with h | h
    · go_enter Try.func28, Try.ntmps28
      go_wp2
      go_ret
      exact ⟨ret_int HF.out.symm, rfl⟩
    · go_enter Try.func28, Try.ntmps28
      go_wp2
      go_ret
      exact ⟨ret_int HF.out.symm, rfl⟩
  · obtain ⟨s, rfl⟩ : ∃ s : Nat, size = s := ⟨size.toNat, by omega⟩
    by_cases hf : fitsB n s = true
    · have HF := Lib.hid (show errB n s = 0 by simp [errB, h, hf])
      have hs1 : 1 ≤ s := by omega
      have hs2 : s ≤ 8 := by omega
      clear h
      go_enter Try.func28, Try.ntmps28
      go_wp2_with (go_at_call 36; refine (fits_any _ _ _ hs1 hs2 hn2).mono ?_; rintro e w' ⟨rfl, rfl⟩)
      go_ret
      exact ⟨ret_int HF.out.symm, rfl⟩
    · have hf : fitsB n s = false := by simpa using hf
      have HF := Lib.hid (show errB n s = 2 by simp [errB, h, hf])
      have hs1 : 1 ≤ s := by omega
      have hs2 : s ≤ 8 := by omega
      clear h
      go_enter Try.func28, Try.ntmps28
      go_wp2_with (go_at_call 36; refine (fits_any _ _ _ hs1 hs2 hn2).mono ?_; rintro e w' ⟨rfl, rfl⟩)
      go_ret
      exact ⟨ret_int HF.out.symm, rfl⟩

theorem errB_ok (n size : Int) (h : errB n size = 0) : ∃ s : Nat, size = s ∧ 1 ≤ s ∧ s ≤ 8 ∧ fitsB n s = true ∧ 0 ≤ n := by
  unfold errB at h
  split at h
  · omega
  · rename_i h'
    split at h
    · rename_i hf
      refine ⟨size.toNat, by omega, by omega, by omega, hf, ?_⟩
      simp [fitsB] at hf
      exact hf.1
    · omega

/-- What Little and Big return. -/
def strLe (n size : Int) : ByteArray := if errB n size = 0 then ⟨(leB n size.toNat).toArray⟩ else ByteArray.empty
def strBe (n size : Int) : ByteArray := if errB n size = 0 then ⟨(beB n size.toNat).toArray⟩ else ByteArray.empty

set_option maxHeartbeats 400000 in
theorem little_any (n size : Int) (w : World) (hn2 : n < 9223372036854775808) :
    Calls Try.prog 11 #[.int .i64 n, .int .i64 size] w fun e w' => e = .returned (.tuple #[.string (strLe n size), .int .i64 (errB n size)]) ∧ Below w.heap.size w w' := by
  by_cases h : errB n size = 0
  · obtain ⟨s, rfl, hs1, hs2, hf, hn⟩ := errB_ok n size h
    have HF := Lib.hid (show strLe n s = ⟨(leB n s).toArray⟩ by simp [strLe, h])
    have HE := Lib.hid h
    clear h
    have hE : (errB n s != 0) = false := by rw [HE.out]; rfl
    go_enter Try.func11, Try.ntmps11
    go_wp2_with (first
      | (go_at_call 28; refine (check_any _ _ _ hn2).mono ?_; rintro e w' ⟨rfl, rfl⟩)
      | (go_at_call 30; refine (up_any _ _).mono ?_; rintro e w' ⟨rfl, rfl⟩)
      | (go_at_call 29; refine (write_up _ _ _ hs1 hs2 hn).mono ?_; rintro e w1 ⟨rfl, hb⟩))
    go_ret2
    exact ⟨by rw [HF.out, HE.out]; rfl, hb⟩
  · have HF := Lib.hid (show strLe n size = ByteArray.empty by simp [strLe, h])
    have hE : (errB n size != 0) = true := by simpa using h
    clear h
    go_enter Try.func11, Try.ntmps11
    go_wp2_with (first
      | (go_at_call 28; refine (check_any _ _ _ hn2).mono ?_; rintro e w' ⟨rfl, rfl⟩))
    go_ret2
    exact ⟨by rw [HF.out]; rfl, Below.refl _ _⟩

set_option maxHeartbeats 400000 in
theorem big_any (n size : Int) (w : World) (hn2 : n < 9223372036854775808) :
    Calls Try.prog 13 #[.int .i64 n, .int .i64 size] w fun e w' => e = .returned (.tuple #[.string (strBe n size), .int .i64 (errB n size)]) ∧ Below w.heap.size w w' := by
  by_cases h : errB n size = 0
  · obtain ⟨s, rfl, hs1, hs2, hf, hn⟩ := errB_ok n size h
    have HF := Lib.hid (show strBe n s = ⟨(beB n s).toArray⟩ by simp [strBe, h])
    have HE := Lib.hid h
    clear h
    have hE : (errB n s != 0) = false := by rw [HE.out]; rfl
    go_enter Try.func13, Try.ntmps13
    go_wp2_with (first
      | (go_at_call 28; refine (check_any _ _ _ hn2).mono ?_; rintro e w' ⟨rfl, rfl⟩)
      | (go_at_call 33; refine (down_any _ _).mono ?_; rintro e w' ⟨rfl, rfl⟩)
      | (go_at_call 29; refine (write_down _ _ _ hs1 hs2 hn ⟨w.heap.size, 0, none⟩ (by simp) (by simp)).mono ?_; rintro e w1 ⟨rfl, hb⟩))
    go_ret2
    exact ⟨by rw [HF.out, HE.out]; rfl, ((Below.refl _ _).alloc (Nat.le_refl _) _).trans (hb.mono (by simp))⟩
  · have HF := Lib.hid (show strBe n size = ByteArray.empty by simp [strBe, h])
    have hE : (errB n size != 0) = true := by simpa using h
    clear h
    go_enter Try.func13, Try.ntmps13
    go_wp2_with (first
      | (go_at_call 28; refine (check_any _ _ _ hn2).mono ?_; rintro e w' ⟨rfl, rfl⟩))
    go_ret2
    exact ⟨by rw [HF.out]; rfl, Below.refl _ _⟩
end Go.Proofs.Ytlllcnbaebfbiaa
