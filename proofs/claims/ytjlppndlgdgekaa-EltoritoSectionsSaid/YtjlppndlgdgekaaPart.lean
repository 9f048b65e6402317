/-
  Small functions of both: numbers as bytes, platforms, the validity of an image, entries.
-/
import Derived.Test.YtjlppndlgdgekaaSumW
import Derived.Test.YtjlppndlgdgekaaShelf
import Derived.Test.YtjlppndlgdgekaaRows2
import Derived.Test.YtjlppndlgdgekaaApp
import Derived.Deep.RegionHeld3
import Derived.Deep.Cut
import Derived.Handy
namespace Go.Proofs.Ytjlppndlgdgekaa
open Go.RowKit
set_option linter.unusedVariables false

theorem belowC {w0 W w1 : World} (hb : Below W.heap.size W w1) (hB : Below w0.heap.size w0 W) : Below w0.heap.size w0 w1 := hB.trans (hb.mono hB.size)
theorem mk_append (a b : List UInt8) : (⟨a.toArray⟩ : ByteArray) ++ ⟨b.toArray⟩ = ⟨(a ++ b).toArray⟩ := by
  apply ByteArray.ext
  simp
theorem mk_data (s : ByteArray) : (⟨s.data.toList.toArray⟩ : ByteArray) = s := rfl

theorem number_any (n size : Int) (w : World) (hn : n < 9223372036854775808) :
    Calls Try.prog 26 #[.int .i64 n, .int .i64 size] w fun e w' => e = .returned (.string (strLe n size)) ∧ Below w.heap.size w w' := by
  go_enter Try.func26, Try.ntmps26
  go_wp2_with fail
  refine (little_any _ _ _ hn).mono ?_
  rintro e w1 ⟨rfl, hb1⟩
  go_wp2_with fail
  go_ret
  exact ⟨rfl, hb1⟩
theorem rnumber_any (n size : Int) (w : World) (hn : n < 9223372036854775808) :
    Calls Try.prog 31 #[.int .i64 n, .int .i64 size] w fun e w' => e = .returned (.string (strLe n size)) ∧ Below w.heap.size w w' := by
  go_enter Try.func31, Try.ntmps31
  go_wp2_with fail
  refine (rlittle_any _ _ _ hn).mono ?_
  rintro e w1 ⟨rfl, hb1⟩
  go_wp2_with fail
  go_ret
  exact ⟨rfl, hb1⟩
theorem str1 {n : Int} (h0 : 0 ≤ n) (h1 : n ≤ 255) : strLe n 1 = ⟨(leB n 1).toArray⟩ := strLe_ok (s := 1) (by
  have : fitsB n 1 = true := by simp [fitsB]; omega
  simp [errB, this])
theorem str2 {n : Int} (h0 : 0 ≤ n) (h1 : n ≤ 65535) : strLe n 2 = ⟨(leB n 2).toArray⟩ := strLe_ok (s := 2) (by
  have : fitsB n 2 = true := by simp [fitsB]; omega
  simp [errB, this])
theorem str4 {n : Int} (h0 : 0 ≤ n) (h1 : n ≤ 4294967295) : strLe n 4 = ⟨(leB n 4).toArray⟩ := strLe_ok (s := 4) (by
  have : fitsB n 4 = true := by simp [fitsB]; omega
  simp [errB, this])

/-- The place of a platform in the list of them. -/
def platIx (n : Int) : Int := if n = 0 then 0 else if n = 1 then 1 else if n = 2 then 2 else if n = 239 then 3 else -1
theorem platIx_ge (n : Int) : decide (0 ≤ platIx n) = platB n := by
  unfold platIx platB
  rw [Bool.eq_iff_iff, decide_eq_true_iff, decide_eq_true_iff]
  repeat' split
  all_goals omega
set_option maxHeartbeats 1000000 in
theorem index_any (n : Int) (g : Nat) (w : World) (h : RowAt w g 3 #[.int .i64 0, .int .i64 1, .int .i64 2, .int .i64 239]) :
    Calls Try.prog 64 #[.slice (some ⟨g, 0, none⟩) 4 4, .int .i64 n] w fun e w' => e = .returned (.int .i64 (platIx n)) ∧ w = w' := by
  have q := h.cell
  clear h
  have key : (n = 0 ∧ platIx n = 0) ∨ (n ≠ 0 ∧ n = 1 ∧ platIx n = 1) ∨ (n ≠ 0 ∧ n ≠ 1 ∧ n = 2 ∧ platIx n = 2) ∨ (n ≠ 0 ∧ n ≠ 1 ∧ n ≠ 2 ∧ n = 239 ∧ platIx n = 3) ∨ (n ≠ 0 ∧ n ≠ 1 ∧ n ≠ 2 ∧ n ≠ 239 ∧ platIx n = -1) := by
    unfold platIx
    repeat' split
    all_goals omega
  rcases key with ⟨rfl, hk⟩ | ⟨h0, rfl, hk⟩ | ⟨h0, h1, rfl, hk⟩ | ⟨h0, h1, h2, rfl, hk⟩ | ⟨h0, h1, h2, h3, hk⟩
  · have HK := Lib.hid hk
    clear hk
    go_enter Try.func64, Try.ntmps64
    go_wp2_with fail
    go_rounds 1
    go_ret
    exact ⟨ret_int HK.out.symm, rfl⟩
  · have HK := Lib.hid hk
    clear hk h0
    go_enter Try.func64, Try.ntmps64
    go_wp2_with fail
    go_rounds 2
    go_ret
    exact ⟨ret_int HK.out.symm, rfl⟩
  · have HK := Lib.hid hk
    clear hk h0 h1
    go_enter Try.func64, Try.ntmps64
    go_wp2_with fail
    go_rounds 3
    go_ret
    exact ⟨ret_int HK.out.symm, rfl⟩
  · have HK := Lib.hid hk
    clear hk h0 h1 h2
    go_enter Try.func64, Try.ntmps64
    go_wp2_with fail
    go_rounds 4
    go_ret
    exact ⟨ret_int HK.out.symm, rfl⟩
  · have HK := Lib.hid hk
    have e0 : (n == 0) = false := by rw [beq_eq_false_iff_ne]; exact h0
    have e1 : (n == 1) = false := by rw [beq_eq_false_iff_ne]; exact h1
    have e2 : (n == 2) = false := by rw [beq_eq_false_iff_ne]; exact h2
    have e3 : (n == 239) = false := by rw [beq_eq_false_iff_ne]; exact h3
    clear hk
    go_enter Try.func64, Try.ntmps64
    go_wp2_with fail
    go_rounds 5
    go_ret
    exact ⟨ret_int HK.out.symm, rfl⟩
theorem contains_any (n : Int) (g : Nat) (w : World) (h : RowAt w g 3 #[.int .i64 0, .int .i64 1, .int .i64 2, .int .i64 239]) :
    Calls Try.prog 50 #[.slice (some ⟨g, 0, none⟩) 4 4, .int .i64 n] w fun e w' => e = .returned (.bool (platB n)) ∧ w = w' := by
  have HP := Lib.hid (platIx_ge n)
  have C := Lib.hid (index_any n g w h)
  go_enter Try.func50, Try.ntmps50
  go_wp2_with fail
  refine C.out.mono ?_
  rintro e w1 ⟨rfl, rfl⟩
  go_wp2_with fail
  go_ret
  exact ⟨ret_bool HP.out, rfl⟩
theorem isplat_any (n : Int) (w : World) : Calls Try.prog 34 #[.int .i64 n] w fun e w' => e = .returned (.bool (platB n)) ∧ Below w.heap.size w w' := by
  go_enter Try.func34, Try.ntmps34
  go_wp2_with fail
  refine (contains_any n _ _ (RowAt.new _ _ _)).mono ?_
  rintro e w1 ⟨rfl, rfl⟩
  go_wp2_with fail
  go_ret
  exact ⟨rfl, (Below.refl _ _).alloc (Nat.le_refl _) _⟩
theorem rplat_any (n : Int) (w : World) : Calls Try.prog 36 #[.int .i64 n] w fun e w' => e = .returned (.bool (platB n)) ∧ Below w.heap.size w w' := by
  have hp : platB n = (((n == 0 || n == 1) || n == 2) || n == 239) := by
    unfold platB
    rw [Bool.eq_iff_iff, decide_eq_true_iff, Bool.or_eq_true, Bool.or_eq_true, Bool.or_eq_true, beq_iff_eq, beq_iff_eq, beq_iff_eq, beq_iff_eq]
    omega
  have HP := Lib.hid hp
  clear hp
  by_cases h0 : (n == 0) = true
  · go_enter Try.func36, Try.ntmps36
    go_wp2_with fail
    go_ret
    exact ⟨ret_bool (by rw [HP.out, h0]; rfl), Below.refl _ _⟩
  · have h0 : (n == 0) = false := by simpa using h0
    by_cases h1 : (n == 1) = true
    · go_enter Try.func36, Try.ntmps36
      go_wp2_with fail
      go_ret
      exact ⟨ret_bool (by rw [HP.out, h0, h1]; rfl), Below.refl _ _⟩
    · have h1 : (n == 1) = false := by simpa using h1
      by_cases h2 : (n == 2) = true
      · go_enter Try.func36, Try.ntmps36
        go_wp2_with fail
        go_ret
        exact ⟨ret_bool (by rw [HP.out, h0, h1, h2]; rfl), Below.refl _ _⟩
      · have h2 : (n == 2) = false := by simpa using h2
        go_enter Try.func36, Try.ntmps36
        go_wp2_with fail
        go_ret
        exact ⟨ret_bool (by rw [HP.out, h0, h1, h2]; rfl), Below.refl _ _⟩
theorem in_any (n most : Int) (w : World) : Calls Try.prog 43 #[.int .i64 n, .int .i64 most] w fun e w' => e = .returned (.bool (inB n most)) ∧ w = w' := by
  by_cases h : 0 ≤ n
  · have HP := Lib.hid (show inB n most = decide (n ≤ most) by unfold inB; rw [Bool.eq_iff_iff]; simp [h])
    go_enter Try.func43, Try.ntmps43
    go_wp2_with fail
    go_ret
    exact ⟨ret_bool HP.out.symm, rfl⟩
  · have HP : Hid (inB n most = false) := decide_eq_false (by omega)
    go_enter Try.func43, Try.ntmps43
    go_wp2_with fail
    go_ret
    exact ⟨ret_bool HP.out.symm, rfl⟩
end Go.Proofs.Ytjlppndlgdgekaa
