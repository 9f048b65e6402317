/-
  The walks of the reference's fits, Bytes, Reverse, Little, Big, Both.
-/
import Derived.Test.YtlllcnbaebfbiaaA
namespace Go.Proofs.Ytlllcnbaebfbiaa
open Go.RowKit

theorem div_step (n : Int) (k : Nat) : n / 256 ^ k / 256 = n / 256 ^ (k + 1) := by
  rw [Int.pow_succ, Int.ediv_ediv_of_nonneg (Int.pow_nonneg (by omega))]
theorem div_nonneg (n : Int) (k : Nat) (h : 0 ≤ n) : 0 ≤ n / 256 ^ k := Int.ediv_nonneg h (Int.pow_nonneg (by omega))
theorem div_le (n : Int) (k : Nat) (h : 0 ≤ n) : n / 256 ^ k ≤ n := Int.ediv_le_self _ h
theorem div_zero_iff (n : Int) (k : Nat) (h : 0 ≤ n) : (n / 256 ^ k == 0) = fitsB n k := by
  have hp : (0 : Int) < 256 ^ k := Int.pow_pos (by omega)
  rw [Bool.eq_iff_iff]
  simp only [beq_iff_eq, fitsB, Bool.and_eq_true, decide_eq_true_eq]
  constructor
  · intro hq
    refine ⟨h, ?_⟩
    have := Int.lt_mul_ediv_self_add (x := n) (k := 256 ^ k) hp
    rw [hq] at this
    omega
  · rintro ⟨_, hlt⟩
    exact Int.ediv_eq_zero_of_lt h hlt

set_option maxHeartbeats 400000 in
theorem rfits_any (n : Int) (size : Nat) (w : World) (h2 : size ≤ 8) (hn2 : n < 9223372036854775808) :
    Calls Try.prog 31 #[.int .i64 n, .int .i64 size] w fun e w' => e = .returned (.bool (fitsB n size)) ∧ w = w' := by
  by_cases h0 : 0 ≤ n
  · have HF := Lib.hid (div_zero_iff n size h0)
    go_enter Try.func31, Try.ntmps31
    go_wp2
    go_loop [0, 5] (fun m i => ∃ k : Nat, k ≤ size ∧ i = .int .i64 k ∧ m = .int .i64 (n / 256 ^ k)) (fun _ i => size - (intOf i).toNat)
    case atStart => exact ⟨0, by omega, rfl, by simp⟩
    case round =>
      obtain ⟨k, hk, rfl, rfl⟩ := hrel
      have hq0 := div_nonneg n k h0
      have hq1 := div_le n k h0
      by_cases hlt : k < size
      · have HS := Lib.hid (div_step n k)
        generalize n / 256 ^ k = q at *
        go_wp2
        go_round
        case rel => exact ⟨k + 1, by omega, by go_num, by rw [← HS.out]⟩
        case measure => simp [intOf]; omega
      · obtain rfl : k = size := by omega
        generalize n / 256 ^ k = q at *
        go_wp2
        go_ret
        exact ⟨ret_bool HF.out, rfl⟩
  · have HF := Lib.hid (show fitsB n size = false by simp [fitsB, h0])
    go_enter Try.func31, Try.ntmps31
    go_wp2
    go_ret
    exact ⟨ret_bool HF.out.symm, rfl⟩

theorem leB_snoc (n : Int) (k : Nat) : leB n (k + 1) = leB n k ++ [bt n k] := by simp [leB, List.range_succ]
theorem bt_div (n : Int) (k : Nat) (h : 0 ≤ n) : Value.int .u8 (n / 256 ^ k % 256) = byteV (bt n k) := by
  obtain ⟨m, rfl⟩ := Int.eq_ofNat_of_zero_le h
  have e3 : ((256 : Int) ^ k) = ((256 ^ k : Nat) : Int) := by rw [Int.natCast_pow]; rfl
  rw [e3]
  unfold byteV bt
  congr 1

set_option maxHeartbeats 400000 in
theorem bytes_any (n : Int) (size : Nat) (w : World) (h2 : size ≤ 8) (h0 : 0 ≤ n) (hn2 : n < 9223372036854775808) :
    Calls Try.prog 32 #[.int .i64 n, .int .i64 size] w fun e w' => e = .returned (.string ⟨(leB n size).toArray⟩) ∧ Below w.heap.size w w' := by
  go_enter Try.func32, Try.ntmps32
  go_wp2
  go_loopw [0, 5, 6] (fun m v i wr => ∃ k : Nat, k ≤ size ∧ i = .int .i64 k ∧ m = .int .i64 (n / 256 ^ k) ∧ wr.ownsRow w.heap.size 5 1 v k ((leB n k).map byteV) ∧ Below w.heap.size w wr) (fun _ _ i _ => size - (intOf i).toNat)
  case atStart => exact ⟨0, by omega, rfl, by simp, World.ownsRow_made _ _ _ (Nat.le_refl _) (by decide) rfl, (Below.refl _ _).alloc (Nat.le_refl _) _⟩
  case round =>
    obtain ⟨k, hk, rfl, rfl, hown, hb⟩ := hrel
    have hq0 := div_nonneg n k h0
    have hq1 := div_le n k h0
    by_cases hlt : k < size
    · have HS := Lib.hid (div_step n k)
      have HB := Lib.hid (bt_div n k h0)
      generalize n / 256 ^ k = q at *
      go_wp2_with (at_builtin; refine wpList_app1 hown info_u8 Try.underlying52 rfl (by unfold maxLen; omega) (by omega) hb.size rfl rfl rfl (by rfl) (by rfl) ?_; intro v1 w1 hown1 hb1 _)
      go_roundw
      case rel => exact ⟨k + 1, by omega, by go_num, by rw [← HS.out], by rw [leB_snoc, List.map_append, List.map_singleton, ← HB.out]; exact hown1, hb.trans hb1⟩
      case measure => simp [intOf]; omega
    · obtain rfl : k = size := by omega
      have hcv := own_string (P := Try.prog) wr 52 9 5 Try.underlying52 Try.underlying5 Try.underlying9 hown
      go_wp2
      go_ret
      exact ⟨rfl, hb⟩

theorem take_rev (l : List UInt8) (k : Nat) (h : k < l.length) : (l.drop k).reverse = (l.drop (k + 1)).reverse ++ [l[k]] := by
  rw [List.drop_eq_getElem_cons h, List.reverse_cons]

set_option maxHeartbeats 400000 in
theorem reverse_any (s : ByteArray) (w : World) (hs : s.size ≤ 140737488351232) :
    Calls Try.prog 34 #[.string s] w fun e w' => e = .returned (.string ⟨s.data.toList.reverse.toArray⟩) ∧ Below w.heap.size w w' := by
  have hsz : s.data.toList.length = s.size := by simp
  have HZ := Lib.hid hsz
  clear hsz
  go_enter Try.func34, Try.ntmps34
  go_wp2
  go_loopw [3, 4] (fun v i wr => ∃ k : Nat, k ≤ s.size ∧ i = .int .i64 ((k : Int) - 1) ∧ wr.ownsRow w.heap.size 5 1 v (s.size - k) ((s.data.toList.drop k).reverse.map byteV) ∧ Below w.heap.size w wr) (fun _ i _ => (intOf i + 1).toNat)
  case atStart => exact ⟨s.size, by omega, rfl, by rw [List.drop_of_length_le (Nat.le_of_eq HZ.out), Nat.sub_self]; exact World.ownsRow_made _ _ _ (Nat.le_refl _) (by decide) rfl, (Below.refl _ _).alloc (Nat.le_refl _) _⟩
  case round =>
    obtain ⟨k, hk, rfl, hown, hb⟩ := hrel
    by_cases hlt : 0 < k
    · obtain ⟨j, rfl⟩ : ∃ j, k = j + 1 := ⟨k - 1, by omega⟩
      have hj : j < s.size := by omega
      have HS := Lib.hid (take_rev s.data.toList j (by rw [HZ.out]; exact hj))
      have ej : (((j + 1 : Nat) : Int) - 1) = (j : Int) := by omega
      rw [ej]
      clear ej
      go_wp2_with (at_builtin; refine wpList_app1 hown info_u8 Try.underlying52 rfl (by unfold maxLen; omega) (by omega) hb.size rfl rfl rfl (by rfl) (by rfl) ?_; intro v1 w1 hown1 hb1 _)
      go_roundw
      case rel => exact ⟨j, by omega, rfl, by rw [HS.out, List.map_append, List.map_singleton, show s.size - j = s.size - (j + 1) + 1 by omega]; exact hown1, hb.trans hb1⟩
      case measure => simp [intOf]
    · obtain rfl : k = 0 := by omega
      rw [List.drop_zero, Nat.sub_zero] at hown
      have hcv := own_string (P := Try.prog) wr 52 9 5 Try.underlying52 Try.underlying5 Try.underlying9 hown
      go_wp2
      go_ret
      exact ⟨rfl, hb⟩

theorem size_mk (l : List UInt8) : (⟨l.toArray⟩ : ByteArray).size = l.length := rfl
theorem strLe_ok {n : Int} {s : Nat} (h : errB n s = 0) : strLe n s = ⟨(leB n s).toArray⟩ := by simp [strLe, h]
theorem strBe_ok {n : Int} {s : Nat} (h : errB n s = 0) : strBe n s = ⟨(beB n s).toArray⟩ := by simp [strBe, h]
theorem strLe_bad {n s : Int} (h : errB n s ≠ 0) : strLe n s = ByteArray.empty := by simp [strLe, h]
theorem strBe_bad {n s : Int} (h : errB n s ≠ 0) : strBe n s = ByteArray.empty := by simp [strBe, h]
theorem strLe_size (n s : Int) : (strLe n s).size ≤ 8 := by
  by_cases h : errB n s = 0
  · obtain ⟨s, rfl, hs1, hs2, hf, hn⟩ := errB_ok n s h
    rw [strLe_ok h, size_mk, leB_length]
    omega
  · rw [strLe_bad h]; simp
theorem strBe_rev (n s : Int) : strBe n s = ⟨(strLe n s).data.toList.reverse.toArray⟩ := by
  by_cases h : errB n s = 0
  · obtain ⟨s, rfl, hs1, hs2, hf, hn⟩ := errB_ok n s h
    rw [strLe_ok h, strBe_ok h, beB_eq]
  · rw [strLe_bad h, strBe_bad h]
    rfl

set_option maxHeartbeats 400000 in
theorem rlittle_any (n size : Int) (w : World) (hn2 : n < 9223372036854775808) :
    Calls Try.prog 12 #[.int .i64 n, .int .i64 size] w fun e w' => e = .returned (.tuple #[.string (strLe n size), .int .i64 (errB n size)]) ∧ Below w.heap.size w w' := by
  by_cases h : size < 1 ∨ 8 < size
  · have HE := Lib.hid (show errB n size = 1 by simp [errB, h])
    have HF := Lib.hid (show strLe n size = ByteArray.empty from strLe_bad (by rw [HE.out]; decide))
    rcases h with h | h
    · go_enter Try.func12, Try.ntmps12
      go_wp2
      go_ret2
      exact ⟨by rw [HF.out, HE.out]; rfl, Below.refl _ _⟩
    · go_enter Try.func12, Try.ntmps12
      go_wp2
      go_ret2
      exact ⟨by rw [HF.out, HE.out]; rfl, Below.refl _ _⟩
  · obtain ⟨s, rfl⟩ : ∃ s : Nat, size = s := ⟨size.toNat, by omega⟩
    have hs1 : 1 ≤ s := by omega
    have hs2 : s ≤ 8 := by omega
    by_cases hf : fitsB n s = true
    · have h0 : 0 ≤ n := by simp [fitsB] at hf; exact hf.1
      have HE := Lib.hid (show errB n s = 0 by simp [errB, h, hf])
      have HF := Lib.hid (strLe_ok HE.out)
      clear h
      go_enter Try.func12, Try.ntmps12
      go_wp2_with (first
        | (go_at_call 31; refine (rfits_any _ _ _ hs2 hn2).mono ?_; rintro e w' ⟨rfl, rfl⟩)
        | (go_at_call 32; refine (bytes_any _ _ _ hs2 h0 hn2).mono ?_; rintro e w1 ⟨rfl, hb⟩))
      go_ret2
      exact ⟨by rw [HF.out, HE.out]; rfl, hb⟩
    · have hf : fitsB n s = false := by simpa using hf
      have HE := Lib.hid (show errB n s = 2 by simp [errB, h, hf])
      have HF := Lib.hid (show strLe n s = ByteArray.empty from strLe_bad (by rw [HE.out]; decide))
      clear h
      go_enter Try.func12, Try.ntmps12
      go_wp2_with (first
        | (go_at_call 31; refine (rfits_any _ _ _ hs2 hn2).mono ?_; rintro e w' ⟨rfl, rfl⟩))
      go_ret2
      exact ⟨by rw [HF.out, HE.out]; rfl, Below.refl _ _⟩

set_option maxHeartbeats 400000 in
theorem rbig_any (n size : Int) (w : World) (hn2 : n < 9223372036854775808) :
    Calls Try.prog 14 #[.int .i64 n, .int .i64 size] w fun e w' => e = .returned (.tuple #[.string (strBe n size), .int .i64 (errB n size)]) ∧ Below w.heap.size w w' := by
  have HF := Lib.hid (strBe_rev n size)
  have hz := strLe_size n size
  go_enter Try.func14, Try.ntmps14
  go_wp2_with (first
    | (go_at_call 12; refine (rlittle_any _ _ _ hn2).mono ?_; rintro e w1 ⟨rfl, hb1⟩)
    | (go_at_call 34; refine (reverse_any _ _ (by omega)).mono ?_; rintro e w2 ⟨rfl, hb2⟩))
  go_ret2
  exact ⟨by rw [HF.out]; rfl, hb1.trans (hb2.mono hb1.size)⟩

/-- The sizes that Both takes. -/
def doubleB (size : Int) : Bool := decide (size = 1 ∨ size = 2 ∨ size = 4)
def errBoth (n size : Int) : Int := if doubleB size then (if fitsB n size.toNat then 0 else 2) else 1
def strBoth (n size : Int) : ByteArray := if errBoth n size = 0 then strLe n size ++ strBe n size else ByteArray.empty
theorem errB_double {n size : Int} (h : doubleB size = true) : errB n size = errBoth n size := by
  have h' := of_decide_eq_true h
  rw [errB, if_neg (by omega), errBoth, if_pos h]
end Go.Proofs.Ytlllcnbaebfbiaa
