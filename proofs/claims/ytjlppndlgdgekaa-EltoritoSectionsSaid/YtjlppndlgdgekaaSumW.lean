/-
  Sum of the program and of the reference.
-/
import Derived.Test.YtjlppndlgdgekaaNumR
import Derived.Test.YtjlppndlgdgekaaSt
import Derived.Handy
import Derived.Test.YtjlppndlgdgekaaTor
namespace Go.Proofs.Ytjlppndlgdgekaa
open Go.RowKit
set_option linter.unusedVariables false

theorem sum_mod (S a b : Nat) : ((((S % 65536 : Nat) : Int) + (a : Int) + 256 * (b : Int)) % 65536) = (((S + (a + 256 * b)) % 65536 : Nat) : Int) := by omega

theorem w64 {n : Int} (h0 : -9223372036854775808 ≤ n) (h1 : n ≤ 9223372036854775807) : wrap64 n = n := IntWalk.wrap64_in n (by omega)
theorem sum_val {n : Int} (a b : UInt8) (h0 : 0 ≤ n) (h1 : n < 65536) : (wrap64 (wrap64 (n + wrap64 (a.toNat : Int)) + wrap64 (256 * wrap64 (b.toNat : Int)))).tmod 65536 = (n + a.toNat + 256 * b.toNat) % 65536 := by
  have ha := a.toNat_lt
  have hb := b.toNat_lt
  rw [w64 (n := (a.toNat : Int)) (by omega) (by omega), w64 (n := (b.toNat : Int)) (by omega) (by omega), w64 (n := 256 * (b.toNat : Int)) (by omega) (by omega), w64 (n := n + (a.toNat : Int)) (by omega) (by omega), w64 (by omega) (by omega), Int.tmod_eq_emod_of_nonneg (by omega)]
theorem sum_val2 {n : Int} (a b : UInt8) (h0 : 0 ≤ n) (h1 : n < 65536) : (wrap64 (wrap64 (n + wrap64 (a.toNat : Int)) + wrap64 (wrap64 (b.toNat : Int) * 256))).tmod 65536 = (n + a.toNat + 256 * b.toNat) % 65536 := by
  have hb := b.toNat_lt
  rw [w64 (n := (b.toNat : Int)) (by omega) (by omega), Int.mul_comm, ← w64 (n := (b.toNat : Int)) (by omega) (by omega), sum_val a b h0 h1, w64 (n := (b.toNat : Int)) (by omega) (by omega)]
theorem sum_next {l : List UInt8} {k : Nat} {a b : UInt8} {n : Int} (ha : l[2 * k]? = some a) (hb : l[2 * k + 1]? = some b) (hn : n = sumS (l.take (2 * k))) : (n + a.toNat + 256 * b.toNat) % 65536 = sumS (l.take (2 * (k + 1))) := by
  unfold sumS at *
  rw [sumN_step k l a b ha hb, hn, sum_mod]

set_option maxHeartbeats 1000000 in
theorem rsum_any (s : ByteArray) (w : World) (hs : s.size ≤ 140737488351232) :
    Calls Try.prog 17 #[.string s] w fun e w' => e = .returned (.int .i64 (sumS s.data.toList)) ∧ Below w.heap.size w w' := by
  go_enter Try.func17, Try.ntmps17
  go_wp2_with fail
  go_loopw [3, 4] (fun n' i' wr => ∃ (i k : Nat) (n : Int), Hid (i = 2 * k) ∧ i ≤ s.size + 1 ∧ i' = .int .i64 i ∧ n' = .int .i64 n ∧ 0 ≤ n ∧ n < 65536 ∧ Hid (n = sumS (s.data.toList.take (2 * k))) ∧ Below w.heap.size w wr) (fun _ i' _ => s.size + 1 - (intOf i').toNat)
  case atStart => exact ⟨0, 0, 0, Lib.hid rfl, by omega, rfl, rfl, by omega, by omega, Lib.hid rfl, Below.refl _ _⟩
  case round =>
    obtain ⟨i, k, n, HI, hi, rfl, rfl, hn0, hn1, HN, hbel⟩ := hrel
    by_cases hlt : i + 1 < s.size
    · have hlt2 : i < s.size := by omega
      have hltI : (i : Int) + 1 < (s.size : Int) := by omega
      have h1 : IntKind.i64.wrap ((i : Int) + 1) = (i : Int) + 1 := IntWalk.i64_in _ (by omega)
      have h2 : (0 : Int) ≤ (i : Int) + 1 := by omega
      have h3 : ((i : Int) + 1).toNat = i + 1 := by omega
      go_wp2_with fail
      go_quiet (fail)
      have ev := sum_val s[i] s[i + 1] hn0 hn1
      have ex := sum_next (k := k) (by rw [← HI.out]; exact bytes_get s i hlt2) (by rw [← HI.out]; exact bytes_get s (i + 1) hlt) HN.out
      have e0 : 0 ≤ (n + s[i].toNat + 256 * s[i + 1].toNat) % 65536 ∧ (n + s[i].toNat + 256 * s[i + 1].toNat) % 65536 < 65536 := by omega
      have EV := Lib.hid ev
      have EX := Lib.hid ex
      clear ev ex
      go_wp2_with fail
      go_roundw
      case rel => exact ⟨i + 2, k + 1, _, Lib.hid (by rw [HI.out]; omega), by omega, by go_num, rfl, by rw [EV.out]; exact e0.1, by rw [EV.out]; exact e0.2, by rw [EV.out]; exact EX.out, below_drewN hbel _⟩
      case measure => simp [intOf]; omega
    · have hge : ¬ (i : Int) + 1 < (s.size : Int) := by omega
      go_wp2_with fail
      go_ret
      refine ⟨ret_int ?_, hbel⟩
      rw [HN.out, sumS, sumN_end (by have := HI.out; simp; omega)]
      rfl
set_option maxHeartbeats 1000000 in
theorem sum_any (s : ByteArray) (w : World) (hs : s.size ≤ 140737488351232) :
    Calls Try.prog 16 #[.string s] w fun e w' => e = .returned (.int .i64 (sumS s.data.toList)) ∧ Below w.heap.size w w' := by
  go_enter Try.func16, Try.ntmps16
  go_wp2_with fail
  go_loopw [3, 4] (fun n' i' wr => ∃ (i k : Nat) (n : Int), Hid (i = 2 * k) ∧ i ≤ s.size + 1 ∧ i' = .int .i64 i ∧ n' = .int .i64 n ∧ 0 ≤ n ∧ n < 65536 ∧ Hid (n = sumS (s.data.toList.take (2 * k))) ∧ Below w.heap.size w wr) (fun _ i' _ => s.size + 1 - (intOf i').toNat)
  case atStart => exact ⟨0, 0, 0, Lib.hid rfl, by omega, rfl, rfl, by omega, by omega, Lib.hid rfl, Below.refl _ _⟩
  case round =>
    obtain ⟨i, k, n, HI, hi, rfl, rfl, hn0, hn1, HN, hbel⟩ := hrel
    by_cases hlt : i + 1 < s.size
    · have hlt2 : i < s.size := by omega
      have hltI : (i : Int) + 1 < (s.size : Int) := by omega
      have h1 : IntKind.i64.wrap ((i : Int) + 1) = (i : Int) + 1 := IntWalk.i64_in _ (by omega)
      have h2 : (0 : Int) ≤ (i : Int) + 1 := by omega
      have h3 : ((i : Int) + 1).toNat = i + 1 := by omega
      go_wp2_with fail
      go_quiet (fail)
      have ev := sum_val2 s[i] s[i + 1] hn0 hn1
      have ex := sum_next (k := k) (by rw [← HI.out]; exact bytes_get s i hlt2) (by rw [← HI.out]; exact bytes_get s (i + 1) hlt) HN.out
      have e0 : 0 ≤ (n + s[i].toNat + 256 * s[i + 1].toNat) % 65536 ∧ (n + s[i].toNat + 256 * s[i + 1].toNat) % 65536 < 65536 := by omega
      have EV := Lib.hid ev
      have EX := Lib.hid ex
      clear ev ex
      go_wp2_with fail
      go_roundw
      case rel => exact ⟨i + 2, k + 1, _, Lib.hid (by rw [HI.out]; omega), by omega, by go_num, rfl, by rw [EV.out]; exact e0.1, by rw [EV.out]; exact e0.2, by rw [EV.out]; exact EX.out, below_drewN hbel _⟩
      case measure => simp [intOf]; omega
    · have hge : ¬ (i : Int) + 1 < (s.size : Int) := by omega
      go_wp2_with fail
      go_ret
      refine ⟨ret_int ?_, hbel⟩
      rw [HN.out, sumS, sumN_end (by have := HI.out; simp; omega)]
      rfl
end Go.Proofs.Ytjlppndlgdgekaa
