/-
  The walks of BCD and FromBCD, of the program and of the reference (out of chapter 1's texts).
-/
import Derived.Test.YtdjpnabkmanboaaKit
namespace Go.Proofs.Ytdjpnabkmanboaa
open Go.RowKit

theorem or_bcd_fin : ∀ k : Fin 100, bits BinOp.or IntKind.i64 ((k.val : Int) / 10 * 16) ((k.val : Int) % 10) % 256 = (k.val : Int) / 10 * 16 + (k.val : Int) % 10 := by decide +kernel
theorem or_bcd (n : Int) (h0 : 0 ≤ n) (h1 : n ≤ 99) : bits BinOp.or IntKind.i64 (n / 10 * 16) (n % 10) % 256 = n / 10 * 16 + n % 10 := by
  have := or_bcd_fin ⟨n.toNat, by omega⟩
  simpa [Int.toNat_of_nonneg h0] using this

def bcdOk (n : Int) : Prop := 0 ≤ n ∧ n ≤ 99
instance (n : Int) : Decidable (bcdOk n) := by unfold bcdOk; infer_instance
def bcdV (n : Int) : Int := if bcdOk n then n / 10 * 16 + n % 10 else 0
def bcdE (n : Int) : Int := if bcdOk n then 0 else 2
def unOk (b : Int) : Prop := b / 16 ≤ 9 ∧ b % 16 ≤ 9
instance (n : Int) : Decidable (unOk n) := by unfold unOk; infer_instance
def unV (b : Int) : Int := if unOk b then b / 16 * 10 + b % 16 else 0
def unE (b : Int) : Int := if unOk b then 0 else 2
theorem bcdV_ok {n : Int} (h0 : 0 ≤ n) (h1 : n ≤ 99) : bcdV n = n / 10 * 16 + n % 10 := if_pos ⟨h0, h1⟩
theorem bcdE_ok {n : Int} (h0 : 0 ≤ n) (h1 : n ≤ 99) : bcdE n = 0 := if_pos ⟨h0, h1⟩
theorem bcdV_no {n : Int} (h : ¬ bcdOk n) : bcdV n = 0 := if_neg h
theorem bcdE_no {n : Int} (h : ¬ bcdOk n) : bcdE n = 2 := if_neg h

theorem ret2 {a b c d : Value} (h : a = b) (h' : c = d) : Ending.returned (.tuple #[a, c]) = .returned (.tuple #[b, d]) := by rw [h, h']

theorem bcd_any (n : Int) (w : World) :
    Calls Try.prog 54 #[.int .i64 n] w fun e w' => e = .returned (.tuple #[.int .u8 (bcdV n), .int .i64 (bcdE n)]) ∧ w = w' := by
  by_cases h0 : 0 ≤ n
  · by_cases h1 : n ≤ 99
    · have HV := Lib.hid (bcdV_ok h0 h1)
      have HE := Lib.hid (bcdE_ok h0 h1)
      go_enter Try.func54, Try.ntmps54
      go_wp2
      go_ret2
      exact ⟨by rw [HV.out, HE.out, ← or_bcd n h0 h1]; rfl, rfl⟩
    · have HV := Lib.hid (bcdV_no (n := n) (fun h => h1 h.2))
      have HE := Lib.hid (bcdE_no (n := n) (fun h => h1 h.2))
      go_enter Try.func54, Try.ntmps54
      go_wp2
      go_ret2
      exact ⟨by rw [HV.out, HE.out]; rfl, rfl⟩
  · have HV := Lib.hid (bcdV_no (n := n) (fun h => h0 h.1))
    have HE := Lib.hid (bcdE_no (n := n) (fun h => h0 h.1))
    go_enter Try.func54, Try.ntmps54
    go_wp2
    go_ret2
    exact ⟨by rw [HV.out, HE.out]; rfl, rfl⟩
theorem rbcd_any (n : Int) (w : World) :
    Calls Try.prog 58 #[.int .i64 n] w fun e w' => e = .returned (.tuple #[.int .u8 (bcdV n), .int .i64 (bcdE n)]) ∧ w = w' := by
  by_cases h0 : 0 ≤ n
  · by_cases h1 : n ≤ 99
    · have HV := Lib.hid (bcdV_ok h0 h1)
      have HE := Lib.hid (bcdE_ok h0 h1)
      go_enter Try.func58, Try.ntmps58
      go_wp2
      go_ret2
      exact ⟨by rw [HV.out, HE.out]; rfl, rfl⟩
    · have HV := Lib.hid (bcdV_no (n := n) (fun h => h1 h.2))
      have HE := Lib.hid (bcdE_no (n := n) (fun h => h1 h.2))
      go_enter Try.func58, Try.ntmps58
      go_wp2
      go_ret2
      exact ⟨by rw [HV.out, HE.out]; rfl, rfl⟩
  · have HV := Lib.hid (bcdV_no (n := n) (fun h => h0 h.1))
    have HE := Lib.hid (bcdE_no (n := n) (fun h => h0 h.1))
    go_enter Try.func58, Try.ntmps58
    go_wp2
    go_ret2
    exact ⟨by rw [HV.out, HE.out]; rfl, rfl⟩
theorem frombcd_any (b : Int) (w : World) (h0 : 0 ≤ b) (h1 : b ≤ 255) :
    Calls Try.prog 61 #[.int .u8 b] w fun e w' => e = .returned (.tuple #[.int .i64 (unV b), .int .i64 (unE b)]) ∧ w = w' := by
  by_cases h2 : b / 16 ≤ 9
  · by_cases h3 : b % 16 ≤ 9
    · have HV := Lib.hid (show unV b = 10 * (b / 16) + b % 16 by rw [unV, if_pos ⟨h2, h3⟩]; omega)
      have HE := Lib.hid (show unE b = 0 from if_pos ⟨h2, h3⟩)
      go_enter Try.func61, Try.ntmps61
      go_wp2
      go_ret2
      exact ⟨by rw [HV.out, HE.out]; rfl, rfl⟩
    · have HV := Lib.hid (show unV b = 0 from if_neg (fun h => h3 h.2))
      have HE := Lib.hid (show unE b = 2 from if_neg (fun h => h3 h.2))
      go_enter Try.func61, Try.ntmps61
      go_wp2
      go_ret2
      exact ⟨by rw [HV.out, HE.out]; rfl, rfl⟩
  · have HV := Lib.hid (show unV b = 0 from if_neg (fun h => h2 h.1))
    have HE := Lib.hid (show unE b = 2 from if_neg (fun h => h2 h.1))
    go_enter Try.func61, Try.ntmps61
    go_wp2
    go_ret2
    exact ⟨by rw [HV.out, HE.out]; rfl, rfl⟩
theorem rfrombcd_any (b : Int) (w : World) (h0 : 0 ≤ b) (h1 : b ≤ 255) :
    Calls Try.prog 64 #[.int .u8 b] w fun e w' => e = .returned (.tuple #[.int .i64 (unV b), .int .i64 (unE b)]) ∧ w = w' := by
  by_cases h2 : b / 16 ≤ 9
  · by_cases h3 : b % 16 ≤ 9
    · have HV := Lib.hid (show unV b = b / 16 * 10 + b % 16 by rw [unV, if_pos ⟨h2, h3⟩])
      have HE := Lib.hid (show unE b = 0 from if_pos ⟨h2, h3⟩)
      go_enter Try.func64, Try.ntmps64
      go_wp2
      go_ret2
      exact ⟨by rw [HV.out, HE.out]; rfl, rfl⟩
    · have HV := Lib.hid (show unV b = 0 from if_neg (fun h => h3 h.2))
      have HE := Lib.hid (show unE b = 2 from if_neg (fun h => h3 h.2))
      go_enter Try.func64, Try.ntmps64
      go_wp2
      go_ret2
      exact ⟨by rw [HV.out, HE.out]; rfl, rfl⟩
  · have HV := Lib.hid (show unV b = 0 from if_neg (fun h => h2 h.1))
    have HE := Lib.hid (show unE b = 2 from if_neg (fun h => h2 h.1))
    go_enter Try.func64, Try.ntmps64
    go_wp2
    go_ret2
    exact ⟨by rw [HV.out, HE.out]; rfl, rfl⟩

theorem un_bcd {n : Int} (h : bcdOk n) : unV (bcdV n) = n ∧ unE (bcdV n) = 0 ∧ 0 ≤ bcdV n ∧ bcdV n ≤ 255 := by
  obtain ⟨h0, h1⟩ := h
  rw [bcdV_ok h0 h1]
  have hu : unOk (n / 10 * 16 + n % 10) := by constructor <;> omega
  refine ⟨?_, if_pos hu, by omega, by omega⟩
  rw [unV, if_pos hu]
  omega
theorem bcd_un {b : Int} (h0 : 0 ≤ b) (h : unOk b) : bcdV (unV b) = b ∧ bcdE (unV b) = 0 := by
  have hv : unV b = b / 16 * 10 + b % 16 := if_pos h
  obtain ⟨h2, h3⟩ := h
  rw [hv]
  refine ⟨?_, bcdE_ok (by omega) (by omega)⟩
  rw [bcdV_ok (by omega) (by omega)]
  omega
end Go.Proofs.Ytdjpnabkmanboaa
