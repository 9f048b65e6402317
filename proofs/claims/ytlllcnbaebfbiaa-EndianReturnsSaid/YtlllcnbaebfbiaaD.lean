/-
  The walks of BCD and FromBCD, of the program and of the reference, and of awake, which checks the chapter's examples.
-/
import Derived.Test.YtlllcnbaebfbiaaB
namespace Go.Proofs.Ytlllcnbaebfbiaa
open Go.RowKit

theorem or_bcd_fin : ∀ k : Fin 100, bits BinOp.or IntKind.i64 ((k.val : Int) / 10 * 16) ((k.val : Int) % 10) % 256 = (k.val : Int) / 10 * 16 + (k.val : Int) % 10 := by decide +kernel
theorem or_bcd (n : Int) (h0 : 0 ≤ n) (h1 : n ≤ 99) : bits BinOp.or IntKind.i64 (n / 10 * 16) (n % 10) % 256 = n / 10 * 16 + n % 10 := by
  have := or_bcd_fin ⟨n.toNat, by omega⟩
  simpa [Int.toNat_of_nonneg h0] using this

def bcdOk (n : Int) : Prop := 0 ≤ n ∧ n ≤ 99
instance (n : Int) : Decidable (bcdOk n) := by unfold bcdOk; infer_instance
def bcdV (n : Int) : Int := if bcdOk n then n / 10 * 16 + n % 10 else 0
def bcdE (n : Int) : Int := if bcdOk n then 0 else 2
def unOk (b : Int) : Prop := b / 16 ≤ 9 ∧ b % 16 ≤ 9
instance (n : Int) : Decidable (unOk n) := by unfold unOk; infer_instance
def unV (b : Int) : Int := if unOk b then b / 16 * 10 + b % 16 else 0
def unE (b : Int) : Int := if unOk b then 0 else 2
theorem bcdV_ok {n : Int} (h0 : 0 ≤ n) (h1 : n ≤ 99) : bcdV n = n / 10 * 16 + n % 10 := if_pos ⟨h0, h1⟩
theorem bcdE_ok {n : Int} (h0 : 0 ≤ n) (h1 : n ≤ 99) : bcdE n = 0 := if_pos ⟨h0, h1⟩
theorem bcdV_no {n : Int} (h : ¬ bcdOk n) : bcdV n = 0 := if_neg h
theorem bcdE_no {n : Int} (h : ¬ bcdOk n) : bcdE n = 2 := if_neg h

theorem ret2 {a b c d : Value} (h : a = b) (h' : c = d) : Ending.returned (.tuple #[a, c]) = .returned (.tuple #[b, d]) := by rw [h, h']

theorem bcd_any (n : Int) (w : World) :
    Calls Try.prog 17 #[.int .i64 n] w fun e w' => e = .returned (.tuple #[.int .u8 (bcdV n), .int .i64 (bcdE n)]) ∧ w = w' := by
  by_cases h0 : 0 ≤ n
  · by_cases h1 : n ≤ 99
    · have HV := Lib.hid (bcdV_ok h0 h1)
      have HE := Lib.hid (bcdE_ok h0 h1)
      go_enter Try.func17, Try.ntmps17
      go_wp2
      go_ret2
      exact ⟨by rw [HV.out, HE.out, ← or_bcd n h0 h1]; rfl, rfl⟩
    · have HV := Lib.hid (bcdV_no (n := n) (fun h => h1 h.2))
      have HE := Lib.hid (bcdE_no (n := n) (fun h => h1 h.2))
      go_enter Try.func17, Try.ntmps17
      go_wp2
      go_ret2
      exact ⟨by rw [HV.out, HE.out]; rfl, rfl⟩
  · have HV := Lib.hid (bcdV_no (n := n) (fun h => h0 h.1))
    have HE := Lib.hid (bcdE_no (n := n) (fun h => h0 h.1))
    go_enter Try.func17, Try.ntmps17
    go_wp2
    go_ret2
    exact ⟨by rw [HV.out, HE.out]; rfl, rfl⟩
theorem rbcd_any (n : Int) (w : World) :
    Calls Try.prog 18 #[.int .i64 n] w fun e w' => e = .returned (.tuple #[.int .u8 (bcdV n), .int .i64 (bcdE n)]) ∧ w = w' := by
  by_cases h0 : 0 ≤ n
  · by_cases h1 : n ≤ 99
    · have HV := Lib.hid (bcdV_ok h0 h1)
      have HE := Lib.hid (bcdE_ok h0 h1)
      go_enter Try.func18, Try.ntmps18
      go_wp2
      go_ret2
      exact ⟨by rw [HV.out, HE.out]; rfl, rfl⟩
    · have HV := Lib.hid (bcdV_no (n := n) (fun h => h1 h.2))
      have HE := Lib.hid (bcdE_no (n := n) (fun h => h1 h.2))
      go_enter Try.func18, Try.ntmps18
      go_wp2
      go_ret2
      exact ⟨by rw [HV.out, HE.out]; rfl, rfl⟩
  · have HV := Lib.hid (bcdV_no (n := n) (fun h => h0 h.1))
    have HE := Lib.hid (bcdE_no (n := n) (fun h => h0 h.1))
    go_enter Try.func18, Try.ntmps18
    go_wp2
    go_ret2
    exact ⟨by rw [HV.out, HE.out]; rfl, rfl⟩
theorem frombcd_any (b : Int) (w : World) (h0 : 0 ≤ b) (h1 : b ≤ 255) :
    Calls Try.prog 19 #[.int .u8 b] w fun e w' => e = .returned (.tuple #[.int .i64 (unV b), .int .i64 (unE b)]) ∧ w = w' := by
  by_cases h2 : b / 16 ≤ 9
  · by_cases h3 : b % 16 ≤ 9
    · have HV := Lib.hid (show unV b = 10 * (b / 16) + b % 16 by rw [unV, if_pos ⟨h2, h3⟩]; omega)
      have HE := Lib.hid (show unE b = 0 from if_pos ⟨h2, h3⟩)
      go_enter Try.func19, Try.ntmps19
      go_wp2
      go_ret2
      exact ⟨by rw [HV.out, HE.out]; rfl, rfl⟩
    · have HV := Lib.hid (show unV b = 0 from if_neg (fun h => h3 h.2))
      have HE := Lib.hid (show unE b = 2 from if_neg (fun h => h3 h.2))
      go_enter Try.func19, Try.ntmps19
      go_wp2
      go_ret2
      exact ⟨by rw [HV.out, HE.out]; rfl, rfl⟩
  · have HV := Lib.hid (show unV b = 0 from if_neg (fun h => h2 h.1))
    have HE := Lib.hid (show unE b = 2 from if_neg (fun h => h2 h.1))
    go_enter Try.func19, Try.ntmps19
    go_wp2
    go_ret2
    exact ⟨by rw [HV.out, HE.out]; rfl, rfl⟩
theorem rfrombcd_any (b : Int) (w : World) (h0 : 0 ≤ b) (h1 : b ≤ 255) :
    Calls Try.prog 20 #[.int .u8 b] w fun e w' => e = .returned (.tuple #[.int .i64 (unV b), .int .i64 (unE b)]) ∧ w = w' := by
  by_cases h2 : b / 16 ≤ 9
  · by_cases h3 : b % 16 ≤ 9
    · have HV := Lib.hid (show unV b = b / 16 * 10 + b % 16 by rw [unV, if_pos ⟨h2, h3⟩])
      have HE := Lib.hid (show unE b = 0 from if_pos ⟨h2, h3⟩)
      go_enter Try.func20, Try.ntmps20
      go_wp2
      go_ret2
      exact ⟨by rw [HV.out, HE.out]; rfl, rfl⟩
    · have HV := Lib.hid (show unV b = 0 from if_neg (fun h => h3 h.2))
      have HE := Lib.hid (show unE b = 2 from if_neg (fun h => h3 h.2))
      go_enter Try.func20, Try.ntmps20
      go_wp2
      go_ret2
      exact ⟨by rw [HV.out, HE.out]; rfl, rfl⟩
  · have HV := Lib.hid (show unV b = 0 from if_neg (fun h => h2 h.1))
    have HE := Lib.hid (show unE b = 2 from if_neg (fun h => h2 h.1))
    go_enter Try.func20, Try.ntmps20
    go_wp2
    go_ret2
    exact ⟨by rw [HV.out, HE.out]; rfl, rfl⟩

set_option maxHeartbeats 400000 in
theorem awake_any (w : World) : Calls Try.prog 10 #[] w fun e w' => e = .returned (.bool true) ∧ Below w.heap.size w w' := by
  have c1 : ∀ w, _ := fun w => little_any 258 2 w (by omega)
  have c2 : ∀ w, _ := fun w => big_any 258 2 w (by omega)
  have c3 : ∀ w, _ := fun w => both_any 258 2 w (by omega)
  have c4 : ∀ w, _ := fun w => bcd_any 59 w
  rw [show strLe 258 2 = ⟨#[2, 1]⟩ by rfl, show errB 258 2 = 0 by decide] at c1
  rw [show strBe 258 2 = ⟨#[1, 2]⟩ by rfl, show errB 258 2 = 0 by decide] at c2
  rw [show strBoth 258 2 = ⟨#[2, 1, 1, 2]⟩ by rfl, show errBoth 258 2 = 0 by decide] at c3
  rw [show bcdV 59 = 89 by decide, show bcdE 59 = 0 by decide] at c4
  have C1 := Lib.hid c1
  have C2 := Lib.hid c2
  have C3 := Lib.hid c3
  have C4 := Lib.hid c4
  clear c1 c2 c3 c4
  go_enter Try.func10, Try.ntmps10
  go_wp2_with (first
    | (go_at_call 11; refine (C1.out _).mono ?_; rintro e w1 ⟨rfl, hb1⟩)
    | (go_at_call 13; refine (C2.out _).mono ?_; rintro e w2 ⟨rfl, hb2⟩)
    | (go_at_call 15; refine (C3.out _).mono ?_; rintro e w3 ⟨rfl, hb3⟩)
    | (go_at_call 17; refine (C4.out _).mono ?_; rintro e w4 ⟨rfl, rfl⟩)
    | fail)
  go_ret
  exact ⟨rfl, hb1.trans ((hb2.mono hb1.size).trans (hb3.mono (Nat.le_trans hb1.size hb2.size)))⟩
end Go.Proofs.Ytlllcnbaebfbiaa
