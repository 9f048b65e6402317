/-
  The walks of EDCBytes and CRCBytes, of the program and of the reference, and of awake.
-/
import Derived.Test.YtcbkcdhhigobpaaSums
namespace Go.Proofs.Ytcbkcdhhigobpaa
open Go.RowKit
set_option linter.unusedVariables false

/-- A slice literal of bytes, made into a string. -/
theorem lit_string (w : World) (bs : List UInt8) (cells : Array Value) (n : Nat) (hn : bs.length = n) (hc : cells.toList = bs.map byteV) (hm : n ≤ maxLen) :
    (convert 34 9 (.slice (some ⟨w.heap.size, 0, none⟩) n n)).run Try.prog (w.alloc (.cells cells 5)) = .ok (.string ⟨bs.toArray⟩) (w.alloc (.cells cells 5)) := by
  have hown : (w.alloc (.cells cells 5)).ownsRow w.heap.size 5 1 (.slice (some ⟨w.heap.size, 0, none⟩) n n) n (bs.map byteV) := by
    have hs : cells.size = n := by rw [← hn, ← Array.length_toList, hc, List.length_map]
    refine ⟨by rw [List.length_map, hn, Nat.mul_one], .inr ⟨w.heap.size, n, cells, rfl, Nat.le_refl _, heap_alloc_new w _, Nat.le_refl _, hm, by rw [hs, Nat.mul_one], ?_⟩⟩
    rw [Nat.mul_one, ← hs, ← Array.length_toList, List.take_length, hc]
  exact own_string _ _ _ _ Try.underlying34 Try.underlying5 Try.underlying9 hown

def edcBs (c : Nat) : List UInt8 := [UInt8.ofNat c, UInt8.ofNat (c / 256), UInt8.ofNat (c / 65536), UInt8.ofNat (c / 16777216)]
def crcBs (c : Nat) : List UInt8 := [UInt8.ofNat (c / 256), UInt8.ofNat c]
theorem bv (n : Nat) (m : Int) (h : m = ((n % 256 : Nat) : Int)) : Value.int .u8 m = byteV (UInt8.ofNat n) := by
  rw [h]
  rfl

theorem edcBs_cells (c : Nat) (hc : c < 4294967296) : (#[Value.int .u8 ((c : Int) % 256), Value.int .u8 ((c : Int) / 256 % 256), Value.int .u8 ((c : Int) / 65536 % 256), Value.int .u8 ((c : Int) / 16777216)] : Array Value).toList = (edcBs c).map byteV := by
  rw [bv c ((c : Int) % 256) (by omega), bv (c / 256) ((c : Int) / 256 % 256) (by omega), bv (c / 65536) ((c : Int) / 65536 % 256) (by omega), bv (c / 16777216) ((c : Int) / 16777216) (by omega)]
  rfl
theorem crcBs_cells (c : Nat) (hc : c < 65536) : (#[Value.int .u8 ((c : Int) / 256), Value.int .u8 ((c : Int) % 256)] : Array Value).toList = (crcBs c).map byteV := by
  rw [bv (c / 256) ((c : Int) / 256) (by omega), bv c ((c : Int) % 256) (by omega)]
  rfl
theorem edcbytes_any (c : Nat) (w : World) (hc : c < 4294967296) : Calls Try.prog 22 #[.int .u32 c] w fun e w' => e = .returned (.string ⟨(edcBs c).toArray⟩) ∧ Below w.heap.size w w' := by
  have hcv := lit_string w (edcBs c) _ 4 rfl (edcBs_cells c hc) (by decide)
  go_enter Try.func22, Try.ntmps22
  go_wp2
  go_ret
  exact ⟨rfl, (Below.refl _ _).alloc (Nat.le_refl _) _⟩
theorem redcbytes_any (c : Nat) (w : World) (hc : c < 4294967296) : Calls Try.prog 23 #[.int .u32 c] w fun e w' => e = .returned (.string ⟨(edcBs c).toArray⟩) ∧ Below w.heap.size w w' := by
  have hcv := lit_string w (edcBs c) _ 4 rfl (edcBs_cells c hc) (by decide)
  go_enter Try.func23, Try.ntmps23
  go_wp2
  go_ret
  exact ⟨rfl, (Below.refl _ _).alloc (Nat.le_refl _) _⟩
theorem crcbytes_any (c : Nat) (w : World) (hc : c < 65536) : Calls Try.prog 24 #[.int .u16 c] w fun e w' => e = .returned (.string ⟨(crcBs c).toArray⟩) ∧ Below w.heap.size w w' := by
  have hcv := lit_string w (crcBs c) _ 2 rfl (crcBs_cells c hc) (by decide)
  go_enter Try.func24, Try.ntmps24
  go_wp2
  go_ret
  exact ⟨rfl, (Below.refl _ _).alloc (Nat.le_refl _) _⟩
theorem rcrcbytes_any (c : Nat) (w : World) (hc : c < 65536) : Calls Try.prog 25 #[.int .u16 c] w fun e w' => e = .returned (.string ⟨(crcBs c).toArray⟩) ∧ Below w.heap.size w w' := by
  have hcv := lit_string w (crcBs c) _ 2 rfl (crcBs_cells c hc) (by decide)
  go_enter Try.func25, Try.ntmps25
  go_wp2
  go_ret
  exact ⟨rfl, (Below.refl _ _).alloc (Nat.le_refl _) _⟩

set_option maxHeartbeats 400000 in
theorem awake_any (w : World) : Calls Try.prog 10 #[] w fun e w' => e = .returned (.bool true) ∧ Below w.heap.size w w' := by
  have c1 : ∀ w, _ := fun w => edc_any ⟨#[1]⟩ w (by decide)
  have c2 : ∀ w, _ := fun w => crc_any ⟨#[1]⟩ w (by decide)
  have c3 : ∀ w, _ := fun w => crc_any ⟨#[49, 50, 51, 52, 53, 54, 55, 56, 57]⟩ w (by decide)
  have c4 : ∀ w, _ := fun w => sum8_any ⟨#[255, 3]⟩ w (by decide)
  rw [show edcS ⟨#[1]⟩ = 2425422081 by decide +kernel] at c1
  rw [show crcS ⟨#[1]⟩ = 4129 by decide +kernel] at c2
  rw [show crcS ⟨#[49, 50, 51, 52, 53, 54, 55, 56, 57]⟩ = 12739 by decide +kernel] at c3
  rw [show sumS ⟨#[255, 3]⟩ = 2 by decide +kernel] at c4
  have C1 := Lib.hid c1
  have C2 := Lib.hid c2
  have C3 := Lib.hid c3
  have C4 := Lib.hid c4
  clear c1 c2 c3 c4
  go_enter Try.func10, Try.ntmps10
  go_wp2_with fail
  refine (C1.out _).mono ?_
  rintro e w1 ⟨rfl, hb1⟩
  go_wp2_with fail
  refine (C2.out _).mono ?_
  rintro e w2 ⟨rfl, hb2⟩
  go_wp2_with fail
  refine (C3.out _).mono ?_
  rintro e w3 ⟨rfl, hb3⟩
  go_wp2_with fail
  refine (C4.out _).mono ?_
  rintro e w' ⟨rfl, rfl⟩
  go_wp2_with fail
  go_ret
  have b2 := hb1.trans (hb2.mono hb1.size)
  exact ⟨rfl, b2.trans (hb3.mono b2.size)⟩
end Go.Proofs.Ytcbkcdhhigobpaa
