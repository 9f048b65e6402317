/-
  Chapter 52: the law's blocks: 2048 times one character.
-/
import Derived.Test.YtdmdfpdigoijoaaPwQ
import Derived.Test.YtdmdfpdigoijoaaShelf
namespace Go.Proofs.Ytdmdfpdigoijoaa
open Go.RowKit
set_option linter.unusedVariables false

/-- 2048 bytes c. -/
def fillS (c : UInt8) : ByteArray := ⟨(List.replicate 2048 c).toArray⟩
theorem fillS_size (c : UInt8) : (fillS c).size = 2048 := by
  show (List.replicate 2048 c).toArray.size = 2048
  rw [List.size_toArray, List.length_replicate]
theorem fillS_ok (c : UInt8) : blkOk (fillS c) = true := by unfold blkOk; rw [fillS_size]; rfl
theorem fill_repeat (c : UInt8) : (⟨(Lib.repeatL [c] 2048).toArray⟩ : ByteArray) = fillS c := by
  have h := Lib.repeatL_replicate c 1 2048
  rw [show List.replicate 1 c = [c] from rfl, Nat.mul_one] at h
  rw [h]
  rfl
theorem enc_ascii (c : Nat) (hc : c < 128) : Utf8.encode (c : Int) = ⟨#[UInt8.ofNat c]⟩ := by
  have hv : Utf8.valid (c : Int) = true := by
    unfold Utf8.valid
    simp
    omega
  unfold Utf8.encode
  simp only [hv, if_true, Int.toNat_natCast]
  rw [if_pos hc]
set_option maxRecDepth 100000 in
theorem block_any (c : Nat) (hc : c < 128) (w : World) : Calls Try.prog 24 #[.int .u8 (c : Int)] w fun e w' => e = .returned (.string (fillS (UInt8.ofNat c))) ∧ Below w.heap.size w w' := by
  have e1 : IntKind.i32.wrap (c : Int) = (c : Int) := by rw [IntKind.wrap_i32]; omega
  have HE := Lib.hid (enc_ascii c hc)
  have CR := Lib.hid (Try.strings_Repeat ⟨#[UInt8.ofNat c]⟩ 2048 w (by decide) (by show 1 * 2048 ≤ _; decide))
  go_enter Try.func24, Try.ntmps24
  go_wp2_with fail
  rw [HE.out]
  refine CR.out.mono ?_
  rintro e w1 ⟨rfl, hb⟩
  go_wp2_with fail
  go_ret
  refine ⟨?_, hb⟩
  have := fill_repeat (UInt8.ofNat c)
  rw [← this]
  rfl
end Go.Proofs.Ytdmdfpdigoijoaa
