/-
  What Parse answers, in plain words, and Parse of the program at Mode 1.
-/
import Derived.Test.YtdjpnabkmanboaaCheck
import Derived.Test.YtdjpnabkmanboaaSt
import Derived.Deep.RegionHeld3
import Derived.Deep.DrawnRows
import Derived.Deep.Cut
namespace Go.Proofs.Ytdjpnabkmanboaa
open Go.RowKit
set_option linter.unusedVariables false
attribute [local go_sem ↓] Go.wp_at_zero Go.wp_at_succ

/-- The byte at a place, as a number. -/
def bI (s : ByteArray) (i : Nat) : Int := ((s.data.toList[i]?.getD 0).toNat : Int)
theorem bI_eq (s : ByteArray) (i : Nat) (h : i < s.size) : ((s[i]).toNat : Int) = bI s i := by
  unfold bI
  rw [bytes_get s i h]
  rfl
theorem bI_bd (s : ByteArray) (i : Nat) : 0 ≤ bI s i ∧ bI s i ≤ 255 := by
  unfold bI
  have := (s.data.toList[i]?.getD 0).toNat_lt
  omega
def decB (s : ByteArray) : Bool := decide (decOk (bI s 12) (bI s 13) (bI s 14))
def frontB (s : ByteArray) : Bool := s.data.toList.take 12 == syncL
def zeroB (s : ByteArray) : Bool := (s.data.toList.take 2076).drop 2068 == List.replicate 8 0
def twinB (s : ByteArray) : Bool := (s.data.toList.take 20).drop 16 == (s.data.toList.take 24).drop 20
def lbaS (s : ByteArray) : Int := (60 * unV (bI s 12) + unV (bI s 13)) * 75 + unV (bI s 14) - 150
def goodB (s : ByteArray) (m : Int) : Bool := decB s && (frontB s && if m = 0 then zeroB s else (twinB s && decide (bI s 17 ≤ 31)))
def secOf (s : ByteArray) (m : Int) : Sec :=
  if m = 0 then ⟨lbaS s, m, 0, 0, 0, 0, s.extract 16 2064⟩ else ⟨lbaS s, m, bI s 16, bI s 17, bI s 18, bI s 19, s.extract 24 (24 + lCap m).toNat⟩
def noSec (e : Int) : Value := .tuple #[.agg #[.int .i64 0, .int .i64 0, .int .i64 0, .int .i64 0, .int .i64 0, .int .i64 0, .string ⟨#[]⟩], .int .i64 e]
def parseV (s : ByteArray) : Value :=
  if (kindR s).2 ≠ 0 then noSec (kindR s).2 else
  if goodB s (kindR s).1 = true then (if chkB s = true then .tuple #[secV (secOf s (kindR s).1), .int .i64 0] else noSec 9) else noSec 10

theorem front_eq (s : ByteArray) : ((s.extract 0 12).toList == (⟨syncL.toArray⟩ : ByteArray).toList) = frontB s := by
  rw [Lib.toList_data, Lib.toList_data, sub_extract]
  rfl
theorem zero_eq (s : ByteArray) : ((s.extract 2068 2076).toList == (⟨(List.replicate 8 (0 : UInt8)).toArray⟩ : ByteArray).toList) = zeroB s := by
  rw [Lib.toList_data, Lib.toList_data, sub_extract]
  rfl
theorem twin_eq (s : ByteArray) : ((s.extract 16 20).toList == (s.extract 20 24).toList) = twinB s := by
  rw [Lib.toList_data, Lib.toList_data, sub_extract, sub_extract]
  rfl

set_option maxRecDepth 100000 in
theorem parse_kind (s : ByteArray) (w : World) (hs : s.size ≤ 140737488351232) (hk : (kindR s).2 ≠ 0) :
    Calls Try.prog 21 #[.string s] w fun e w' => e = .returned (parseV s) ∧ Below w.heap.size w w' := by
  have C0 := Lib.hid (fun w => kind_any s w hs)
  have HR := Lib.hid (show parseV s = noSec (kindR s).2 from if_pos hk)
  have h0 : ((kindR s).2 != 0) = true := by simpa using hk
  generalize kindR s = k at *
  obtain ⟨k1, k2⟩ := k
  dsimp only at *
  clear hk
  go_enter Try.func21, Try.ntmps21
  go_wp2_with fail
  refine (C0.out _).mono ?_
  rintro e w1 ⟨rfl, rfl⟩
  go_wp2_with fail
  refine bodyPost_ret (v := noSec k2) (by simp [noSec, results, Try.results21, go_sem]) rfl ⟨by rw [HR.out], ?_⟩
  exact (Below.refl _ _).alloc (Nat.le_refl _) _
end Go.Proofs.Ytdjpnabkmanboaa
