/-
  The walk of the reference's Xor.
-/
import Derived.Test.YtcbkcdhhigobpaaBytes
import Derived.Test.YtcbkcdhhigobpaaStep
namespace Go.Proofs.Ytcbkcdhhigobpaa
open Go.RowKit
set_option linter.unusedVariables false

theorem info_u8 : (Try.prog.info? 5).map (fun i => (i.zero, i.size, i.bytes)) = some (some (.int .u8 0), 1, 1) := by kernel_rfl
def xorL (l r : List UInt8) : List UInt8 := l.zipWith (· ^^^ ·) r

theorem xorL_succ (l r : List UInt8) (k : Nat) (x y : UInt8) (hx : l[k]? = some x) (hy : r[k]? = some y) : xorL (l.take (k + 1)) (r.take (k + 1)) = xorL (l.take k) (r.take k) ++ [x ^^^ y] := by
  unfold xorL
  have h1 := (List.getElem?_eq_some_iff.1 hx).1
  have h2 := (List.getElem?_eq_some_iff.1 hy).1
  rw [List.take_add_one, List.take_add_one, hx, hy, Option.toList_some, Option.toList_some, List.zipWith_append (by rw [List.length_take, List.length_take]; omega)]
  rfl

set_option maxHeartbeats 1000000 in
theorem xor_any (a b : ByteArray) (w : World) (ha : a.size ≤ 300) (hab : b.size = a.size) :
    Calls Try.prog 21 #[.string a, .string b] w fun e w' => e = .returned (.string ⟨(xorL a.data.toList b.data.toList).toArray⟩) ∧ Below w.heap.size w w' := by
  have hla : a.data.toList.length = a.size := by simp
  have hlb : b.data.toList.length = a.size := by simp; exact hab
  have HA := Lib.hid hla
  have HB := Lib.hid hlb
  have hb1 : b.size ≤ a.size := by omega
  have hb2 : a.size ≤ b.size := by omega
  clear hla hlb hab
  go_enter Try.func21, Try.ntmps21
  go_wp2
  go_loopw [5, 6] (fun v i wr => ∃ k : Nat, k ≤ a.size ∧ i = .int .i64 k ∧ wr.ownsRow w.heap.size 5 1 v k ((xorL (a.data.toList.take k) (b.data.toList.take k)).map byteV) ∧ Below w.heap.size w wr) (fun _ i _ => a.size - (intOf i).toNat)
  case atStart => exact ⟨0, by omega, rfl, by simp [xorL]; exact World.ownsRow_made _ _ _ (Nat.le_refl _) (by decide) rfl, (Below.refl _ _).alloc (Nat.le_refl _) _⟩
  case round =>
    obtain ⟨k, hk, rfl, hown, hb⟩ := hrel
    by_cases hlt : k < a.size
    · have hltb : k < b.size := by omega
      have h1 : (k : Int) < (a.size : Int) := by omega
      have h2 : (k : Int) < (b.size : Int) := by omega
      have h3 : (0 : Int) ≤ (k : Int) := by omega
      have HS := Lib.hid (xorL_succ a.data.toList b.data.toList k a[k] b[k] (bytes_get a k hlt) (bytes_get b k hltb))
      have hx := u8_xor_nat a[k].toNat b[k].toNat a[k].toNat_lt b[k].toNat_lt
      go_wp2_with fail
      go_region_law (first | (refine step_app1 (own_drewN hown 1) info_u8 Try.underlying34 rfl (by unfold maxLen; omega) (by omega) hb.size rfl rfl rfl (by rfl) (by rfl) (by rfl) ?_; intro v1 w1 hown1 hb1' _))
      all_goals
        go_wp2_with fail
        go_roundw
        case rel => exact ⟨k + 1, by omega, by go_num, by rw [HS.out, List.map_append, List.map_singleton, byteV, UInt8.toNat_xor]; exact hown1, (below_drewN hb 1).trans hb1'⟩
        case measure => simp [intOf]; omega
    · obtain rfl : k = a.size := by omega
      rw [List.take_of_length_le (Nat.le_of_eq HA.out), List.take_of_length_le (Nat.le_of_eq HB.out)] at hown
      have hcv := own_string (P := Try.prog) wr 34 9 5 Try.underlying34 Try.underlying5 Try.underlying9 hown
      have h1 : ¬ (a.size : Int) < (a.size : Int) := by omega
      go_wp2_with fail
      go_ret
      exact ⟨rfl, hb⟩
end Go.Proofs.Ytcbkcdhhigobpaa
