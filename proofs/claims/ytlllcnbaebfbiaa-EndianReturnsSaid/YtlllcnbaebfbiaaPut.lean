/-
  The walks of inside and Put.
-/
import Derived.Test.YtlllcnbaebfbiaaD
namespace Go.Proofs.Ytlllcnbaebfbiaa
open Go.RowKit

def insideB (len at_ count : Int) : Bool := decide (0 ≤ at_ ∧ at_ ≤ len - count)

theorem inside_any (s : ByteArray) (a c : Int) (w : World) (hs : s.size ≤ 140737488351232) (h0 : 0 ≤ c) (h1 : c ≤ 140737488351232) :
    Calls Try.prog 37 #[.string s, .int .i64 a, .int .i64 c] w fun e w' => e = .returned (.bool (insideB s.size a c)) ∧ w = w' := by
  by_cases h2 : 0 ≤ a
  · have HI := Lib.hid (show insideB s.size a c = decide (a ≤ (s.size : Int) - c) by simp [insideB, h2])
    go_enter Try.func37, Try.ntmps37
    go_wp2
    go_ret
    exact ⟨ret_bool HI.out.symm, rfl⟩
  · have HI := Lib.hid (show insideB s.size a c = false by simp [insideB, h2])
    go_enter Try.func37, Try.ntmps37
    go_wp2
    go_ret
    exact ⟨ret_bool HI.out.symm, rfl⟩

def putS (s : ByteArray) (a : Nat) (p : ByteArray) : ByteArray := s.extract 0 a ++ p ++ s.extract (a + p.size) s.size

set_option maxHeartbeats 400000 in
theorem put_ok (s p : ByteArray) (a : Nat) (w : World) (hs : s.size ≤ 80) (hp : p.size ≤ 80) (h : a + p.size ≤ s.size) :
    Calls Try.prog 21 #[.string s, .int .i64 a, .string p] w fun e w' => e = .returned (.tuple #[.string (putS s a p), .int .i64 0]) ∧ ∃ n, w' = w.drewN n := by
  have HI : insideB s.size a p.size = true := by simp [insideB]; omega
  have e1 : IntKind.i64.wrap ((a : Int) + (p.size : Int)) = (a : Int) + (p.size : Int) := IntWalk.i64_in _ (by omega)
  have e2 : (0 : Int) ≤ (a : Int) + (p.size : Int) := by omega
  have e3 : ((a : Int) + (p.size : Int)).toNat = a + p.size := by omega
  have e4 : (a : Int) + (p.size : Int) ≤ (s.size : Int) := by omega
  have e5 : (a : Int) ≤ (s.size : Int) := by omega
  have e6 : a ≤ s.size := by omega
  go_enter Try.func21, Try.ntmps21
  go_wp2_with (first
    | (go_at_call 37; refine (inside_any _ _ _ _ (by omega) (by omega) (by omega)).mono ?_; rintro e w' ⟨rfl, rfl⟩)
    | fail)
  go_quiet (fail)
  go_wp2
  go_ret2
  exact ⟨rfl, _, rfl⟩

theorem put_no (s p : ByteArray) (a : Int) (w : World) (hs : s.size ≤ 80) (hp : p.size ≤ 80) (h : insideB s.size a p.size = false) :
    Calls Try.prog 21 #[.string s, .int .i64 a, .string p] w fun e w' => e = .returned (.tuple #[.string ⟨#[]⟩, .int .i64 2]) ∧ w = w' := by
  go_enter Try.func21, Try.ntmps21
  go_wp2_with (first
    | (go_at_call 37; refine (inside_any _ _ _ _ (by omega) (by omega) (by omega)).mono ?_; rintro e w' ⟨rfl, rfl⟩)
    | fail)
  go_ret2
  exact ⟨rfl, rfl⟩

theorem putS_data (s p : ByteArray) (a : Nat) : (putS s a p).data.toList = s.data.toList.take a ++ p.data.toList ++ s.data.toList.drop (a + p.size) := by
  unfold putS
  simp only [ByteArray.data_append, Array.toList_append, ByteArray.data_extract]
  simp
  rw [List.take_of_length_le]
  simp
theorem putS_size (s p : ByteArray) (a : Nat) (h : a + p.size ≤ s.size) : (putS s a p).size = s.size := by
  have h1 : (putS s a p).data.toList.length = s.size := by
    rw [putS_data s p a]
    simp
    omega
  simpa using h1
theorem putS_get (s p : ByteArray) (a k : Nat) (h : a + p.size ≤ s.size) (hk : k < s.size) (hk' : k < (putS s a p).size) :
    (putS s a p)[k] = if h' : a ≤ k ∧ k < a + p.size then p[k - a]'(by omega) else s[k] := by
  have e := bytes_get (putS s a p) k hk'
  rw [putS_data] at e
  refine Option.some.inj (e.symm.trans ?_)
  have hl : (s.data.toList.take a).length = a := by simp; omega
  have hp : p.data.toList.length = p.size := by simp
  by_cases h1 : a ≤ k
  · by_cases h2 : k < a + p.size
    · rw [dif_pos ⟨h1, h2⟩, List.getElem?_append_left (by simp; omega), List.getElem?_append_right (by omega), hl, bytes_get p _ (by omega)]
    · rw [dif_neg (by omega), List.getElem?_append_right (by simp; omega)]
      have : (s.data.toList.take a ++ p.data.toList).length = a + p.size := by simp; omega
      rw [this, List.getElem?_drop, show a + p.size + (k - (a + p.size)) = k by omega, bytes_get s k hk]
  · rw [dif_neg (by omega), List.getElem?_append_left (by simp; omega), List.getElem?_append_left (by omega), List.getElem?_take, if_pos (by omega), bytes_get s k hk]
end Go.Proofs.Ytlllcnbaebfbiaa
