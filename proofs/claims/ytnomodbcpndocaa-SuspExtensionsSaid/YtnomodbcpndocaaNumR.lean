/-
  Numbers read from little-endian bytes: ReadLittle of endian (out of chapter 1's texts).
-/
import Derived.Test.YtnomodbcpndocaaNum
import Derived.Lib.EndianBits
namespace Go.Proofs.Ytnomodbcpndocaa
open Go.RowKit
set_option linter.unusedVariables false

def insideB (len at_ count : Int) : Bool := decide (0 ≤ at_ ∧ at_ ≤ len - count)

theorem inside_any (s : ByteArray) (a c : Int) (w : World) (hs : s.size ≤ 140737488351232) (h0 : 0 ≤ c) (h1 : c ≤ 140737488351232) :
    Calls Try.prog 82 #[.string s, .int .i64 a, .int .i64 c] w fun e w' => e = .returned (.bool (insideB s.size a c)) ∧ w = w' := by
  by_cases h2 : 0 ≤ a
  · have HI := Lib.hid (show insideB s.size a c = decide (a ≤ (s.size : Int) - c) by simp [insideB, h2])
    go_enter Try.func82, Try.ntmps82
    go_wp2
    go_ret
    exact ⟨ret_bool HI.out.symm, rfl⟩
  · have HI := Lib.hid (show insideB s.size a c = false by simp [insideB, h2])
    go_enter Try.func82, Try.ntmps82
    go_wp2
    go_ret
    exact ⟨ret_bool HI.out.symm, rfl⟩

/-- The number of bytes, the least significant one first. -/
def valN : List UInt8 → Nat
  | [] => 0
  | b :: r => b.toNat + 256 * valN r
theorem valN_snoc (l : List UInt8) (b : UInt8) : valN (l ++ [b]) = valN l + 256 ^ l.length * b.toNat := by
  induction l with
  | nil => simp [valN]
  | cons c r ih => simp only [List.cons_append, valN, ih, List.length_cons, Nat.pow_succ]; rw [Nat.mul_add]; simp only [Nat.mul_comm, Nat.mul_assoc]; omega
theorem valN_lt (l : List UInt8) : valN l < 256 ^ l.length := by
  induction l with
  | nil => simp [valN]
  | cons c r ih => simp only [valN, List.length_cons, Nat.pow_succ]; have := c.toNat_lt; omega

/-- The bytes of s from a on, z of them. -/
def partB (s : ByteArray) (a z : Nat) : List UInt8 := (s.data.toList.drop a).take z
theorem partB_length {s : ByteArray} {a z : Nat} (h : a + z ≤ s.size) : (partB s a z).length = z := by simp [partB]; omega
theorem partB_get {s : ByteArray} {a z k : Nat} (hk : k < z) (h' : a + k < s.size) : (partB s a z)[k]? = some s[a + k] := by
  rw [partB, List.getElem?_take, if_pos hk, List.getElem?_drop, bytes_get s _ h']

/-- What read returns for the bytes bs, the least significant one first. -/
def rdV (N : Nat) : Int := if N < 9223372036854775808 then N else 0
def rdE (N : Nat) : Int := if N < 9223372036854775808 then 0 else 7

theorem or_step (N b : Nat) (k : Nat) (hk : k < 8) (hN : N < 256 ^ k) (hb : b < 256) :
    bits .or .u64 (N : Int) (IntKind.u64.wrap (IntKind.u64.wrap (b : Int) * 2 ^ (8 * k))) = ((N + 256 ^ k * b : Nat) : Int) := by
  rw [u64_wrap_id (b : Int) (by omega) (by omega)]
  have e1 : ((b : Int) * 2 ^ (8 * k)) = ((256 ^ k * b : Nat) : Int) := by
    rw [Int.pow_mul, Int.natCast_mul, Int.natCast_pow, Int.mul_comm]; rfl
  have h1 : 256 ^ k * b + 256 ^ k ≤ 256 ^ 8 := by
    have : 256 ^ k * b + 256 ^ k = 256 ^ k * (b + 1) := by rw [Nat.mul_add, Nat.mul_one]
    rw [this]
    calc 256 ^ k * (b + 1) ≤ 256 ^ k * 256 := Nat.mul_le_mul_left _ (by omega)
      _ = 256 ^ (k + 1) := by rw [Nat.pow_succ]
      _ ≤ 256 ^ 8 := Nat.pow_le_pow_right (by omega) (by omega)
  have h2 : (256 : Nat) ^ 8 = 18446744073709551616 := by decide
  have hp : 0 < 256 ^ k := Nat.pow_pos (by omega)
  rw [e1, wraps_u64 _ (by omega) (by rw [h2] at h1; omega)]
  have e3 : ((2 : Int) ^ (8 * k)) = ((256 ^ k : Nat) : Int) := by rw [Int.pow_mul, Int.natCast_pow]; rfl
  rw [bits_join_low .u64 64 (by decide) wraps_u64 (8 * k) _ _ (by omega) (by rw [e3]; omega) (by rw [h2] at h1; omega) (by omega) (by rw [e3, ← Int.natCast_emod, Nat.mul_mod_right]; rfl) (by rw [h2] at h1; omega)]
  omega

set_option maxHeartbeats 1000000 in
theorem read_up (s : ByteArray) (a z : Nat) (w : World) (hs : s.size ≤ 140737488351232) (h : a + z ≤ s.size) (h1 : 1 ≤ z) (h2 : z ≤ 8) :
    Calls Try.prog 77 #[.string s, .int .i64 a, .int .i64 z, .func (.func 78) #[] #[]] w fun e w' => e = .returned (.tuple #[.int .i64 (rdV (valN (partB s a z))), .int .i64 (rdE (valN (partB s a z)))]) ∧ w = w' := by
  have HI : insideB s.size a z = true := by simp [insideB]; omega
  obtain ⟨bs, hbs⟩ : ∃ bs, bs = partB s a z := ⟨_, rfl⟩
  have hlen : bs.length = z := by rw [hbs]; simp [partB_length h]
  have hget : ∀ k (hk : k < z) j (hj : j = k) (h' : a + j < s.size), bs[k]? = some s[a + j] := by
    intro k hk j hj h'
    rw [hbs]
    subst hj
    exact partB_get hk h'
  rw [← hbs]
  clear hbs
  have HL := Lib.hid hlen
  have HG := Lib.hid hget
  clear hlen hget
  go_enter Try.func77, Try.ntmps77
  go_wp2_with (first
    | (go_at_call 82; refine (inside_any _ _ _ _ (by omega) (by omega) (by omega)).mono ?_; rintro e w' ⟨rfl, rfl⟩)
    | fail)
  go_loop [10, 26] (fun n i => ∃ k : Nat, k ≤ z ∧ i = .int .i64 k ∧ n = .int .u64 (valN (bs.take k) : Nat)) (fun _ i => z - (intOf i).toNat)
  case atStart => exact ⟨0, by omega, rfl, by simp [valN]⟩
  case round =>
    obtain ⟨k, hk, rfl, rfl⟩ := hrel
    have hvl := valN_lt (bs.take k)
    by_cases hlt : k < z
    · obtain ⟨j, hj⟩ : ∃ j : Nat, j = k := ⟨_, rfl⟩
      have haj : a + j < s.size := by omega
      have hg := HG.out k hlt j hj haj
      have HS := Lib.hid (show valN (bs.take (k + 1)) = valN (bs.take k) + 256 ^ k * (s[a + j]).toNat by
        rw [List.take_add_one, hg, Option.toList_some, valN_snoc, List.length_take, HL.out, Nat.min_eq_left hk])
      have HO := Lib.hid (or_step (valN (bs.take k)) (s[a + j]).toNat k (by omega) (by rw [List.length_take, HL.out, Nat.min_eq_left hk] at hvl; exact hvl) (s[a + j]).toNat_lt)
      have HJ := Lib.hid hj
      have hj := hj.symm; subst hj
      clear hg hvl
      generalize valN (bs.take k) = N at *
      go_wp2_with (first
        | (go_at_call 78; refine (up1 _ _).mono ?_; rintro e w' ⟨rfl, rfl⟩)
        | fail)
      go_round
      case rel => exact ⟨k + 1, by omega, by go_num, by rw [HS.out, ← HO.out]⟩
      case measure => simp [intOf]; omega
    · obtain rfl : k = z := by omega
      have e1 : bs.take k = bs := List.take_of_length_le (by rw [HL.out]; exact Nat.le_refl _)
      rw [e1]
      clear e1 hvl
      by_cases hN : valN bs < 9223372036854775808
      · have HV := Lib.hid (show rdV (valN bs) = valN bs from if_pos hN)
        have HE := Lib.hid (show rdE (valN bs) = 0 from if_pos hN)
        go_wp2
        go_ret2
        exact ⟨by rw [HV.out, HE.out]; rfl, rfl⟩
      · have HV := Lib.hid (show rdV (valN bs) = 0 from if_neg hN)
        have HE := Lib.hid (show rdE (valN bs) = 7 from if_neg hN)
        go_wp2
        go_ret2
        exact ⟨by rw [HV.out, HE.out]; rfl, rfl⟩

def sizeBad (size : Int) : Prop := size < 1 ∨ 8 < size
instance (n : Int) : Decidable (sizeBad n) := by unfold sizeBad; infer_instance
/-- The error and the value of a read of 'size' bytes at 'a' that make the number N. -/
def rE (len a size : Int) (N : Nat) : Int := if sizeBad size then 1 else if insideB len a size then rdE N else 2
def rV (len a size : Int) (N : Nat) : Int := if sizeBad size then 0 else if insideB len a size then rdV N else 0
def nLe (s : ByteArray) (a size : Int) : Nat := valN (partB s a.toNat size.toNat)
theorem rE_bad {len a size : Int} {N : Nat} (h : sizeBad size) : rE len a size N = 1 := if_pos h
theorem rV_bad {len a size : Int} {N : Nat} (h : sizeBad size) : rV len a size N = 0 := if_pos h
theorem rE_out {len a size : Int} {N : Nat} (h : ¬ sizeBad size) (h' : insideB len a size = false) : rE len a size N = 2 := by rw [rE, if_neg h, h']; rfl
theorem rV_out {len a size : Int} {N : Nat} (h : ¬ sizeBad size) (h' : insideB len a size = false) : rV len a size N = 0 := by rw [rV, if_neg h, h']; rfl
theorem rE_in {len a size : Int} {N : Nat} (h : ¬ sizeBad size) (h' : insideB len a size = true) : rE len a size N = rdE N := by rw [rE, if_neg h, if_pos h']
theorem rV_in {len a size : Int} {N : Nat} (h : ¬ sizeBad size) (h' : insideB len a size = true) : rV len a size N = rdV N := by rw [rV, if_neg h, if_pos h']

set_option maxHeartbeats 400000 in
theorem read_bad (s : ByteArray) (a size : Int) (f : Fn) (x y : Array Value) (w : World) (h : sizeBad size) :
    Calls Try.prog 77 #[.string s, .int .i64 a, .int .i64 size, .func f x y] w fun e w' => e = .returned (.tuple #[.int .i64 0, .int .i64 1]) ∧ w = w' := by
  rcases h with h | h
  · go_enter Try.func77, Try.ntmps77
    go_wp2_with fail
    go_ret2
    exact ⟨rfl, rfl⟩
  · go_enter Try.func77, Try.ntmps77
    go_wp2_with fail
    go_ret2
    exact ⟨rfl, rfl⟩
set_option maxHeartbeats 400000 in
theorem read_out (s : ByteArray) (a size : Int) (f : Fn) (x y : Array Value) (w : World) (hs : s.size ≤ 140737488351232) (h : ¬ sizeBad size) (h' : insideB s.size a size = false) :
    Calls Try.prog 77 #[.string s, .int .i64 a, .int .i64 size, .func f x y] w fun e w' => e = .returned (.tuple #[.int .i64 0, .int .i64 2]) ∧ w = w' := by
  have h1 : 1 ≤ size := by unfold sizeBad at h; omega
  have h2 : size ≤ 8 := by unfold sizeBad at h; omega
  clear h
  go_enter Try.func77, Try.ntmps77
  go_wp2_with (first
    | (go_at_call 82; refine (inside_any _ _ _ _ (by omega) (by omega) (by omega)).mono ?_; rintro e w' ⟨rfl, rfl⟩)
    | fail)
  go_ret2
  exact ⟨rfl, rfl⟩

set_option maxHeartbeats 400000 in
theorem readlittle_same (s : ByteArray) (a size : Int) (w : World) (hs : s.size ≤ 140737488351232) :
    Calls Try.prog 68 #[.string s, .int .i64 a, .int .i64 size] w fun e w' => e = .returned (.tuple #[.int .i64 (rV s.size a size (nLe s a size)), .int .i64 (rE s.size a size (nLe s a size))]) ∧ w' = w := by
  have key : ∃ v e' : Int, rV s.size a size (nLe s a size) = v ∧ rE s.size a size (nLe s a size) = e' ∧ ∀ w : World, Calls Try.prog 77 #[.string s, .int .i64 a, .int .i64 size, .func (.func 78) #[] #[]] w fun e w' => e = .returned (.tuple #[.int .i64 v, .int .i64 e']) ∧ w = w' := by
    by_cases h : sizeBad size
    · exact ⟨_, _, rV_bad h, rE_bad h, fun w => read_bad s a size _ _ _ w h⟩
    · by_cases h' : insideB s.size a size = true
      · refine ⟨_, _, rV_in h h', rE_in h h', fun w => ?_⟩
        have h3 := of_decide_eq_true h'
        unfold sizeBad at h
        obtain ⟨z, rfl⟩ : ∃ z : Nat, size = z := ⟨size.toNat, by omega⟩
        obtain ⟨b, rfl⟩ : ∃ b : Nat, a = b := ⟨a.toNat, by omega⟩
        exact read_up s b z w hs (by omega) (by omega) (by omega)
      · have h' : insideB s.size a size = false := by simpa using h'
        exact ⟨_, _, rV_out h h', rE_out h h', fun w => read_out s a size _ _ _ w hs h h'⟩
  obtain ⟨v, e', h1, h2, hc⟩ := key
  rw [h1, h2]
  clear h1 h2
  have HC := Lib.hid hc
  clear hc
  go_enter Try.func68, Try.ntmps68
  go_wp2_with (first
    | (go_at_call 72; refine (up_any _ _).mono ?_; rintro e w' ⟨rfl, rfl⟩)
    | (go_at_call 77; refine (HC.out _).mono ?_; rintro e w' ⟨rfl, rfl⟩)
    | fail)
  go_ret2
  exact ⟨rfl, rfl⟩

end Go.Proofs.Ytnomodbcpndocaa
