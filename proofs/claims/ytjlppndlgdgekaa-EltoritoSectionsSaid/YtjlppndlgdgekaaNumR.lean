/-
  Numbers read from little-endian bytes: ReadLittle of endian and of the reference (out of chapter 1's texts).
-/
import Derived.Test.YtjlppndlgdgekaaNum
import Derived.Lib.EndianBits
namespace Go.Proofs.Ytjlppndlgdgekaa
open Go.RowKit
set_option linter.unusedVariables false

def insideB (len at_ count : Int) : Bool := decide (0 ≤ at_ ∧ at_ ≤ len - count)

theorem inside_any (s : ByteArray) (a c : Int) (w : World) (hs : s.size ≤ 140737488351232) (h0 : 0 ≤ c) (h1 : c ≤ 140737488351232) :
    Calls Try.prog 69 #[.string s, .int .i64 a, .int .i64 c] w fun e w' => e = .returned (.bool (insideB s.size a c)) ∧ w = w' := by
  by_cases h2 : 0 ≤ a
  · have HI := Lib.hid (show insideB s.size a c = decide (a ≤ (s.size : Int) - c) by simp [insideB, h2])
    go_enter Try.func69, Try.ntmps69
    go_wp2
    go_ret
    exact ⟨ret_bool HI.out.symm, rfl⟩
  · have HI := Lib.hid (show insideB s.size a c = false by simp [insideB, h2])
    go_enter Try.func69, Try.ntmps69
    go_wp2
    go_ret
    exact ⟨ret_bool HI.out.symm, rfl⟩

/-- The number of bytes, the least significant one first. -/
def valN : List UInt8 → Nat
  | [] => 0
  | b :: r => b.toNat + 256 * valN r
theorem valN_snoc (l : List UInt8) (b : UInt8) : valN (l ++ [b]) = valN l + 256 ^ l.length * b.toNat := by
  induction l with
  | nil => simp [valN]
  | cons c r ih => simp only [List.cons_append, valN, ih, List.length_cons, Nat.pow_succ]; rw [Nat.mul_add]; simp only [Nat.mul_comm, Nat.mul_assoc]; omega
theorem valN_lt (l : List UInt8) : valN l < 256 ^ l.length := by
  induction l with
  | nil => simp [valN]
  | cons c r ih => simp only [valN, List.length_cons, Nat.pow_succ]; have := c.toNat_lt; omega

/-- The bytes of s from a on, z of them. -/
def partB (s : ByteArray) (a z : Nat) : List UInt8 := (s.data.toList.drop a).take z
theorem partB_length {s : ByteArray} {a z : Nat} (h : a + z ≤ s.size) : (partB s a z).length = z := by simp [partB]; omega
theorem partB_get {s : ByteArray} {a z k : Nat} (hk : k < z) (h' : a + k < s.size) : (partB s a z)[k]? = some s[a + k] := by
  rw [partB, List.getElem?_take, if_pos hk, List.getElem?_drop, bytes_get s _ h']

/-- What read returns for the bytes bs, the least significant one first. -/
def rdV (N : Nat) : Int := if N < 9223372036854775808 then N else 0
def rdE (N : Nat) : Int := if N < 9223372036854775808 then 0 else 7

theorem or_step (N b : Nat) (k : Nat) (hk : k < 8) (hN : N < 256 ^ k) (hb : b < 256) :
    bits .or .u64 (N : Int) (IntKind.u64.wrap (IntKind.u64.wrap (b : Int) * 2 ^ (8 * k))) = ((N + 256 ^ k * b : Nat) : Int) := by
  rw [u64_wrap_id (b : Int) (by omega) (by omega)]
  have e1 : ((b : Int) * 2 ^ (8 * k)) = ((256 ^ k * b : Nat) : Int) := by
    rw [Int.pow_mul, Int.natCast_mul, Int.natCast_pow, Int.mul_comm]; rfl
  have h1 : 256 ^ k * b + 256 ^ k ≤ 256 ^ 8 := by
    have : 256 ^ k * b + 256 ^ k = 256 ^ k * (b + 1) := by rw [Nat.mul_add, Nat.mul_one]
    rw [this]
    calc 256 ^ k * (b + 1) ≤ 256 ^ k * 256 := Nat.mul_le_mul_left _ (by omega)
      _ = 256 ^ (k + 1) := by rw [Nat.pow_succ]
      _ ≤ 256 ^ 8 := Nat.pow_le_pow_right (by omega) (by omega)
  have h2 : (256 : Nat) ^ 8 = 18446744073709551616 := by decide
  have hp : 0 < 256 ^ k := Nat.pow_pos (by omega)
  rw [e1, wraps_u64 _ (by omega) (by rw [h2] at h1; omega)]
  have e3 : ((2 : Int) ^ (8 * k)) = ((256 ^ k : Nat) : Int) := by rw [Int.pow_mul, Int.natCast_pow]; rfl
  rw [bits_join_low .u64 64 (by decide) wraps_u64 (8 * k) _ _ (by omega) (by rw [e3]; omega) (by rw [h2] at h1; omega) (by omega) (by rw [e3, ← Int.natCast_emod, Nat.mul_mod_right]; rfl) (by rw [h2] at h1; omega)]
  omega

set_option maxHeartbeats 1000000 in
theorem read_up (s : ByteArray) (a z : Nat) (w : World) (hs : s.size ≤ 140737488351232) (h : a + z ≤ s.size) (h1 : 1 ≤ z) (h2 : z ≤ 8) :
    Calls Try.prog 65 #[.string s, .int .i64 a, .int .i64 z, .func (.func 68) #[] #[]] w fun e w' => e = .returned (.tuple #[.int .i64 (rdV (valN (partB s a z))), .int .i64 (rdE (valN (partB s a z)))]) ∧ w = w' := by
  have HI : insideB s.size a z = true := by simp [insideB]; omega
  obtain ⟨bs, hbs⟩ : ∃ bs, bs = partB s a z := ⟨_, rfl⟩
  have hlen : bs.length = z := by rw [hbs]; simp [partB_length h]
  have hget : ∀ k (hk : k < z) j (hj : j = k) (h' : a + j < s.size), bs[k]? = some s[a + j] := by
    intro k hk j hj h'
    rw [hbs]
    subst hj
    exact partB_get hk h'
  rw [← hbs]
  clear hbs
  have HL := Lib.hid hlen
  have HG := Lib.hid hget
  clear hlen hget
  go_enter Try.func65, Try.ntmps65
  go_wp2_with (first
    | (go_at_call 69; refine (inside_any _ _ _ _ (by omega) (by omega) (by omega)).mono ?_; rintro e w' ⟨rfl, rfl⟩)
    | fail)
  go_loop [10, 26] (fun n i => ∃ k : Nat, k ≤ z ∧ i = .int .i64 k ∧ n = .int .u64 (valN (bs.take k) : Nat)) (fun _ i => z - (intOf i).toNat)
  case atStart => exact ⟨0, by omega, rfl, by simp [valN]⟩
  case round =>
    obtain ⟨k, hk, rfl, rfl⟩ := hrel
    have hvl := valN_lt (bs.take k)
    by_cases hlt : k < z
    · obtain ⟨j, hj⟩ : ∃ j : Nat, j = k := ⟨_, rfl⟩
      have haj : a + j < s.size := by omega
      have hg := HG.out k hlt j hj haj
      have HS := Lib.hid (show valN (bs.take (k + 1)) = valN (bs.take k) + 256 ^ k * (s[a + j]).toNat by
        rw [List.take_add_one, hg, Option.toList_some, valN_snoc, List.length_take, HL.out, Nat.min_eq_left hk])
      have HO := Lib.hid (or_step (valN (bs.take k)) (s[a + j]).toNat k (by omega) (by rw [List.length_take, HL.out, Nat.min_eq_left hk] at hvl; exact hvl) (s[a + j]).toNat_lt)
      have HJ := Lib.hid hj
      have hj := hj.symm; subst hj
      clear hg hvl
      generalize valN (bs.take k) = N at *
      go_wp2_with (first
        | (go_at_call 68; refine (up1 _ _).mono ?_; rintro e w' ⟨rfl, rfl⟩)
        | fail)
      go_round
      case rel => exact ⟨k + 1, by omega, by go_num, by rw [HS.out, ← HO.out]⟩
      case measure => simp [intOf]; omega
    · obtain rfl : k = z := by omega
      have e1 : bs.take k = bs := List.take_of_length_le (by rw [HL.out]; exact Nat.le_refl _)
      rw [e1]
      clear e1 hvl
      by_cases hN : valN bs < 9223372036854775808
      · have HV := Lib.hid (show rdV (valN bs) = valN bs from if_pos hN)
        have HE := Lib.hid (show rdE (valN bs) = 0 from if_pos hN)
        go_wp2
        go_ret2
        exact ⟨by rw [HV.out, HE.out]; rfl, rfl⟩
      · have HV := Lib.hid (show rdV (valN bs) = 0 from if_neg hN)
        have HE := Lib.hid (show rdE (valN bs) = 7 from if_neg hN)
        go_wp2
        go_ret2
        exact ⟨by rw [HV.out, HE.out]; rfl, rfl⟩

def sizeBad (size : Int) : Prop := size < 1 ∨ 8 < size
instance (n : Int) : Decidable (sizeBad n) := by unfold sizeBad; infer_instance
/-- The error and the value of a read of 'size' bytes at 'a' that make the number N. -/
def rE (len a size : Int) (N : Nat) : Int := if sizeBad size then 1 else if insideB len a size then rdE N else 2
def rV (len a size : Int) (N : Nat) : Int := if sizeBad size then 0 else if insideB len a size then rdV N else 0
def nLe (s : ByteArray) (a size : Int) : Nat := valN (partB s a.toNat size.toNat)
theorem rE_bad {len a size : Int} {N : Nat} (h : sizeBad size) : rE len a size N = 1 := if_pos h
theorem rV_bad {len a size : Int} {N : Nat} (h : sizeBad size) : rV len a size N = 0 := if_pos h
theorem rE_out {len a size : Int} {N : Nat} (h : ¬ sizeBad size) (h' : insideB len a size = false) : rE len a size N = 2 := by rw [rE, if_neg h, h']; rfl
theorem rV_out {len a size : Int} {N : Nat} (h : ¬ sizeBad size) (h' : insideB len a size = false) : rV len a size N = 0 := by rw [rV, if_neg h, h']; rfl
theorem rE_in {len a size : Int} {N : Nat} (h : ¬ sizeBad size) (h' : insideB len a size = true) : rE len a size N = rdE N := by rw [rE, if_neg h, if_pos h']
theorem rV_in {len a size : Int} {N : Nat} (h : ¬ sizeBad size) (h' : insideB len a size = true) : rV len a size N = rdV N := by rw [rV, if_neg h, if_pos h']

set_option maxHeartbeats 400000 in
theorem read_bad (s : ByteArray) (a size : Int) (f : Fn) (x y : Array Value) (w : World) (h : sizeBad size) :
    Calls Try.prog 65 #[.string s, .int .i64 a, .int .i64 size, .func f x y] w fun e w' => e = .returned (.tuple #[.int .i64 0, .int .i64 1]) ∧ w = w' := by
  rcases h with h | h
  · go_enter Try.func65, Try.ntmps65
    go_wp2_with fail
    go_ret2
    exact ⟨rfl, rfl⟩
  · go_enter Try.func65, Try.ntmps65
    go_wp2_with fail
    go_ret2
    exact ⟨rfl, rfl⟩
set_option maxHeartbeats 400000 in
theorem read_out (s : ByteArray) (a size : Int) (f : Fn) (x y : Array Value) (w : World) (hs : s.size ≤ 140737488351232) (h : ¬ sizeBad size) (h' : insideB s.size a size = false) :
    Calls Try.prog 65 #[.string s, .int .i64 a, .int .i64 size, .func f x y] w fun e w' => e = .returned (.tuple #[.int .i64 0, .int .i64 2]) ∧ w = w' := by
  have h1 : 1 ≤ size := by unfold sizeBad at h; omega
  have h2 : size ≤ 8 := by unfold sizeBad at h; omega
  clear h
  go_enter Try.func65, Try.ntmps65
  go_wp2_with (first
    | (go_at_call 69; refine (inside_any _ _ _ _ (by omega) (by omega) (by omega)).mono ?_; rintro e w' ⟨rfl, rfl⟩)
    | fail)
  go_ret2
  exact ⟨rfl, rfl⟩

set_option maxHeartbeats 400000 in
theorem readlittle_any (s : ByteArray) (a size : Int) (w : World) (hs : s.size ≤ 140737488351232) :
    Calls Try.prog 51 #[.string s, .int .i64 a, .int .i64 size] w fun e w' => e = .returned (.tuple #[.int .i64 (rV s.size a size (nLe s a size)), .int .i64 (rE s.size a size (nLe s a size))]) ∧ Below w.heap.size w w' := by
  have key : ∃ v e' : Int, rV s.size a size (nLe s a size) = v ∧ rE s.size a size (nLe s a size) = e' ∧ ∀ w : World, Calls Try.prog 65 #[.string s, .int .i64 a, .int .i64 size, .func (.func 68) #[] #[]] w fun e w' => e = .returned (.tuple #[.int .i64 v, .int .i64 e']) ∧ w = w' := by
    by_cases h : sizeBad size
    · exact ⟨_, _, rV_bad h, rE_bad h, fun w => read_bad s a size _ _ _ w h⟩
    · by_cases h' : insideB s.size a size = true
      · refine ⟨_, _, rV_in h h', rE_in h h', fun w => ?_⟩
        have h3 := of_decide_eq_true h'
        unfold sizeBad at h
        obtain ⟨z, rfl⟩ : ∃ z : Nat, size = z := ⟨size.toNat, by omega⟩
        obtain ⟨b, rfl⟩ : ∃ b : Nat, a = b := ⟨a.toNat, by omega⟩
        exact read_up s b z w hs (by omega) (by omega) (by omega)
      · have h' : insideB s.size a size = false := by simpa using h'
        exact ⟨_, _, rV_out h h', rE_out h h', fun w => read_out s a size _ _ _ w hs h h'⟩
  obtain ⟨v, e', h1, h2, hc⟩ := key
  rw [h1, h2]
  clear h1 h2
  have HC := Lib.hid hc
  clear hc
  go_enter Try.func51, Try.ntmps51
  go_wp2_with (first
    | (go_at_call 61; refine (up_any _ _).mono ?_; rintro e w' ⟨rfl, rfl⟩)
    | (go_at_call 65; refine (HC.out _).mono ?_; rintro e w' ⟨rfl, rfl⟩)
    | fail)
  go_ret2
  exact ⟨rfl, Below.refl _ _⟩

theorem extract_part (s : ByteArray) (a z : Nat) : (s.extract a (a + z)).data.toList = partB s a z := by
  simp [partB, ByteArray.data_extract, List.take_drop]

set_option maxHeartbeats 400000 in
theorem part_ok (s : ByteArray) (a z : Nat) (w : World) (hs : s.size ≤ 140737488351232) (h : a + z ≤ s.size) :
    Calls Try.prog 52 #[.string s, .int .i64 a, .int .i64 z] w fun e w' => e = .returned (.tuple #[.string (s.extract a (a + z)), .bool true]) ∧ w = w' := by
  have h1 : (a : Int) ≤ (s.size : Int) := by omega
  have h2 : (z : Int) ≤ (s.size : Int) - (a : Int) := by omega
  go_enter Try.func52, Try.ntmps52
  go_wp2
  go_ret2
  exact ⟨rfl, rfl⟩
set_option maxHeartbeats 400000 in
theorem part_no (s : ByteArray) (a z : Int) (w : World) (hs : s.size ≤ 140737488351232) (h0 : 0 ≤ z) (hz : z ≤ 100) (h : insideB s.size a z = false) :
    Calls Try.prog 52 #[.string s, .int .i64 a, .int .i64 z] w fun e w' => e = .returned (.tuple #[.string ⟨#[]⟩, .bool false]) ∧ w = w' := by
  have h' : ¬ (0 ≤ a ∧ a ≤ (s.size : Int) - z) := of_decide_eq_false h
  clear h
  by_cases h1 : a < 0
  · clear h'
    go_enter Try.func52, Try.ntmps52
    go_wp2
    go_ret2
    exact ⟨rfl, rfl⟩
  · by_cases h2 : (s.size : Int) < a
    · clear h'
      go_enter Try.func52, Try.ntmps52
      go_wp2
      go_ret2
      exact ⟨rfl, rfl⟩
    · have h3 : (s.size : Int) - a < z := by omega
      clear h'
      go_enter Try.func52, Try.ntmps52
      go_wp2
      go_ret2
      exact ⟨rfl, rfl⟩

theorem valN_cons_drop (l : List UInt8) (k : Nat) (h : k < l.length) : valN (l.drop k) = l[k].toNat + 256 * valN (l.drop (k + 1)) := by
  rw [List.drop_eq_getElem_cons h, valN]
theorem valN_append (l r : List UInt8) : valN (l ++ r) = valN l + 256 ^ l.length * valN r := by
  induction l with
  | nil => simp [valN]
  | cons c t ih => simp only [List.cons_append, valN, ih, List.length_cons, Nat.pow_succ]; rw [Nat.mul_add]; simp only [Nat.mul_comm, Nat.mul_assoc]; omega
theorem valN_drop_le (l : List UInt8) (k : Nat) : valN (l.drop k) ≤ valN l := by
  have := valN_append (l.take k) (l.drop k)
  rw [List.take_append_drop] at this
  have hp : 0 < 256 ^ (l.take k).length := Nat.pow_pos (by omega)
  have := Nat.le_mul_of_pos_left (valN (l.drop k)) hp
  omega

/-- 8 bytes make a number from 2^63 on just if the last one is greater than 127. -/
theorem valN_top (s : ByteArray) (h : s.size = 8) : (9223372036854775808 ≤ valN s.data.toList) ↔ 127 < s[7].toNat := by
  have hl : s.data.toList.length = 8 := by simpa using h
  have e := valN_append (s.data.toList.take 7) (s.data.toList.drop 7)
  rw [List.take_append_drop] at e
  have h7 : s.data.toList.drop 7 = [s[7]] := by
    rw [List.drop_eq_getElem_cons (by omega), List.drop_of_length_le (by omega)]
    rfl
  have hlt := valN_lt (s.data.toList.take 7)
  have hlen : (s.data.toList.take 7).length = 7 := by simp; omega
  rw [hlen] at hlt e
  rw [h7] at e
  have e2 : valN [s[7]] = s[7].toNat := by simp [valN]
  rw [e2] at e
  have h1 : (256 : Nat) ^ 7 = 72057594037927936 := by decide
  rw [h1] at e hlt
  omega
theorem valN_small (s : ByteArray) (h : s.size ≤ 7) : valN s.data.toList < 72057594037927936 := by
  have hlt := valN_lt s.data.toList
  have hl : s.data.toList.length ≤ 7 := by simpa using h
  have h1 : (256 : Nat) ^ 7 = 72057594037927936 := by decide
  have := Nat.pow_le_pow_right (show 0 < 256 by omega) hl
  omega

set_option maxHeartbeats 400000 in
theorem value_big (s : ByteArray) (w : World) (hs : s.size = 8) (h : 9223372036854775808 ≤ valN s.data.toList) :
    Calls Try.prog 53 #[.string s] w fun e w' => e = .returned (.tuple #[.int .i64 0, .int .i64 7]) ∧ w = w' := by
  have h7 := (valN_top s hs).1 h
  have h8 : ((s.size : Int) == 8) = true := by simp; omega
  have h8' : 7 < s.size := by omega
  have h9 : (127 : Int) < (s[7].toNat : Int) := by omega
  clear h
  go_enter Try.func53, Try.ntmps53
  go_wp2
  go_ret2
  exact ⟨rfl, rfl⟩

theorem value_loop (s : ByteArray) (w : World) (hs : s.size ≤ 8) (h : valN s.data.toList < 9223372036854775808) :
    Calls Try.prog 53 #[.string s] w fun e w' => e = .returned (.tuple #[.int .i64 (valN s.data.toList : Nat), .int .i64 0]) ∧ w = w' := by
  have hsz : s.data.toList.length = s.size := by simp
  have HZ := Lib.hid hsz
  have HD := Lib.hid (fun k => Nat.lt_of_le_of_lt (valN_drop_le s.data.toList k) h)
  clear hsz
  have h8 : ((s.size : Int) == 8) = false ∨ (∃ h8 : 7 < s.size, ((s.size : Int) == 8) = true ∧ (s[7].toNat : Int) ≤ 127) := by
    by_cases h8 : s.size = 8
    · refine .inr ⟨by omega, by simp; omega, ?_⟩
      have h9 : ¬ 127 < s[7].toNat := fun hh => by have := (valN_top s h8).2 hh; omega
      omega
    · exact .inl (by simp; omega)
  clear h
  rcases h8 with h8 | ⟨h7, h8, h9⟩
  all_goals
    go_enter Try.func53, Try.ntmps53
    go_wp2
    go_loop [4, 5] (fun n i => ∃ k : Nat, k ≤ s.size ∧ i = .int .i64 ((k : Int) - 1) ∧ n = .int .i64 (valN (s.data.toList.drop k) : Nat)) (fun _ i => (intOf i + 1).toNat)
    case atStart => exact ⟨s.size, by omega, rfl, by rw [List.drop_of_length_le (Nat.le_of_eq HZ.out)]; rfl⟩
    case round =>
      obtain ⟨k, hk, rfl, rfl⟩ := hrel
      by_cases hlt : 0 < k
      · obtain ⟨j, rfl⟩ : ∃ j, k = j + 1 := ⟨k - 1, by omega⟩
        have hj : j < s.size := by omega
        have hs1 := valN_cons_drop s.data.toList j (by rw [HZ.out]; exact hj)
        have hlt1 := HD.out j
        have HS := Lib.hid hs1
        have hb : (256 : Int) * (valN (s.data.toList.drop (j + 1)) : Nat) + (s[j].toNat : Int) < 9223372036854775808 := by
          have : s.data.toList[j]'(by rw [HZ.out]; exact hj) = s[j] := rfl
          rw [this] at hs1
          omega
        have ej : (((j + 1 : Nat) : Int) - 1) = (j : Int) := by omega
        rw [ej]
        clear ej hs1 hlt1
        generalize valN (s.data.toList.drop (j + 1)) = N at *
        have hb2 : (256 : Int) * (N : Int) < 9223372036854775808 := by omega
        go_wp2
        go_round
        case rel => exact ⟨j, by omega, rfl, by rw [HS.out]; exact congrArg _ (by show _ = (((s[j].toNat + 256 * N : Nat)) : Int); omega)⟩
        case measure => simp [intOf]
      · obtain rfl : k = 0 := by omega
        rw [List.drop_zero]
        go_wp2
        go_ret2
        exact ⟨rfl, rfl⟩

theorem value_any (s : ByteArray) (w : World) (hs : s.size ≤ 8) :
    Calls Try.prog 53 #[.string s] w fun e w' => e = .returned (.tuple #[.int .i64 (rdV (valN s.data.toList)), .int .i64 (rdE (valN s.data.toList))]) ∧ w = w' := by
  by_cases h : valN s.data.toList < 9223372036854775808
  · rw [rdV, rdE, if_pos h, if_pos h]
    exact value_loop s w hs h
  · rw [rdV, rdE, if_neg h, if_neg h]
    refine value_big s w ?_ (by omega)
    have := valN_small s
    omega

set_option maxHeartbeats 400000 in
theorem rreadlittle_any (s : ByteArray) (a size : Int) (w : World) (hs : s.size ≤ 140737488351232) :
    Calls Try.prog 38 #[.string s, .int .i64 a, .int .i64 size] w fun e w' => e = .returned (.tuple #[.int .i64 (rV s.size a size (nLe s a size)), .int .i64 (rE s.size a size (nLe s a size))]) ∧ Below w.heap.size w w' := by
  by_cases h : sizeBad size
  · have HV := Lib.hid (rV_bad (len := s.size) (a := a) (N := nLe s a size) h)
    have HE := Lib.hid (rE_bad (len := s.size) (a := a) (N := nLe s a size) h)
    rcases h with h | h
    · go_enter Try.func38, Try.ntmps38
      go_wp2_with fail
      go_ret2
      exact ⟨by rw [HV.out, HE.out]; rfl, Below.refl _ _⟩
    · go_enter Try.func38, Try.ntmps38
      go_wp2_with fail
      go_ret2
      exact ⟨by rw [HV.out, HE.out]; rfl, Below.refl _ _⟩
  · have h1 : 1 ≤ size := by unfold sizeBad at h; omega
    have h2 : size ≤ 8 := by unfold sizeBad at h; omega
    by_cases h' : insideB s.size a size = true
    · have h3 := of_decide_eq_true h'
      have HV := Lib.hid (rV_in (N := nLe s a size) h h')
      have HE := Lib.hid (rE_in (N := nLe s a size) h h')
      obtain ⟨z, rfl⟩ : ∃ z : Nat, size = z := ⟨size.toNat, by omega⟩
      obtain ⟨b, rfl⟩ : ∃ b : Nat, a = b := ⟨a.toNat, by omega⟩
      have hv := fun w => value_any (s.extract b (b + z)) w (by simp; omega)
      rw [show valN (s.extract b (b + z)).data.toList = nLe s b z by rw [extract_part]; rfl] at hv
      have HC := Lib.hid hv
      have hsz : b + z ≤ s.size := by omega
      clear hv h h' h3
      go_enter Try.func38, Try.ntmps38
      go_wp2_with (first
        | (go_at_call 52; refine (part_ok _ _ _ _ hs hsz).mono ?_; rintro e w' ⟨rfl, rfl⟩)
        | (go_at_call 53; refine (HC.out _).mono ?_; rintro e w' ⟨rfl, rfl⟩)
        | fail)
      go_ret2
      exact ⟨by rw [HV.out, HE.out]; rfl, Below.refl _ _⟩
    · have h' : insideB s.size a size = false := by simpa using h'
      have HV := Lib.hid (rV_out (N := nLe s a size) h h')
      have HE := Lib.hid (rE_out (N := nLe s a size) h h')
      have HI := Lib.hid h'
      clear h h'
      go_enter Try.func38, Try.ntmps38
      go_wp2_with (first
        | (go_at_call 52; refine (part_no _ _ _ _ hs (by omega) (by omega) HI.out).mono ?_; rintro e w' ⟨rfl, rfl⟩)
        | fail)
      go_ret2
      exact ⟨by rw [HV.out, HE.out]; rfl, Below.refl _ _⟩

set_option maxHeartbeats 400000 in
theorem readlittle_same (s : ByteArray) (a size : Int) (w : World) (hs : s.size ≤ 140737488351232) :
    Calls Try.prog 51 #[.string s, .int .i64 a, .int .i64 size] w fun e w' => e = .returned (.tuple #[.int .i64 (rV s.size a size (nLe s a size)), .int .i64 (rE s.size a size (nLe s a size))]) ∧ w' = w := by
  have key : ∃ v e' : Int, rV s.size a size (nLe s a size) = v ∧ rE s.size a size (nLe s a size) = e' ∧ ∀ w : World, Calls Try.prog 65 #[.string s, .int .i64 a, .int .i64 size, .func (.func 68) #[] #[]] w fun e w' => e = .returned (.tuple #[.int .i64 v, .int .i64 e']) ∧ w = w' := by
    by_cases h : sizeBad size
    · exact ⟨_, _, rV_bad h, rE_bad h, fun w => read_bad s a size _ _ _ w h⟩
    · by_cases h' : insideB s.size a size = true
      · refine ⟨_, _, rV_in h h', rE_in h h', fun w => ?_⟩
        have h3 := of_decide_eq_true h'
        unfold sizeBad at h
        obtain ⟨z, rfl⟩ : ∃ z : Nat, size = z := ⟨size.toNat, by omega⟩
        obtain ⟨b, rfl⟩ : ∃ b : Nat, a = b := ⟨a.toNat, by omega⟩
        exact read_up s b z w hs (by omega) (by omega) (by omega)
      · have h' : insideB s.size a size = false := by simpa using h'
        exact ⟨_, _, rV_out h h', rE_out h h', fun w => read_out s a size _ _ _ w hs h h'⟩
  obtain ⟨v, e', h1, h2, hc⟩ := key
  rw [h1, h2]
  clear h1 h2
  have HC := Lib.hid hc
  clear hc
  go_enter Try.func51, Try.ntmps51
  go_wp2_with (first
    | (go_at_call 61; refine (up_any _ _).mono ?_; rintro e w' ⟨rfl, rfl⟩)
    | (go_at_call 65; refine (HC.out _).mono ?_; rintro e w' ⟨rfl, rfl⟩)
    | fail)
  go_ret2
  exact ⟨rfl, rfl⟩

end Go.Proofs.Ytjlppndlgdgekaa
