/-
  The walks of ReadLittle, ReadBig, ReadBoth of the program.
-/
import Derived.Test.YtlllcnbaebfbiaaRead
namespace Go.Proofs.Ytlllcnbaebfbiaa
open Go.RowKit

def sizeBad (size : Int) : Prop := size < 1 ∨ 8 < size
instance (n : Int) : Decidable (sizeBad n) := by unfold sizeBad; infer_instance
/-- The error and the value of a read of 'size' bytes at 'a' that make the number N. -/
def rE (len a size : Int) (N : Nat) : Int := if sizeBad size then 1 else if insideB len a size then rdE N else 2
def rV (len a size : Int) (N : Nat) : Int := if sizeBad size then 0 else if insideB len a size then rdV N else 0
def nLe (s : ByteArray) (a size : Int) : Nat := valN (partB s a.toNat size.toNat)
def nBe (s : ByteArray) (a size : Int) : Nat := valN (partB s a.toNat size.toNat).reverse

theorem rE_bad {len a size : Int} {N : Nat} (h : sizeBad size) : rE len a size N = 1 := if_pos h
theorem rV_bad {len a size : Int} {N : Nat} (h : sizeBad size) : rV len a size N = 0 := if_pos h
theorem rE_out {len a size : Int} {N : Nat} (h : ¬ sizeBad size) (h' : insideB len a size = false) : rE len a size N = 2 := by rw [rE, if_neg h, h']; rfl
theorem rV_out {len a size : Int} {N : Nat} (h : ¬ sizeBad size) (h' : insideB len a size = false) : rV len a size N = 0 := by rw [rV, if_neg h, h']; rfl
theorem rE_in {len a size : Int} {N : Nat} (h : ¬ sizeBad size) (h' : insideB len a size = true) : rE len a size N = rdE N := by rw [rE, if_neg h, if_pos h']
theorem rV_in {len a size : Int} {N : Nat} (h : ¬ sizeBad size) (h' : insideB len a size = true) : rV len a size N = rdV N := by rw [rV, if_neg h, if_pos h']

set_option maxHeartbeats 400000 in
theorem read_bad (s : ByteArray) (a size : Int) (f : Fn) (x y : Array Value) (w : World) (h : sizeBad size) :
    Calls Try.prog 38 #[.string s, .int .i64 a, .int .i64 size, .func f x y] w fun e w' => e = .returned (.tuple #[.int .i64 0, .int .i64 1]) ∧ w = w' := by
  rcases h with h | h
  · go_enter Try.func38, Try.ntmps38
    go_wp2_with fail
    go_ret2
    exact ⟨rfl, rfl⟩
  · go_enter Try.func38, Try.ntmps38
    go_wp2_with fail
    go_ret2
    exact ⟨rfl, rfl⟩
set_option maxHeartbeats 400000 in
theorem read_out (s : ByteArray) (a size : Int) (f : Fn) (x y : Array Value) (w : World) (hs : s.size ≤ 140737488351232) (h : ¬ sizeBad size) (h' : insideB s.size a size = false) :
    Calls Try.prog 38 #[.string s, .int .i64 a, .int .i64 size, .func f x y] w fun e w' => e = .returned (.tuple #[.int .i64 0, .int .i64 2]) ∧ w = w' := by
  have h1 : 1 ≤ size := by unfold sizeBad at h; omega
  have h2 : size ≤ 8 := by unfold sizeBad at h; omega
  clear h
  go_enter Try.func38, Try.ntmps38
  go_wp2_with (first
    | (go_at_call 37; refine (inside_any _ _ _ _ (by omega) (by omega) (by omega)).mono ?_; rintro e w' ⟨rfl, rfl⟩)
    | fail)
  go_ret2
  exact ⟨rfl, rfl⟩

set_option maxHeartbeats 400000 in
theorem readlittle_any (s : ByteArray) (a size : Int) (w : World) (hs : s.size ≤ 140737488351232) :
    Calls Try.prog 23 #[.string s, .int .i64 a, .int .i64 size] w fun e w' => e = .returned (.tuple #[.int .i64 (rV s.size a size (nLe s a size)), .int .i64 (rE s.size a size (nLe s a size))]) ∧ Below w.heap.size w w' := by
  have key : ∃ v e' : Int, rV s.size a size (nLe s a size) = v ∧ rE s.size a size (nLe s a size) = e' ∧ ∀ w : World, Calls Try.prog 38 #[.string s, .int .i64 a, .int .i64 size, .func (.func 41) #[] #[]] w fun e w' => e = .returned (.tuple #[.int .i64 v, .int .i64 e']) ∧ w = w' := by
    by_cases h : sizeBad size
    · exact ⟨_, _, rV_bad h, rE_bad h, fun w => read_bad s a size _ _ _ w h⟩
    · by_cases h' : insideB s.size a size = true
      · refine ⟨_, _, rV_in h h', rE_in h h', fun w => ?_⟩
        have h3 := of_decide_eq_true h'
        unfold sizeBad at h
        obtain ⟨z, rfl⟩ : ∃ z : Nat, size = z := ⟨size.toNat, by omega⟩
        obtain ⟨b, rfl⟩ : ∃ b : Nat, a = b := ⟨a.toNat, by omega⟩
        exact read_up s b z w hs (by omega) (by omega) (by omega)
      · have h' : insideB s.size a size = false := by simpa using h'
        exact ⟨_, _, rV_out h h', rE_out h h', fun w => read_out s a size _ _ _ w hs h h'⟩
  obtain ⟨v, e', h1, h2, hc⟩ := key
  rw [h1, h2]
  clear h1 h2
  have HC := Lib.hid hc
  clear hc
  go_enter Try.func23, Try.ntmps23
  go_wp2_with (first
    | (go_at_call 30; refine (up_any _ _).mono ?_; rintro e w' ⟨rfl, rfl⟩)
    | (go_at_call 38; refine (HC.out _).mono ?_; rintro e w' ⟨rfl, rfl⟩)
    | fail)
  go_ret2
  exact ⟨rfl, Below.refl _ _⟩

set_option maxHeartbeats 400000 in
theorem readbig_any (s : ByteArray) (a size : Int) (w : World) (hs : s.size ≤ 140737488351232) :
    Calls Try.prog 22 #[.string s, .int .i64 a, .int .i64 size] w fun e w' => e = .returned (.tuple #[.int .i64 (rV s.size a size (nBe s a size)), .int .i64 (rE s.size a size (nBe s a size))]) ∧ Below w.heap.size w w' := by
  have key : ∃ v e' : Int, rV s.size a size (nBe s a size) = v ∧ rE s.size a size (nBe s a size) = e' ∧ ∀ (w : World) (p : Addr), w.cell? p = some (.int .i64 size) → Calls Try.prog 38 #[.string s, .int .i64 a, .int .i64 size, .func (.func 42) #[] #[.pointer (some p)]] w fun e w' => e = .returned (.tuple #[.int .i64 v, .int .i64 e']) ∧ w = w' := by
    by_cases h : sizeBad size
    · exact ⟨_, _, rV_bad h, rE_bad h, fun w _ _ => read_bad s a size _ _ _ w h⟩
    · by_cases h' : insideB s.size a size = true
      · refine ⟨_, _, rV_in h h', rE_in h h', fun w p hp => ?_⟩
        have h3 := of_decide_eq_true h'
        unfold sizeBad at h
        obtain ⟨z, rfl⟩ : ∃ z : Nat, size = z := ⟨size.toNat, by omega⟩
        obtain ⟨b, rfl⟩ : ∃ b : Nat, a = b := ⟨a.toNat, by omega⟩
        exact read_down s b z w hs (by omega) (by omega) (by omega) p hp
      · have h' : insideB s.size a size = false := by simpa using h'
        exact ⟨_, _, rV_out h h', rE_out h h', fun w _ _ => read_out s a size _ _ _ w hs h h'⟩
  obtain ⟨v, e', h1, h2, hc⟩ := key
  rw [h1, h2]
  clear h1 h2
  have HC := Lib.hid hc
  clear hc
  go_enter Try.func22, Try.ntmps22
  go_wp2_with (first
    | (go_at_call 33; refine (down_any _ _).mono ?_; rintro e w' ⟨rfl, rfl⟩)
    | (go_at_call 38; refine (HC.out _ _ (by simp)).mono ?_; rintro e w' ⟨rfl, rfl⟩)
    | fail)
  go_ret2
  exact ⟨rfl, (Below.refl _ _).alloc (Nat.le_refl _) _⟩

/-- What ReadBoth returns. -/
def bothBad (len a size : Int) : Int := if doubleB size then (if insideB len a (2 * size) then 0 else 2) else 1
def bothV (s : ByteArray) (a size : Int) : Int := if bothBad s.size a size = 0 then nLe s a size else 0
def bothSame (s : ByteArray) (a size : Int) : Bool := decide (bothBad s.size a size = 0) && (nLe s a size == nBe s (a + size) size)

theorem nLe_lt {s : ByteArray} {a z : Nat} (h : a + z ≤ s.size) (hz : z ≤ 4) : nLe s a z < 4294967296 := by
  have h1 := valN_lt (partB s a z)
  rw [partB_length h] at h1
  refine Nat.lt_of_lt_of_le h1 ?_
  calc 256 ^ z ≤ 256 ^ 4 := Nat.pow_le_pow_right (by omega) hz
    _ = 4294967296 := by decide
theorem nBe_lt {s : ByteArray} {a z : Nat} (h : a + z ≤ s.size) (hz : z ≤ 4) : nBe s a z < 4294967296 := by
  have h1 := valN_lt (partB s a z).reverse
  rw [List.length_reverse, partB_length h] at h1
  refine Nat.lt_of_lt_of_le h1 ?_
  calc 256 ^ z ≤ 256 ^ 4 := Nat.pow_le_pow_right (by omega) hz
    _ = 4294967296 := by decide
theorem rV_small {s : ByteArray} {a z N : Nat} (h : a + z ≤ s.size) (h1 : 1 ≤ z) (hz : z ≤ 8) (hN : N < 4294967296) : rV s.size a z N = N := by
  rw [rV_in (by unfold sizeBad; omega) (by simp [insideB]; omega), rdV, if_pos (by omega)]

theorem results_tmp3 {fn : Func} {t u v : Tmp} (h : fn.results = #[.tmp t, .tmp u, .tmp v]) (tmps : Array Value) (P : Program) (w : World) :
    (results fn tmps).run P w = .ok (.tuple #[tmps.getD t undef, tmps.getD u undef, tmps.getD v undef]) w := by simp [results, h]

set_option maxHeartbeats 400000 in
theorem readboth_any (s : ByteArray) (a size : Int) (w : World) (hs : s.size ≤ 140737488351232) :
    Calls Try.prog 26 #[.string s, .int .i64 a, .int .i64 size] w fun e w' => e = .returned (.tuple #[.int .i64 (bothV s a size), .bool (bothSame s a size), .int .i64 (bothBad s.size a size)]) ∧ Below w.heap.size w w' := by
  by_cases hd : doubleB size = true
  · have hdd := of_decide_eq_true hd
    have hz1 : 1 ≤ size := by omega
    have hz2 : size ≤ 4 := by omega
    by_cases hi : insideB s.size a (2 * size) = true
    · have hB : bothBad s.size a size = 0 := by rw [bothBad, if_pos hd, if_pos hi]
      have HV := Lib.hid (show bothV s a size = nLe s a size by rw [bothV, if_pos hB])
      have HS := Lib.hid (show bothSame s a size = (nLe s a size == nBe s (a + size) size) by rw [bothSame, hB]; rfl)
      have HB := Lib.hid hB
      have h3 := of_decide_eq_true hi
      obtain ⟨z, rfl⟩ : ∃ z : Nat, size = z := ⟨size.toNat, by omega⟩
      obtain ⟨b, rfl⟩ : ∃ b : Nat, a = b := ⟨a.toNat, by omega⟩
      have c1 : ∀ w, _ := fun w => readlittle_any s b z w hs
      have c2 : ∀ w, _ := fun w => readbig_any s ((b + z : Nat) : Int) z w hs
      rw [rV_small (by omega) (by omega) (by omega) (nLe_lt (by omega) (by omega))] at c1
      rw [rV_small (by omega) (by omega) (by omega) (nBe_lt (by omega) (by omega)), Int.natCast_add] at c2
      have HN := Lib.hid (show ((nLe s b z : Int) == (nBe s ((b : Int) + z) z : Int)) = (nLe s b z == nBe s ((b : Int) + z) z) by rw [Bool.eq_iff_iff, beq_iff_eq, beq_iff_eq]; omega)
      have C1 := Lib.hid c1
      have C2 := Lib.hid c2
      clear c1 c2 hB hdd
      go_enter Try.func26, Try.ntmps26
      go_wp2_with (first
        | (go_at_call 35; refine (double_any _ _).mono ?_; rintro e w' ⟨rfl, rfl⟩)
        | (go_at_call 37; refine (inside_any _ _ _ _ (by omega) (by omega) (by omega)).mono ?_; rintro e w' ⟨rfl, rfl⟩)
        | (go_at_call 23; refine (C1.out _).mono ?_; rintro e w1 ⟨rfl, hb1⟩)
        | (go_at_call 22; refine (C2.out _).mono ?_; rintro e w2 ⟨rfl, hb2⟩)
        | fail)
      refine bodyPost_ret (results_tmp3 rfl _ _ _) rfl ?_
      refine ⟨?_, hb1.trans (hb2.mono hb1.size)⟩
      rw [HV.out, HS.out, HB.out, ← HN.out]
      rfl
    · have hi : insideB s.size a (2 * size) = false := by simpa using hi
      have hB : bothBad s.size a size = 2 := by rw [bothBad, if_pos hd, hi]; rfl
      have HV := Lib.hid (show bothV s a size = 0 by rw [bothV, if_neg (by rw [hB]; decide)])
      have HS := Lib.hid (show bothSame s a size = false by rw [bothSame, hB]; rfl)
      have HB := Lib.hid hB
      clear hB hdd
      go_enter Try.func26, Try.ntmps26
      go_wp2_with (first
        | (go_at_call 35; refine (double_any _ _).mono ?_; rintro e w' ⟨rfl, rfl⟩)
        | (go_at_call 37; refine (inside_any _ _ _ _ (by omega) (by omega) (by omega)).mono ?_; rintro e w' ⟨rfl, rfl⟩)
        | fail)
      refine bodyPost_ret (results_tmp3 rfl _ _ _) rfl ?_
      refine ⟨?_, Below.refl _ _⟩
      rw [HV.out, HS.out, HB.out]
      rfl
  · have hd : doubleB size = false := by simpa using hd
    have hB : bothBad s.size a size = 1 := by rw [bothBad, hd]; rfl
    have HV := Lib.hid (show bothV s a size = 0 by rw [bothV, if_neg (by rw [hB]; decide)])
    have HS := Lib.hid (show bothSame s a size = false by rw [bothSame, hB]; rfl)
    have HB := Lib.hid hB
    clear hB
    go_enter Try.func26, Try.ntmps26
    go_wp2_with (first
      | (go_at_call 35; refine (double_any _ _).mono ?_; rintro e w' ⟨rfl, rfl⟩)
      | fail)
    refine bodyPost_ret (results_tmp3 rfl _ _ _) rfl ?_
    refine ⟨?_, Below.refl _ _⟩
    rw [HV.out, HS.out, HB.out]
    rfl
end Go.Proofs.Ytlllcnbaebfbiaa
