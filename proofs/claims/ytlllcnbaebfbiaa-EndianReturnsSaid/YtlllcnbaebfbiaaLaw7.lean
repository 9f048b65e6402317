/-
  The walk of the law EndianReturns.
-/
import Derived.Test.YtlllcnbaebfbiaaRefBoth
namespace Go.Proofs.Ytlllcnbaebfbiaa
open Go.RowKit
set_option linter.unusedVariables false

theorem valN_leB (n : Int) (z : Nat) (h0 : 0 ≤ n) : (valN (leB n z) : Int) = n % 256 ^ z := by
  obtain ⟨m, rfl⟩ := Int.eq_ofNat_of_zero_le h0
  induction z with
  | zero => simp [leB, valN, Int.emod_one]
  | succ z ih =>
    rw [leB_snoc, valN_snoc, leB_length, Int.natCast_add, ih]
    have e3 : ∀ k, ((256 : Int) ^ k) = ((256 ^ k : Nat) : Int) := fun k => by rw [Int.natCast_pow]; rfl
    rw [e3, e3, ← Int.natCast_emod, ← Int.natCast_emod, ← Int.natCast_add]
    congr 1
    unfold bt
    rw [Int.toNat_natCast, UInt8.toNat_ofNat', Nat.pow_succ]
    exact (Nat.mod_mul (x := m) (a := 256 ^ z) (b := 256)).symm
theorem valN_fits {n : Int} {z : Nat} (hf : fitsB n z = true) : (valN (leB n z) : Int) = n := by
  simp [fitsB] at hf
  rw [valN_leB n z hf.1, Int.emod_eq_of_lt hf.1 hf.2]

theorem part_mid (b x c : ByteArray) (l : List UInt8) (hx : x.data.toList = l) : partB (b ++ x ++ c) b.size l.length = l := by
  unfold partB
  simp only [ByteArray.data_append, Array.toList_append, List.append_assoc]
  rw [List.drop_left' (by simp), hx, List.take_left]

theorem mid_read (b x c : ByteArray) (l : List UInt8) (hx : x.data.toList = l) (n : Int) (z : Nat) (hz : l.length = z) (hv : (valN l : Int) = n) (h1 : 1 ≤ z) (h8 : z ≤ 8) (hn : n < 9223372036854775808) :
    rV (b ++ x ++ c).size b.size z (nLe (b ++ x ++ c) b.size z) = n ∧ rE (b ++ x ++ c).size b.size z (nLe (b ++ x ++ c) b.size z) = 0 := by
  have hN : nLe (b ++ x ++ c) b.size z = valN l := by show valN (partB (b ++ x ++ c) b.size z) = _; rw [← hz, part_mid b x c l hx]
  have hxs : x.size = z := by rw [← hz, ← hx]; simp
  have hi : insideB (b ++ x ++ c).size b.size z = true := by simp [insideB]; omega
  rw [rV_in (by unfold sizeBad; omega) hi, rE_in (by unfold sizeBad; omega) hi, hN, rdV, rdE, if_pos (by omega), if_pos (by omega)]
  exact ⟨hv, rfl⟩
theorem mid_readb (b x c : ByteArray) (l : List UInt8) (hx : x.data.toList = l.reverse) (n : Int) (z : Nat) (hz : l.length = z) (hv : (valN l : Int) = n) (h1 : 1 ≤ z) (h8 : z ≤ 8) (hn : n < 9223372036854775808) :
    rV (b ++ x ++ c).size b.size z (nBe (b ++ x ++ c) b.size z) = n ∧ rE (b ++ x ++ c).size b.size z (nBe (b ++ x ++ c) b.size z) = 0 := by
  have hN : nBe (b ++ x ++ c) b.size z = valN l := by
    show valN (partB (b ++ x ++ c) b.size z).reverse = _
    have := part_mid b x c l.reverse hx
    rw [List.length_reverse, hz] at this
    rw [this, List.reverse_reverse]
  have hxs : x.size = z := by
    have : x.data.toList.length = z := by rw [hx, List.length_reverse, hz]
    simpa using this
  have hi : insideB (b ++ x ++ c).size b.size z = true := by simp [insideB]; omega
  rw [rV_in (by unfold sizeBad; omega) hi, rE_in (by unfold sizeBad; omega) hi, hN, rdV, rdE, if_pos (by omega), if_pos (by omega)]
  exact ⟨hv, rfl⟩
theorem mid_both (b x y c : ByteArray) (l : List UInt8) (hx : x.data.toList = l) (hy : y.data.toList = l.reverse) (n : Int) (z : Nat) (hz : l.length = z) (hv : (valN l : Int) = n) (hd : doubleB z = true) :
    bothV (b ++ (x ++ y) ++ c) b.size z = n ∧ bothSame (b ++ (x ++ y) ++ c) b.size z = true ∧ bothBad (b ++ (x ++ y) ++ c).size b.size z = 0 := by
  have hxs : x.size = z := by rw [← hz, ← hx]; simp
  have hys : y.size = z := by
    have : y.data.toList.length = z := by rw [hy, List.length_reverse, hz]
    simpa using this
  have hi : insideB (b ++ (x ++ y) ++ c).size b.size (2 * z) = true := by simp [insideB]; omega
  have hB : bothBad (b ++ (x ++ y) ++ c).size b.size z = 0 := by rw [bothBad, if_pos hd, if_pos hi]
  have e1 : nLe (b ++ (x ++ y) ++ c) b.size z = valN l := by
    show valN (partB (b ++ (x ++ y) ++ c) b.size z) = _
    have := part_mid b x (y ++ c) l hx
    rw [hz] at this
    rw [← this]
    simp only [ByteArray.append_assoc]
  have e2 : nBe (b ++ (x ++ y) ++ c) ((b.size : Int) + z) z = valN l := by
    have h1 : ((b.size : Int) + (z : Int)) = (((b ++ x).size : Nat) : Int) := by simp; omega
    rw [h1]
    show valN (partB (b ++ (x ++ y) ++ c) (b ++ x).size z).reverse = _
    have := part_mid (b ++ x) y c l.reverse hy
    rw [List.length_reverse, hz] at this
    rw [← ByteArray.append_assoc, this, List.reverse_reverse]
  refine ⟨?_, ?_, hB⟩
  · rw [bothV, if_pos hB, e1, hv]
  · rw [bothSame, hB, e1, e2]; simp

set_option maxHeartbeats 400000 in
theorem returns_big (n size : Int) (b c : ByteArray) (w : World) (hb0 : b.size ≤ 9223372036854775807) (hc0 : c.size ≤ 9223372036854775807) (h : 40 < b.size ∨ 40 < c.size) :
    Calls Try.prog 9 #[.int .i64 n, .int .i64 size, .string b, .string c] w fun e w' => e = .returned (.bool true) ∧ Below w.heap.size w w' := by
  by_cases h1 : (40 : Int) < (b.size : Int)
  · clear h
    go_enter Try.func9, Try.ntmps9
    go_wp2_with (first
      | (go_at_call 10; refine (awake_any _).mono ?_; rintro e w1 ⟨rfl, hb1⟩)
      | fail)
    go_ret
    exact ⟨rfl, hb1⟩
  · have h2 : (40 : Int) < (c.size : Int) := by omega
    clear h
    go_enter Try.func9, Try.ntmps9
    go_wp2_with (first
      | (go_at_call 10; refine (awake_any _).mono ?_; rintro e w1 ⟨rfl, hb1⟩)
      | fail)
    go_ret
    exact ⟨rfl, hb1⟩

theorem errBoth_ne {n size : Int} (h : errB n size ≠ 0) : errBoth n size ≠ 0 := by
  by_cases hd : doubleB size = true
  · rw [← errB_double hd]; exact h
  · rw [errBoth, if_neg hd]; decide

set_option maxHeartbeats 1000000 in
theorem returns_err (n size : Int) (b c : ByteArray) (w : World) (hn : n < 9223372036854775808) (hb0 : b.size ≤ 40) (hc0 : c.size ≤ 40) (h : errB n size ≠ 0) :
    Calls Try.prog 9 #[.int .i64 n, .int .i64 size, .string b, .string c] w fun e w' => e = .returned (.bool true) ∧ Below w.heap.size w w' := by
  have h' := errBoth_ne h
  have c1 : ∀ w, _ := fun w => little_any n size w hn
  have c2 : ∀ w, _ := fun w => big_any n size w hn
  have c3 : ∀ w, _ := fun w => both_any n size w hn
  rw [strLe_bad h] at c1
  rw [strBe_bad h] at c2
  rw [show strBoth n size = ByteArray.empty by rw [strBoth, if_neg h']] at c3
  have hE : (errB n size == 0) = false := by simpa using h
  have hE2 : (errBoth n size != 0) = true := by simpa using h'
  have C1 := Lib.hid c1
  have C2 := Lib.hid c2
  have C3 := Lib.hid c3
  clear c1 c2 c3 h h'
  go_enter Try.func9, Try.ntmps9
  go_wp2_with (first
    | (go_at_call 10; refine (awake_any _).mono ?_; rintro e w1 ⟨rfl, hb1⟩)
    | (go_at_call 11; refine (C1.out _).mono ?_; rintro e w2 ⟨rfl, hb2⟩)
    | (go_at_call 13; refine (C2.out _).mono ?_; rintro e w3 ⟨rfl, hb3⟩)
    | (go_at_call 15; refine (C3.out _).mono ?_; rintro e w4 ⟨rfl, hb4⟩)
    | fail)
  go_ret
  have b2 := hb1.trans (hb2.mono hb1.size)
  have b3 := b2.trans (hb3.mono b2.size)
  exact ⟨rfl, b3.trans (hb4.mono b3.size)⟩

set_option maxHeartbeats 2000000 in
theorem returns_ok (n : Int) (z : Nat) (b c : ByteArray) (w : World) (hn : n < 9223372036854775808) (hb0 : b.size ≤ 40) (hc0 : c.size ≤ 40) (h : errB n z = 0) (h1 : 1 ≤ z) (h8 : z ≤ 8) (hf : fitsB n z = true) :
    Calls Try.prog 9 #[.int .i64 n, .int .i64 z, .string b, .string c] w fun e w' => e = .returned (.bool true) ∧ Below w.heap.size w w' := by
  have hv := valN_fits hf
  have hl := leB_length n z
  have c1 : ∀ w, _ := fun w => little_any n z w hn
  have c2 : ∀ w, _ := fun w => big_any n z w hn
  rw [strLe_ok h, h] at c1
  rw [strBe_ok h, h] at c2
  obtain ⟨x, hx⟩ : ∃ x : ByteArray, x = ⟨(leB n z).toArray⟩ := ⟨_, rfl⟩
  obtain ⟨y, hy⟩ : ∃ y : ByteArray, y = ⟨(beB n z).toArray⟩ := ⟨_, rfl⟩
  have hx2 : x.data.toList = leB n z := by rw [hx]
  have hy2 : y.data.toList = (leB n z).reverse := by rw [hy, beB_eq]
  have hxs : x.size = z := by have : x.data.toList.length = z := by rw [hx2, hl]
                              simpa using this
  have hys : y.size = z := by have : y.data.toList.length = z := by rw [hy2, List.length_reverse, hl]
                              simpa using this
  obtain ⟨r1, r2⟩ := mid_read b x c _ hx2 n z hl hv h1 h8 hn
  obtain ⟨r3, r4⟩ := mid_readb b y c _ hy2 n z hl hv h1 h8 hn
  have d1 : ∀ w, _ := fun w => readlittle_any (b ++ x ++ c) b.size z w (by simp; omega)
  have d2 : ∀ w, _ := fun w => readbig_any (b ++ y ++ c) b.size z w (by simp; omega)
  rw [r1, r2] at d1
  rw [r3, r4] at d2
  rw [← hx] at c1
  rw [← hy] at c2
  have C1 := Lib.hid c1
  have C2 := Lib.hid c2
  have D1 := Lib.hid d1
  have D2 := Lib.hid d2
  have hx3 : x.size ≤ z := by omega
  have hy3 : y.size ≤ z := by omega
  have hxe : ((x.size : Int) != (z : Int)) = false := by simp; omega
  have hye : ((y.size : Int) != (z : Int)) = false := by simp; omega
  clear c1 c2 d1 d2 r1 r2 r3 r4 hl
  by_cases hd : doubleB z = true
  · have hB := (errB_double (n := n) hd).symm.trans h
    have c3 : ∀ w, _ := fun w => both_any n z w hn
    rw [strBoth, if_pos hB, hB, strLe_ok h, strBe_ok h, ← hx, ← hy] at c3
    obtain ⟨q1, q2, q3⟩ := mid_both b x y c _ hx2 hy2 n z (leB_length n z) hv hd
    have d3 : ∀ w, _ := fun w => readboth_any (b ++ (x ++ y) ++ c) b.size z w (by simp; omega)
    rw [q1, q2, q3] at d3
    have C3 := Lib.hid c3
    have D3 := Lib.hid d3
    have hxy : (x ++ y).size ≤ 2 * z := by simp; omega
    have hxye : ((((x ++ y).size : Nat) : Int) == 2 * (z : Int)) = true := by simp; omega
    have hxye' : (((x.size : Int) + (y.size : Int)) == 2 * (z : Int)) = true := by simp; omega
    clear c3 d3 q1 q2 q3 hB hx hy hx2 hy2 hxs hys hv hf h
    go_enter Try.func9, Try.ntmps9
    go_wp2_with (first
      | (go_at_call 10; refine (awake_any _).mono ?_; rintro e w1 ⟨rfl, hb1⟩)
      | (go_at_call 11; refine (C1.out _).mono ?_; rintro e w2 ⟨rfl, hb2⟩)
      | (go_at_call 13; refine (C2.out _).mono ?_; rintro e w3 ⟨rfl, hb3⟩)
      | (go_at_call 15; refine (C3.out _).mono ?_; rintro e w4 ⟨rfl, hb4⟩)
      | (go_at_call 23; refine (D1.out _).mono ?_; rintro e w5 ⟨rfl, hb5⟩)
      | (go_at_call 22; refine (D2.out _).mono ?_; rintro e w6 ⟨rfl, hb6⟩)
      | (go_at_call 26; refine (D3.out _).mono ?_; rintro e w7 ⟨rfl, hb7⟩)
      | fail)
    go_ret
    have b2 := hb1.trans (hb2.mono hb1.size)
    have b3 := b2.trans (hb5.mono b2.size)
    have b4 := b3.trans (hb3.mono b3.size)
    have b5 := b4.trans (hb6.mono b4.size)
    have b6 := b5.trans (hb4.mono b5.size)
    exact ⟨rfl, b6.trans (hb7.mono b6.size)⟩
  · have hB : errBoth n z = 1 := by rw [errBoth, if_neg hd]
    have c3 : ∀ w, _ := fun w => both_any n z w hn
    rw [strBoth, hB] at c3
    have C3 := Lib.hid c3
    clear c3 hB hx hy hx2 hy2 hxs hys hv hf h
    go_enter Try.func9, Try.ntmps9
    go_wp2_with (first
      | (go_at_call 10; refine (awake_any _).mono ?_; rintro e w1 ⟨rfl, hb1⟩)
      | (go_at_call 11; refine (C1.out _).mono ?_; rintro e w2 ⟨rfl, hb2⟩)
      | (go_at_call 13; refine (C2.out _).mono ?_; rintro e w3 ⟨rfl, hb3⟩)
      | (go_at_call 15; refine (C3.out _).mono ?_; rintro e w4 ⟨rfl, hb4⟩)
      | (go_at_call 23; refine (D1.out _).mono ?_; rintro e w5 ⟨rfl, hb5⟩)
      | (go_at_call 22; refine (D2.out _).mono ?_; rintro e w6 ⟨rfl, hb6⟩)
      | fail)
    go_ret
    have b2 := hb1.trans (hb2.mono hb1.size)
    have b3 := b2.trans (hb5.mono b2.size)
    have b4 := b3.trans (hb3.mono b3.size)
    have b5 := b4.trans (hb6.mono b4.size)
    exact ⟨rfl, b5.trans (hb4.mono b5.size)⟩

theorem returns_walk (n size : Int) (b c : ByteArray) (w : World) (w0 : (Lit.int .i64 n).wf = true) (_ : (Lit.int .i64 size).wf = true) (w2 : b.size ≤ maxLen) (w3 : c.size ≤ maxLen) :
    Calls Try.prog 9 #[.int .i64 n, .int .i64 size, .string b, .string c] w fun e w' => e = .returned (.bool true) ∧ Below w.heap.size w w' := by
  unfold maxLen at w2 w3
  have hn := (wf_i64 w0).2
  by_cases hbig : 40 < b.size ∨ 40 < c.size
  · exact returns_big n size b c w (by omega) (by omega) hbig
  · by_cases h : errB n size = 0
    · obtain ⟨z, rfl, h1, h8, hf, _⟩ := errB_ok n size h
      exact returns_ok n z b c w hn (by omega) (by omega) h h1 h8 hf
    · exact returns_err n size b c w hn (by omega) (by omega) h
end Go.Proofs.Ytlllcnbaebfbiaa
