/-
  The walk of the law ChecksumBursts.
-/
import Derived.Test.YtcbkcdhhigobpaaBurst
import Derived.Test.YtcbkcdhhigobpaaBytesAt
import Derived.Deep.Cut
namespace Go.Proofs.Ytcbkcdhhigobpaa
open Go.RowKit
set_option linter.unusedVariables false

/-- The list with the first i bytes of the change put in at k. -/
def burst (l : List UInt8) (k c : Nat) : Nat → List UInt8
  | 0 => l
  | i + 1 => (burst l k c i).set (k + i) ((l[k + i]?.getD 0) ^^^ byteOf c i)
theorem burst_length (l : List UInt8) (k c i : Nat) : (burst l k c i).length = l.length := by
  induction i with
  | zero => rfl
  | succ i ih => rw [burst, List.length_set, ih]
theorem burst_get (l : List UInt8) (k c i j : Nat) (h : k + i ≤ j) : (burst l k c i)[j]? = l[j]? := by
  induction i with
  | zero => rfl
  | succ i ih => rw [burst, List.getElem?_set_ne (by omega), ih (by omega)]
theorem split2 (l : List UInt8) (k : Nat) (h : k + 2 ≤ l.length) : ∃ p s b0 b1, p.length = k ∧ l = p ++ [b0, b1] ++ s := by
  refine ⟨l.take k, l.drop (k + 2), l[k], l[k + 1], by simp; omega, ?_⟩
  conv => lhs; rw [← List.take_append_drop k l]
  rw [List.drop_eq_getElem_cons (by omega), List.drop_eq_getElem_cons (by omega)]
  simp
theorem split4 (l : List UInt8) (k : Nat) (h : k + 4 ≤ l.length) : ∃ p s b0 b1 b2 b3, p.length = k ∧ l = p ++ [b0, b1, b2, b3] ++ s := by
  refine ⟨l.take k, l.drop (k + 4), l[k], l[k + 1], l[k + 2], l[k + 3], by simp; omega, ?_⟩
  conv => lhs; rw [← List.take_append_drop k l]
  rw [List.drop_eq_getElem_cons (by omega), List.drop_eq_getElem_cons (by omega), List.drop_eq_getElem_cons (by omega), List.drop_eq_getElem_cons (by omega)]
  simp
theorem burst_two (p s : List UInt8) (b0 b1 : UInt8) (c : Nat) : burst (p ++ [b0, b1] ++ s) p.length c 2 = p ++ [b0 ^^^ byteOf c 0, b1 ^^^ byteOf c 1] ++ s := by
  simp [burst]
theorem burst_four (p s : List UInt8) (b0 b1 b2 b3 : UInt8) (c : Nat) : burst (p ++ [b0, b1, b2, b3] ++ s) p.length c 4 = p ++ [b0 ^^^ byteOf c 0, b1 ^^^ byteOf c 1, b2 ^^^ byteOf c 2, b3 ^^^ byteOf c 3] ++ s := by
  simp [burst]
theorem burst_edc (l : List UInt8) (k c : Nat) (h : k + 4 ≤ l.length) (hc : c < 4294967296) (h0 : c ≠ 0) : edcL 0 (burst l k c 4) ≠ edcL 0 l := by
  obtain ⟨p, s, b0, b1, b2, b3, rfl, rfl⟩ := split4 l k h
  rw [burst_four]
  exact edc_burst p s b0 b1 b2 b3 c hc h0
theorem burst_crc (l : List UInt8) (k c : Nat) (h : k + 2 ≤ l.length) : crcL 0 (burst l k c 2) = crcL 0 l ↔ c % 65536 = 0 := by
  obtain ⟨p, s, b0, b1, rfl, rfl⟩ := split2 l k h
  rw [burst_two]
  exact crc_burst p s b0 b1 c

set_option maxHeartbeats 400000 in
theorem bursts_no (s : ByteArray) (n c : Nat) (w : World) (hs : s.size ≤ 9223372036854775807) (h : 300 < s.size ∨ s.size < 4 ∨ c = 0) :
    Calls Try.prog 6 #[.string s, .int .u16 n, .int .u32 c] w fun e w' => e = .returned (.bool true) ∧ Below w.heap.size w w' := by
  by_cases h1 : (300 : Int) < (s.size : Int)
  · clear h
    go_enter Try.func6, Try.ntmps6
    go_wp2_with (first | (go_at_call 10; refine (awake_any _).mono ?_; rintro e w1 ⟨rfl, hb1⟩) | fail)
    go_ret
    exact ⟨rfl, hb1⟩
  · by_cases h2 : (s.size : Int) < 4
    · clear h
      go_enter Try.func6, Try.ntmps6
      go_wp2_with (first | (go_at_call 10; refine (awake_any _).mono ?_; rintro e w1 ⟨rfl, hb1⟩) | fail)
      go_ret
      exact ⟨rfl, hb1⟩
    · obtain rfl : c = 0 := by omega
      clear h
      go_enter Try.func6, Try.ntmps6
      go_wp2_with (first | (go_at_call 10; refine (awake_any _).mono ?_; rintro e w1 ⟨rfl, hb1⟩) | fail)
      go_ret
      exact ⟨rfl, hb1⟩

set_option maxHeartbeats 1000000 in
theorem bursts_ok (s : ByteArray) (n c : Nat) (w : World) (hs : s.size ≤ 300) (h4 : 4 ≤ s.size) (hn : n < 65536) (hc : c < 4294967296) (h0 : c ≠ 0) :
    Calls Try.prog 6 #[.string s, .int .u16 n, .int .u32 c] w fun e w' => e = .returned (.bool true) ∧ Below w.heap.size w w' := by
  obtain ⟨k, hk⟩ : ∃ k, n % (s.size - 3) = k := ⟨_, rfl⟩
  have hk1 : k + 4 ≤ s.size := by have := Nat.mod_lt n (show 0 < s.size - 3 by omega); omega
  have hkm : ((n : Int)).tmod ((s.size : Int) - 3) = (k : Int) := by
    rw [show ((s.size : Int) - 3) = ((s.size - 3 : Nat) : Int) by omega, Int.tmod_eq_emod_of_nonneg (by omega)]
    omega
  have hnz : ¬ ((s.size : Int) - 3 = 0) := by omega
  have h1 : ¬ (300 : Int) < (s.size : Int) := by omega
  have h2 : ¬ (s.size : Int) < 4 := by omega
  have h3 : ((c : Int) == 0) = false := by simp; omega
  have hcv := fun w => run_bytes_of_string (P := Try.prog) w 9 34 5 s Try.underlying9 Try.underlying34 Try.underlying5
  clear hk
  go_enter Try.func6, Try.ntmps6
  go_wp2_with fail
  refine (awake_any _).mono ?_
  rintro e w1 ⟨rfl, hb1⟩
  go_wp2_with fail
  generalize grownCap w1 s.size 0 5 = cap
  have hwg : w.heap.size ≤ w1.heap.size := hb1.size
  have hB0 : BytesAt ((w1.alloc (.cells (bytesRow s cap) 5 ((bytesRow s cap).size, (bytesRow s cap).size + 1))).drew) w1.heap.size 5 s.data.toList := (BytesAt.new w1 5 s cap).drew
  have hb2 : Below w.heap.size w ((w1.alloc (.cells (bytesRow s cap) 5 ((bytesRow s cap).size, (bytesRow s cap).size + 1))).drew) := (hb1.alloc hwg _).drew
  generalize ((w1.alloc (.cells (bytesRow s cap) 5 ((bytesRow s cap).size, (bytesRow s cap).size + 1))).drew) = w2 at *
  generalize w1.heap.size = g at *
  clear hb1
  go_loopw [33] (fun i wr => ∃ j : Nat, j ≤ 4 ∧ i = .int .i64 j ∧ BytesAt wr g 5 (burst s.data.toList k c j) ∧ Below w.heap.size w wr) (fun i _ => 4 - (intOf i).toNat)
  case atStart => exact ⟨0, by omega, rfl, hB0, hb2⟩
  case round =>
    obtain ⟨j, hj, rfl, hB, hb⟩ := hrel
    by_cases hlt : j < 4
    · have hlt' : (j : Int) < 4 := by omega
      have e1 : IntKind.i64.wrap ((k : Int) + (j : Int)) = ((k + j : Nat) : Int) := by rw [IntWalk.i64_in _ (by omega)]; omega
      have e2 : IntKind.i64.wrap (8 * (j:Int)) = ((8 * j : Nat) : Int) := by rw [IntWalk.i64_in _ (by omega)]; omega
      have e3 : (0:Int) ≤ ((k + j : Nat) : Int) := by omega
      have e4 : ((k + j : Nat) : Int) < (s.size : Int) := by omega
      have e5 : (0:Int) ≤ ((8 * j : Nat) : Int) := by omega
      have hl : k + j < s.data.toList.length := by simp; omega
      have hcell := hB.cell (k + j) s.data.toList[k + j] (by rw [burst_get _ _ _ _ _ (Nat.le_refl _), List.getElem?_eq_getElem hl])
      have hfr := hB.frozen (k + j) (by rw [burst_length]; exact hl)
      generalize hm : k + j = m at *
      generalize hx : s.data.toList[m] = x at *
      have e6 : IntKind.u8.wrap ((c : Int) / 2 ^ (8 * (j : Int)).toNat) = ((byteOf c j).toNat : Int) := by
        rw [byteOf_nat, IntKind.wrap_u8, show (8 * (j : Int)).toNat = 8 * j by omega, show (256 : Nat) ^ j = 2 ^ (8 * j) by rw [Nat.pow_mul]]
        exact (by simp : ((c : Int) / 2 ^ (8 * j) % 256) = (((c / 2 ^ (8 * j) % 256 : Nat)) : Int))
      have e7 := u8_xor_nat x.toNat (byteOf c j).toNat x.toNat_lt (byteOf c j).toNat_lt
      rw [byteV] at hcell
      go_wp2_with fail
      go_still_tail 13, (by kernel_rfl)
      change wpList _ _ _ _ _ (World.drew ..)
      go_wp2
      go_roundw
      case rel =>
        refine ⟨j + 1, by omega, by go_num, ?_, (hb.setCell (p := ⟨g, m, none⟩) hwg _).drew⟩
        have hst := (hB.set_ m (x ^^^ byteOf c j)).drew
        rw [byteV, UInt8.toNat_xor] at hst
        rw [burst, hm, show s.data.toList[m]?.getD 0 = x by rw [List.getElem?_eq_getElem hl, hx]; rfl]
        exact hst
      case measure => simp [intOf]; omega
    · obtain rfl : j = 4 := by omega
      obtain ⟨X, hX⟩ : ∃ X : ByteArray, X = ⟨(burst s.data.toList k c 4).toArray⟩ := ⟨_, rfl⟩
      have hXs : X.size ≤ 300 := by
        have : X.data.toList.length = s.data.toList.length := by rw [hX]; exact burst_length _ _ _ _
        simp at this
        omega
      have hne : edcS X ≠ edcS s := by
        rw [hX]
        exact burst_edc s.data.toList k c (by simpa using hk1) hc h0
      have hcmp : (((edcS X : Nat) : Int) == ((edcS s : Nat) : Int)) = false := by simp; omega
      have hst := hB.string (P := Try.prog) 34 9 Try.underlying34 Try.underlying5 Try.underlying9 cap
      rw [burst_length, show s.data.toList.length = s.size by simp, ← hX] at hst
      clear hX hne hB hB0 hb2
      have hlt' : ¬ (((4 : Nat) : Int) < 4) := by omega
      go_upto_region 12 with fail
      go_wp2_with fail
      refine (edc_any X _ (by omega)).mono ?_
      rintro e w3 ⟨rfl, hb3⟩
      go_wp2_with fail
      refine (edc_any s _ (by omega)).mono ?_
      rintro e w4 ⟨rfl, hb4⟩
      clear hst
      go_upto_region 15 with fail
      have hb5 : Below w.heap.size w w4 := (hb.trans (hb3.mono hb.size)).trans (hb4.mono (hb.trans (hb3.mono hb.size)).size)
      generalize grownCap w4 s.size 0 5 = cap2
      have hwg4 : w.heap.size ≤ w4.heap.size := hb5.size
      have hB2 : BytesAt ((w4.alloc (.cells (bytesRow s cap2) 5 ((bytesRow s cap2).size, (bytesRow s cap2).size + 1))).drew) w4.heap.size 5 s.data.toList := (BytesAt.new w4 5 s cap2).drew
      have hb6 : Below w.heap.size w ((w4.alloc (.cells (bytesRow s cap2) 5 ((bytesRow s cap2).size, (bytesRow s cap2).size + 1))).drew) := (hb5.alloc hwg4 _).drew
      generalize ((w4.alloc (.cells (bytesRow s cap2) 5 ((bytesRow s cap2).size, (bytesRow s cap2).size + 1))).drew) = w5 at *
      generalize w4.heap.size = g2 at *
      have hl0 : k < s.data.toList.length := by simp; omega
      have hl1 : k + 1 < s.data.toList.length := by simp; omega
      have hc0 := hB2.cell k s.data.toList[k] (List.getElem?_eq_getElem hl0)
      have hf0 := hB2.frozen k hl0
      have hB3 := hB2.set_ k (s.data.toList[k] ^^^ byteOf c 0)
      have hc1 := hB3.cell (k + 1) s.data.toList[k + 1] (by rw [List.getElem?_set_ne (by omega), List.getElem?_eq_getElem hl1])
      have hf1 := hB3.frozen (k + 1) (by rw [List.length_set]; exact hl1)
      have hB4 := hB3.set_ (k + 1) (s.data.toList[k + 1] ^^^ byteOf c 1)
      have hlist : (s.data.toList.set k (s.data.toList[k] ^^^ byteOf c 0)).set (k + 1) (s.data.toList[k + 1] ^^^ byteOf c 1) = burst s.data.toList k c 2 := by
        simp only [burst, Nat.add_zero, List.getElem?_eq_getElem hl0, List.getElem?_eq_getElem hl1, Option.getD_some]
      rw [hlist] at hB4
      clear hlist
      have e60 : IntKind.u8.wrap (c : Int) = ((byteOf c 0).toNat : Int) := by
        rw [byteOf_nat, IntKind.wrap_u8]
        simp
      have e61 : IntKind.u8.wrap ((c : Int) / 256) = ((byteOf c 1).toNat : Int) := by
        rw [byteOf_nat, IntKind.wrap_u8]
        simp
      generalize s.data.toList[k] = x0 at *
      generalize s.data.toList[k + 1] = x1 at *
      have e70 := u8_xor_nat x0.toNat (byteOf c 0).toNat x0.toNat_lt (byteOf c 0).toNat_lt
      have e71 := u8_xor_nat x1.toNat (byteOf c 1).toNat x1.toNat_lt (byteOf c 1).toNat_lt
      have hb7 := (hb6.setCell (p := ⟨g2, k, none⟩) hwg4 (byteV (x0 ^^^ byteOf c 0))).setCell (p := ⟨g2, k + 1, none⟩) hwg4 (byteV (x1 ^^^ byteOf c 1))
      obtain ⟨Y, hY⟩ : ∃ Y : ByteArray, Y = ⟨(burst s.data.toList k c 2).toArray⟩ := ⟨_, rfl⟩
      have hYs : Y.size ≤ 300 := by
        have : Y.data.toList.length = s.data.toList.length := by rw [hY]; exact burst_length _ _ _ _
        simp at this
        omega
      have hyt := hB4.string (P := Try.prog) 34 9 Try.underlying34 Try.underlying5 Try.underlying9 cap2
      rw [burst_length, show s.data.toList.length = s.size by simp, ← hY] at hyt
      have hcY : (crcS Y = crcS s) ↔ c % 65536 = 0 := by
        rw [hY]
        exact burst_crc s.data.toList k c (by simp; omega)
      rw [byteV, byteV, UInt8.toNat_xor, UInt8.toNat_xor] at hyt hb7
      rw [byteV] at hc0
      rw [byteV, byteV, UInt8.toNat_xor] at hc1
      rw [byteV, UInt8.toNat_xor] at hf1
      obtain ⟨b0, hb0⟩ : ∃ b0 : Bool, decide (c % 65536 = 0) = b0 := ⟨_, rfl⟩
      have hcmp2 : (((crcS Y : Nat) : Int) == ((crcS s : Nat) : Int)) = b0 := by
        rw [← hb0, Bool.eq_iff_iff]
        simp
        exact Int.ofNat_inj.trans hcY
      have e8 : bits .and .u32 (c : Int) 65535 = ((c % 65536 : Nat) : Int) := by
        have := u32_and_nat c 65535 hc (by decide)
        rw [show (65535 : Nat) = 2 ^ 16 - 1 from rfl, Nat.and_two_pow_sub_one_eq_mod] at this
        exact this
      have hand : (bits .and .u32 (c : Int) 65535 == 0) = b0 := by
        rw [e8, ← hb0, Bool.eq_iff_iff]
        simp
        omega
      have HC := Lib.hid hcmp2
      have E8 := Lib.hid hand
      clear hcY hcmp2 e8 hand hb0 hY hB2 hB3 hB4
      go_upto_region 17 with fail
      go_wp2_with fail
      refine (crc_any Y _ (by omega)).mono ?_
      rintro e w6 ⟨rfl, hb8⟩
      go_wp2_with fail
      refine (crc_any s _ (by omega)).mono ?_
      rintro e w7 ⟨rfl, hb9⟩
      have hb10 := hb7.trans (hb8.mono hb7.size)
      have hb11 := hb10.trans (hb9.mono hb10.size)
      have r1 := HC.out
      have r2 := E8.out
      go_wp2_with fail
      go_ret
      exact ⟨ret_bool (by simp), hb11⟩

theorem bursts_walk (s : ByteArray) (n c : Int) (w : World) (w0 : s.size ≤ maxLen) (w1 : (Lit.int .u16 n).wf = true) (w2 : (Lit.int .u32 c).wf = true) :
    Calls Try.prog 6 #[.string s, .int .u16 n, .int .u32 c] w fun e w' => e = .returned (.bool true) ∧ Below w.heap.size w w' := by
  unfold maxLen at w0
  obtain ⟨n0, n1⟩ := wf_u16 w1
  obtain ⟨c0, c1⟩ := wf_u32 w2
  obtain ⟨n, rfl⟩ := Int.eq_ofNat_of_zero_le n0
  obtain ⟨c, rfl⟩ := Int.eq_ofNat_of_zero_le c0
  by_cases h : 300 < s.size ∨ s.size < 4 ∨ c = 0
  · exact bursts_no s n c w (by omega) h
  · exact bursts_ok s n c w (by omega) (by omega) (by omega) (by omega) (by omega)
end Go.Proofs.Ytcbkcdhhigobpaa
