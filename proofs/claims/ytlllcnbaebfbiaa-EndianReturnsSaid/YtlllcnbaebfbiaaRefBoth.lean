/-
  The walk of the reference's ReadBoth.
-/
import Derived.Test.YtlllcnbaebfbiaaRefRead
import Derived.Deep.RegionHeld3
namespace Go.Proofs.Ytlllcnbaebfbiaa
open Go.RowKit
set_option linter.unusedVariables false

set_option maxHeartbeats 1600000 in
theorem rreadboth_in (s : ByteArray) (b z : Nat) (w : World) (hs : s.size ≤ 140737488351232) (hz : z = 1 ∨ z = 2 ∨ z = 4) (h : b + 2 * z ≤ s.size) (x y : ByteArray) (v : Int) (e' : Int)
    (hx : (s.extract b (b + 2 * z)).extract 0 z = x) (hy : (s.extract b (b + 2 * z)).extract z (s.extract b (b + 2 * z)).size = y) (hzx : x.size = z)
    (hv : ∀ w, Calls Try.prog 40 #[.string x] w fun e w' => e = .returned (.tuple #[.int .i64 v, .int .i64 e']) ∧ w = w') :
    Calls Try.prog 27 #[.string s, .int .i64 b, .int .i64 z] w fun e w' => e = .returned (.tuple #[.int .i64 v, .bool (y.toList == x.data.toList.reverse), .int .i64 0]) ∧ Below w.heap.size w w' := by
  have HC := Lib.hid hv
  have hzx' : x.size ≤ 8 := by omega
  have hp := fun w => part_ok s b (2 * z) w hs h
  have hes : (s.extract b (b + 2 * z)).size = 2 * z := by simp; omega
  generalize s.extract b (b + 2 * z) = t at *
  have ht1 : t.size ≤ 2 * z := by omega
  have ht2 : 2 * z ≤ t.size := by omega
  have HP := Lib.hid hp
  have HX := Lib.hid hx
  have HY := Lib.hid hy
  have HT := Lib.hid hes
  clear hv hp hx hy hes hzx
  have ht3 : (z : Int) ≤ (t.size : Int) := by omega
  rcases hz with rfl | rfl | rfl
  all_goals
    go_enter Try.func27, Try.ntmps27
    go_wp2_with (first
      | (go_at_call 39; refine (HP.out _).mono ?_; rintro e w' ⟨rfl, rfl⟩)
      | fail)
    rw [HX.out]
    refine (HC.out _).mono ?_
    rintro e w' ⟨rfl, rfl⟩
    go_wp2_with fail
    go_region_with (go_at_call 34; rw [HX.out]; refine (reverse_any _ _ (by omega)).mono ?_; rintro e w1 ⟨rfl, hb1⟩)
    all_goals
      go_wp2
      refine bodyPost_ret (results_tmp3 rfl _ _ _) rfl ?_
      refine ⟨?_, (Below.refl _ _).drew.trans hb1⟩
      rw [← HY.out]
      rfl

theorem parts_eq (s : ByteArray) (b z : Nat) (h : b + 2 * z ≤ s.size) :
    ((s.extract b (b + 2 * z)).extract 0 z).data.toList = partB s b z ∧ ((s.extract b (b + 2 * z)).extract z (s.extract b (b + 2 * z)).size).data.toList = partB s (b + z) z := by
  have e := extract_part s b (2 * z)
  refine ⟨?_, ?_⟩
  · have := extract_part (s.extract b (b + 2 * z)) 0 z
    rw [Nat.zero_add] at this
    rw [this]
    simp only [partB, e, List.drop_zero]
    rw [List.take_take]
    congr 1
    omega
  · have := extract_part (s.extract b (b + 2 * z)) z z
    rw [← Nat.two_mul] at this
    rw [show (s.extract b (b + 2 * z)).size = 2 * z by simp; omega]
    rw [this]
    simp only [partB, e]
    rw [List.drop_take, List.drop_drop, List.take_take]
    congr 1
    omega

theorem valN_inj (l r : List UInt8) (hl : l.length = r.length) (h : valN l = valN r) : l = r := by
  induction l generalizing r with
  | nil => cases r with
    | nil => rfl
    | cons => simp at hl
  | cons c t ih => cases r with
    | nil => simp at hl
    | cons d u =>
      simp only [valN] at h
      have h1 := c.toNat_lt
      have h2 := d.toNat_lt
      have h3 : c.toNat = d.toNat := by omega
      have h4 : valN t = valN u := by omega
      rw [UInt8.toNat_inj.1 h3, ih u (by simpa using hl) h4]

set_option maxHeartbeats 400000 in
theorem rreadboth_any (s : ByteArray) (a size : Int) (w : World) (hs : s.size ≤ 140737488351232) :
    Calls Try.prog 27 #[.string s, .int .i64 a, .int .i64 size] w fun e w' => e = .returned (.tuple #[.int .i64 (bothV s a size), .bool (bothSame s a size), .int .i64 (bothBad s.size a size)]) ∧ Below w.heap.size w w' := by
  by_cases hd : doubleB size = true
  · have hdd := of_decide_eq_true hd
    by_cases hi : insideB s.size a (2 * size) = true
    · have hB : bothBad s.size a size = 0 := by rw [bothBad, if_pos hd, if_pos hi]
      have h3 := of_decide_eq_true hi
      obtain ⟨z, rfl⟩ : ∃ z : Nat, size = z := ⟨size.toNat, by omega⟩
      obtain ⟨b, rfl⟩ : ∃ b : Nat, a = b := ⟨a.toNat, by omega⟩
      have hsz : b + 2 * z ≤ s.size := by omega
      obtain ⟨p1, p2⟩ := parts_eq s b z hsz
      have hlt := nLe_lt (s := s) (a := b) (z := z) (by omega) (by omega)
      have hl1 := partB_length (s := s) (a := b) (z := z) (by omega)
      have hl2 := partB_length (s := s) (a := b + z) (z := z) (by omega)
      have hzx : ((s.extract b (b + 2 * z)).extract 0 z).size = z := by simp; omega
      refine (rreadboth_in s b z w hs (by omega) hsz _ _ _ _ rfl rfl hzx (fun w => value_any _ w (by rw [hzx]; omega))).mono ?_
      rintro e w' ⟨rfl, hb⟩
      refine ⟨?_, hb⟩
      have hn : valN ((s.extract b (b + 2 * z)).extract 0 z).data.toList = nLe s b z := by rw [p1]; rfl
      rw [hB, bothV, if_pos hB, bothSame, hB, hn, rdV, if_pos (by omega), p1, ByteArray.toList_eq, p2]
      have hbool : (partB s (b + z) z == (partB s b z).reverse) = (nLe s b z == nBe s ((b : Int) + z) z) := by
        rw [Bool.eq_iff_iff, beq_iff_eq, beq_iff_eq]
        have e1 : nBe s ((b : Int) + z) z = valN (partB s (b + z) z).reverse := by
          unfold nBe
          rw [show ((b : Int) + z).toNat = b + z by omega, Int.toNat_natCast]
        rw [e1]
        constructor
        · intro h
          rw [h, List.reverse_reverse]
          rfl
        · intro h
          have := valN_inj _ _ (by rw [List.length_reverse, hl2]; exact hl1) h
          rw [Int.toNat_natCast, Int.toNat_natCast] at this
          rw [this, List.reverse_reverse]
      rw [hbool]
      rfl
    · have hi : insideB s.size a (2 * size) = false := by simpa using hi
      have hB : bothBad s.size a size = 2 := by rw [bothBad, if_pos hd, hi]; rfl
      have HV := Lib.hid (show bothV s a size = 0 by rw [bothV, if_neg (by rw [hB]; decide)])
      have HS := Lib.hid (show bothSame s a size = false by rw [bothSame, hB]; rfl)
      have HB := Lib.hid hB
      have HI := Lib.hid hi
      clear hB hi
      rcases hdd with rfl | rfl | rfl
      all_goals
        go_enter Try.func27, Try.ntmps27
        go_wp2_with (first
          | (go_at_call 39; refine (part_no _ _ _ _ hs (by omega) (by omega) HI.out).mono ?_; rintro e w' ⟨rfl, rfl⟩)
          | fail)
        refine bodyPost_ret (results_tmp3 rfl _ _ _) rfl ?_
        refine ⟨?_, Below.refl _ _⟩
        rw [HV.out, HS.out, HB.out]
        rfl
  · have hd : doubleB size = false := by simpa using hd
    have hB : bothBad s.size a size = 1 := by rw [bothBad, hd]; rfl
    have HV := Lib.hid (show bothV s a size = 0 by rw [bothV, if_neg (by rw [hB]; decide)])
    have HS := Lib.hid (show bothSame s a size = false by rw [bothSame, hB]; rfl)
    have HB := Lib.hid hB
    have hdd : ¬ (size = 1 ∨ size = 2 ∨ size = 4) := of_decide_eq_false hd
    have h1' : (size == 1) = false := by simp; omega
    have h2' : (size == 2) = false := by simp; omega
    have h4' : (size == 4) = false := by simp; omega
    have h1 : (size != 1) = true := by simp; omega
    have h2 : (size != 2) = true := by simp; omega
    have h4 : (size != 4) = true := by simp; omega
    clear hdd hB
    go_enter Try.func27, Try.ntmps27
    go_wp2_with fail
    refine bodyPost_ret (results_tmp3 rfl _ _ _) rfl ?_
    refine ⟨?_, Below.refl _ _⟩
    rw [HV.out, HS.out, HB.out]
    rfl
end Go.Proofs.Ytlllcnbaebfbiaa
