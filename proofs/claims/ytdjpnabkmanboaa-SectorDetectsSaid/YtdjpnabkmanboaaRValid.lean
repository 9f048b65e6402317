/-
  Valid, of the reference.
-/
import Derived.Test.YtdjpnabkmanboaaValid
namespace Go.Proofs.Ytdjpnabkmanboaa
open Go.RowKit
set_option linter.unusedVariables false

theorem rcap_ok (m : Int) (w : World) (h : modeOk m = true) : Calls Try.prog 16 #[.int .i64 m] w fun e w' => e = .returned (.tuple #[.int .i64 (lCap m), .int .i64 0]) ∧ w = w' := by
  have := rcapacity_any m w
  rwa [show capV m = .tuple #[.int .i64 (lCap m), .int .i64 0] from if_pos h] at this
theorem rcap_no (m : Int) (w : World) (h : modeOk m = false) : Calls Try.prog 16 #[.int .i64 m] w fun e w' => e = .returned (.tuple #[.int .i64 0, .int .i64 1]) ∧ w = w' := by
  have := rcapacity_any m w
  rwa [show capV m = .tuple #[.int .i64 0, .int .i64 1] from if_neg (by simp [h])] at this

set_option maxHeartbeats 1000000 in
theorem rvalid_out (x : Sec) (w : World) (hd : x.data.size ≤ 9223372036854775807) (h : ¬ (modeOk x.mode = true ∧ (x.data.size : Int) = lCap x.mode ∧ -150 ≤ x.lba ∧ x.lba ≤ 449849)) :
    Calls Try.prog 14 #[secV x] w fun e w' => e = .returned (.bool false) ∧ Below w.heap.size w w' := by
  obtain ⟨lba, mode, fi, ch, su, co, data⟩ := x
  rw [secV]
  by_cases hm : modeOk mode = true
  · have C1 := Lib.hid (fun w => rcap_ok mode w hm)
    by_cases hz : (data.size : Int) = lCap mode
    · have hsz : ((data.size : Int) != lCap mode) = false := by rw [hz]; simp
      have hq : lba < -150 ∨ (-150 ≤ lba ∧ 449849 < lba) := by
        have : ¬ (-150 ≤ lba ∧ lba ≤ 449849) := fun hh => h ⟨hm, hz, hh⟩
        omega
      generalize lCap mode = l2 at *
      clear hz h hm
      rcases hq with h1 | ⟨h1, h2⟩
      · go_enter Try.func14, Try.ntmps14
        go_wp2_with fail
        refine (C1.out _).mono ?_
        rintro r w' ⟨rfl, rfl⟩
        go_wp2_with fail
        go_ret
        exact ⟨rfl, (Below.refl _ _).alloc (Nat.le_refl _) _⟩
      · go_enter Try.func14, Try.ntmps14
        go_wp2_with fail
        refine (C1.out _).mono ?_
        rintro r w' ⟨rfl, rfl⟩
        go_wp2_with fail
        go_ret
        exact ⟨rfl, (Below.refl _ _).alloc (Nat.le_refl _) _⟩
    · have hsz : ((data.size : Int) != lCap mode) = true := by simpa using hz
      generalize lCap mode = l2 at *
      clear hz h hm
      go_enter Try.func14, Try.ntmps14
      go_wp2_with fail
      refine (C1.out _).mono ?_
      rintro r w' ⟨rfl, rfl⟩
      go_wp2_with fail
      go_ret
      exact ⟨rfl, (Below.refl _ _).alloc (Nat.le_refl _) _⟩
  · have C1 := Lib.hid (fun w => rcap_no mode w (by simpa using hm))
    clear hm h
    go_enter Try.func14, Try.ntmps14
    go_wp2_with fail
    refine (C1.out _).mono ?_
    rintro r w' ⟨rfl, rfl⟩
    go_wp2_with fail
    go_ret
    exact ⟨rfl, (Below.refl _ _).alloc (Nat.le_refl _) _⟩

set_option maxHeartbeats 2000000 in
theorem rvalid_one (x : Sec) (w : World) (hd : x.data.size ≤ 9223372036854775807) (hm : x.mode = 0) (h1 : -150 ≤ x.lba) (h2 : x.lba ≤ 449849) (h3 : (x.data.size : Int) = lCap x.mode) :
    Calls Try.prog 14 #[secV x] w fun e w' => e = .returned (.bool (subOk x)) ∧ Below w.heap.size w w' := by
  obtain ⟨lba, mode, fi, ch, su, co, data⟩ := x
  dsimp only at *
  subst hm
  have C1 : Hid (∀ w, Calls Try.prog 16 #[.int .i64 0] w fun e w' => e = .returned (.tuple #[.int .i64 2048, .int .i64 0]) ∧ w = w') := fun w => rcap_ok 0 w rfl
  have hsz : ((data.size : Int) != 2048) = false := by rw [h3]; rfl
  rw [secV]
  clear h3
  have hcs : fi ≠ 0 ∨ (fi = 0 ∧ ch ≠ 0) ∨ (fi = 0 ∧ ch = 0 ∧ su ≠ 0) ∨ (fi = 0 ∧ ch = 0 ∧ su = 0 ∧ co ≠ 0) ∨ (fi = 0 ∧ ch = 0 ∧ su = 0 ∧ co = 0) := by omega
  have hbv : subOk ⟨lba, 0, fi, ch, su, co, data⟩ = decide (fi = 0 ∧ ch = 0 ∧ su = 0 ∧ co = 0) := rfl
  generalize subOk ⟨lba, 0, fi, ch, su, co, data⟩ = bv at *
  rcases hcs with h | ⟨rfl, h⟩ | ⟨rfl, rfl, h⟩ | ⟨rfl, rfl, rfl, h⟩ | ⟨rfl, rfl, rfl, rfl⟩
  · obtain rfl : bv = false := by rw [hbv]; exact decide_eq_false (by omega)
    clear hbv
    have hn0 := beq_eq_false_iff_ne.2 h
    clear h
    go_enter Try.func14, Try.ntmps14
    go_wp2_with fail
    refine (C1.out _).mono ?_
    rintro r w' ⟨rfl, rfl⟩
    go_wp2_with fail
    go_ret
    exact ⟨rfl, (Below.refl _ _).alloc (Nat.le_refl _) _⟩
  · obtain rfl : bv = false := by rw [hbv]; exact decide_eq_false (by omega)
    clear hbv
    have hn0 := beq_eq_false_iff_ne.2 h
    clear h
    go_enter Try.func14, Try.ntmps14
    go_wp2_with fail
    refine (C1.out _).mono ?_
    rintro r w' ⟨rfl, rfl⟩
    go_wp2_with fail
    go_ret
    exact ⟨rfl, (Below.refl _ _).alloc (Nat.le_refl _) _⟩
  · obtain rfl : bv = false := by rw [hbv]; exact decide_eq_false (by omega)
    clear hbv
    have hn0 := beq_eq_false_iff_ne.2 h
    clear h
    go_enter Try.func14, Try.ntmps14
    go_wp2_with fail
    refine (C1.out _).mono ?_
    rintro r w' ⟨rfl, rfl⟩
    go_wp2_with fail
    go_ret
    exact ⟨rfl, (Below.refl _ _).alloc (Nat.le_refl _) _⟩
  · obtain rfl : bv = false := by rw [hbv]; exact decide_eq_false (by omega)
    clear hbv
    have hn0 := beq_eq_false_iff_ne.2 h
    clear h
    go_enter Try.func14, Try.ntmps14
    go_wp2_with fail
    refine (C1.out _).mono ?_
    rintro r w' ⟨rfl, rfl⟩
    go_wp2_with fail
    go_ret
    exact ⟨rfl, (Below.refl _ _).alloc (Nat.le_refl _) _⟩
  · obtain rfl : bv = true := by rw [hbv]; simp
    clear hbv
    go_enter Try.func14, Try.ntmps14
    go_wp2_with fail
    refine (C1.out _).mono ?_
    rintro r w' ⟨rfl, rfl⟩
    go_wp2_with fail
    go_ret
    exact ⟨rfl, (Below.refl _ _).alloc (Nat.le_refl _) _⟩

set_option maxHeartbeats 4000000 in
theorem rvalid_two (x : Sec) (w : World) (hd : x.data.size ≤ 9223372036854775807) (hm : x.mode = 1 ∨ x.mode = 2) (h1 : -150 ≤ x.lba) (h2 : x.lba ≤ 449849) (h3 : (x.data.size : Int) = lCap x.mode) :
    Calls Try.prog 14 #[secV x] w fun e w' => e = .returned (.bool (subOk x)) ∧ Below w.heap.size w w' := by
  obtain ⟨lba, mode, fi, ch, su, co, data⟩ := x
  dsimp only at *
  have C1 := Lib.hid (fun w => rcap_ok mode w (modeOk_iff.2 (by omega)))
  have hsz : ((data.size : Int) != lCap mode) = false := by rw [h3]; simp
  have hm0 : (mode == 0) = false := by rw [beq_eq_false_iff_ne]; omega
  have hbv : subOk ⟨lba, mode, fi, ch, su, co, data⟩ = (btw fi 255 && btw ch 31 && btw su 255 && btw co 255 && decide (su / 32 % 2 = 1 ↔ mode = 2)) := if_neg (by dsimp only; omega)
  have B1 := Lib.hid (fun w => octet_any fi w)
  have B3 := Lib.hid (fun w => octet_any su w)
  have B4 := Lib.hid (fun w => octet_any co w)
  have hsu : btw su 255 = true → 0 ≤ su ∧ su ≤ 255 := fun h => btw_iff.1 h
  have hch : btw ch 31 = true ↔ 0 ≤ ch ∧ ch ≤ 31 := btw_iff
  rw [secV]
  generalize lCap mode = l2 at *
  generalize subOk ⟨lba, mode, fi, ch, su, co, data⟩ = bv at *
  generalize btw fi 255 = b1 at *
  generalize btw ch 31 = b2 at *
  generalize btw su 255 = b3 at *
  generalize btw co 255 = b4 at *
  obtain ⟨tw, htw⟩ : ∃ tw, (mode == 2) = tw := ⟨_, rfl⟩
  have hbv2 : bv = (b1 && b2 && b3 && b4 && (decide (su / 32 % 2 = 1) == tw)) := by
    rw [hbv, ← htw]
    congr 1
    by_cases a : su / 32 % 2 = 1 <;> by_cases b : mode = 2 <;> simp [a, b]
  clear h3 hbv hm
  have hcs : (b1 = false) ∨ (b1 = true ∧ b4 = false) ∨ (b1 = true ∧ b4 = true ∧ b2 = false) ∨ (b1 = true ∧ b4 = true ∧ b2 = true ∧ b3 = false) ∨ (b1 = true ∧ b4 = true ∧ b2 = true ∧ b3 = true) := by
    cases b1 <;> cases b2 <;> cases b3 <;> cases b4 <;> simp
  rcases hcs with rfl | ⟨rfl, rfl⟩ | ⟨rfl, rfl, rfl⟩ | ⟨rfl, rfl, rfl, rfl⟩ | ⟨rfl, rfl, rfl, rfl⟩
  · obtain rfl : bv = false := by rw [hbv2]; simp
    clear hbv2 hsu hch
    go_enter Try.func14, Try.ntmps14
    go_wp2_with fail
    refine (C1.out _).mono ?_
    rintro r w' ⟨rfl, rfl⟩
    go_wp2_with fail
    refine (B1.out _).mono ?_
    rintro r w' ⟨rfl, rfl⟩
    go_wp2_with fail
    go_ret
    exact ⟨rfl, (Below.refl _ _).alloc (Nat.le_refl _) _⟩
  · obtain rfl : bv = false := by rw [hbv2]; simp
    clear hbv2 hsu hch
    go_enter Try.func14, Try.ntmps14
    go_wp2_with fail
    refine (C1.out _).mono ?_
    rintro r w' ⟨rfl, rfl⟩
    go_wp2_with fail
    refine (B1.out _).mono ?_
    rintro r w' ⟨rfl, rfl⟩
    go_wp2_with fail
    refine (B4.out _).mono ?_
    rintro r w' ⟨rfl, rfl⟩
    go_wp2_with fail
    go_ret
    exact ⟨rfl, (Below.refl _ _).alloc (Nat.le_refl _) _⟩
  · obtain rfl : bv = false := by rw [hbv2]; simp
    have hch2 : ch < 0 ∨ (0 ≤ ch ∧ 31 < ch) := by
      have : ¬ (0 ≤ ch ∧ ch ≤ 31) := fun hh => by have := hch.2 hh; cases this
      omega
    clear hbv2 hsu hch
    rcases hch2 with hq | ⟨hq, hq2⟩
    · go_enter Try.func14, Try.ntmps14
      go_wp2_with fail
      refine (C1.out _).mono ?_
      rintro r w' ⟨rfl, rfl⟩
      go_wp2_with fail
      refine (B1.out _).mono ?_
      rintro r w' ⟨rfl, rfl⟩
      go_wp2_with fail
      refine (B4.out _).mono ?_
      rintro r w' ⟨rfl, rfl⟩
      go_wp2_with fail
      go_ret
      exact ⟨rfl, (Below.refl _ _).alloc (Nat.le_refl _) _⟩
    · go_enter Try.func14, Try.ntmps14
      go_wp2_with fail
      refine (C1.out _).mono ?_
      rintro r w' ⟨rfl, rfl⟩
      go_wp2_with fail
      refine (B1.out _).mono ?_
      rintro r w' ⟨rfl, rfl⟩
      go_wp2_with fail
      refine (B4.out _).mono ?_
      rintro r w' ⟨rfl, rfl⟩
      go_wp2_with fail
      go_ret
      exact ⟨rfl, (Below.refl _ _).alloc (Nat.le_refl _) _⟩
  · obtain rfl : bv = false := by rw [hbv2]; simp
    obtain ⟨hq, hq2⟩ := hch.1 rfl
    clear hbv2 hsu hch
    go_enter Try.func14, Try.ntmps14
    go_wp2_with fail
    refine (C1.out _).mono ?_
    rintro r w' ⟨rfl, rfl⟩
    go_wp2_with fail
    refine (B1.out _).mono ?_
    rintro r w' ⟨rfl, rfl⟩
    go_wp2_with fail
    refine (B4.out _).mono ?_
    rintro r w' ⟨rfl, rfl⟩
    go_wp2_with fail
    refine (B3.out _).mono ?_
    rintro r w' ⟨rfl, rfl⟩
    go_wp2_with fail
    go_ret
    exact ⟨rfl, (Below.refl _ _).alloc (Nat.le_refl _) _⟩
  · obtain ⟨hq, hq2⟩ := hch.1 rfl
    obtain ⟨hs0, hs1⟩ := hsu rfl
    by_cases hbit : su / 32 % 2 = 1
    · have HBV : Hid (bv = (true == tw)) := by rw [hbv2, decide_eq_true hbit]; exact (by simp : (true && true && true && true && (true == tw)) = (true == tw))
      have hbq : (su / 32 % 2 == 1) = true := by rw [hbit]; rfl
      clear hbv2 hsu hch hbit
      go_enter Try.func14, Try.ntmps14
      go_wp2_with fail
      refine (C1.out _).mono ?_
      rintro r w' ⟨rfl, rfl⟩
      go_wp2_with fail
      refine (B1.out _).mono ?_
      rintro r w' ⟨rfl, rfl⟩
      go_wp2_with fail
      refine (B4.out _).mono ?_
      rintro r w' ⟨rfl, rfl⟩
      go_wp2_with fail
      refine (B3.out _).mono ?_
      rintro r w' ⟨rfl, rfl⟩
      go_wp2_with fail
      go_ret
      exact ⟨ret_bool (by rw [HBV.out]; cases tw <;> simp), (Below.refl _ _).alloc (Nat.le_refl _) _⟩
    · have HBV : Hid (bv = (false == tw)) := by rw [hbv2, decide_eq_false hbit]; exact (by simp : (true && true && true && true && (false == tw)) = (false == tw))
      have hbq : (su / 32 % 2 == 1) = false := by rw [beq_eq_false_iff_ne]; exact hbit
      clear hbv2 hsu hch hbit
      go_enter Try.func14, Try.ntmps14
      go_wp2_with fail
      refine (C1.out _).mono ?_
      rintro r w' ⟨rfl, rfl⟩
      go_wp2_with fail
      refine (B1.out _).mono ?_
      rintro r w' ⟨rfl, rfl⟩
      go_wp2_with fail
      refine (B4.out _).mono ?_
      rintro r w' ⟨rfl, rfl⟩
      go_wp2_with fail
      refine (B3.out _).mono ?_
      rintro r w' ⟨rfl, rfl⟩
      go_wp2_with fail
      go_ret
      exact ⟨ret_bool (by rw [HBV.out]; cases tw <;> simp), (Below.refl _ _).alloc (Nat.le_refl _) _⟩

theorem valid7_any (x : Sec) (w : World) (hn : -9223372036854775808 ≤ x.lba) (hd : x.data.size ≤ 9223372036854775807) :
    Calls Try.prog 13 #[secV x] w fun e w' => e = .returned (.bool (validB x)) ∧ Below w.heap.size w w' := by
  by_cases hm : modeOk x.mode = true
  · by_cases h : -150 ≤ x.lba ∧ x.lba ≤ 449849 ∧ (x.data.size : Int) = lCap x.mode
    · have hv : validB x = subOk x := by
        unfold validB
        rw [hm, decide_eq_true (show -150 ≤ x.lba ∧ x.lba ≤ 449849 from ⟨h.1, h.2.1⟩), decide_eq_true h.2.2]
        simp
      rw [hv]
      rcases modeOk_iff.1 hm with h0 | h0
      · exact valid_one x w hd h0 h.1 h.2.1 h.2.2
      · exact valid_two x w hd h0 h.1 h.2.1 h.2.2
    · have hv : validB x = false := by
        unfold validB
        rw [hm, Bool.true_and, ← Bool.decide_and, decide_eq_false (fun hh => h ⟨hh.1.1, hh.1.2, hh.2⟩), Bool.false_and]
      rw [hv]
      exact valid_size x w hn hd hm h
  · have hm' : modeOk x.mode = false := by simpa using hm
    have hv : validB x = false := by unfold validB; rw [hm']; simp
    rw [hv]
    exact valid_mode x w hn hm'
theorem rvalid7_any (x : Sec) (w : World) (hd : x.data.size ≤ 9223372036854775807) :
    Calls Try.prog 14 #[secV x] w fun e w' => e = .returned (.bool (validB x)) ∧ Below w.heap.size w w' := by
  by_cases h : modeOk x.mode = true ∧ (x.data.size : Int) = lCap x.mode ∧ -150 ≤ x.lba ∧ x.lba ≤ 449849
  · have hv : validB x = subOk x := by
      unfold validB
      rw [h.1, decide_eq_true h.2.2, decide_eq_true h.2.1]
      simp
    rw [hv]
    rcases modeOk_iff.1 h.1 with h0 | h0
    · exact rvalid_one x w hd h0 h.2.2.1 h.2.2.2 h.2.1
    · exact rvalid_two x w hd h0 h.2.2.1 h.2.2.2 h.2.1
  · have hv : validB x = false := by
      unfold validB
      by_cases hm : modeOk x.mode = true
      · rw [hm, Bool.true_and, ← Bool.decide_and, decide_eq_false (fun hh => h ⟨hm, hh.2, hh.1⟩), Bool.false_and]
      · rw [show modeOk x.mode = false by simpa using hm]; simp
    rw [hv]
    exact rvalid_out x w hd h
end Go.Proofs.Ytdjpnabkmanboaa
