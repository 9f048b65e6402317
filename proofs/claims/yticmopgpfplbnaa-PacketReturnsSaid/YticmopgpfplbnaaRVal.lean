/-
  Valid and Repeat of the references (out of chapter 7's texts).
-/
import Derived.Test.YticmopgpfplbnaaToMsf
import Derived.Deep.RegionWith
namespace Go.Proofs.Yticmopgpfplbnaa
open Go.RowKit
set_option linter.unusedVariables false

def modeOk (m : Int) : Bool := decide (m = 0 ∨ m = 1 ∨ m = 2)
theorem modeOk_iff {m : Int} : modeOk m = true ↔ m = 0 ∨ m = 1 ∨ m = 2 := decide_eq_true_iff
def lCap (m : Int) : Int := if m = 2 then 2324 else 2048
def capV (m : Int) : Value := if modeOk m then .tuple #[.int .i64 (lCap m), .int .i64 0] else .tuple #[.int .i64 0, .int .i64 1]
theorem rcapacity_any (m : Int) (w : World) :
    Calls Try.prog 43 #[.int .i64 m] w fun e w' => e = .returned (capV m) ∧ w = w' := by
  by_cases h : modeOk m = true
  · rcases modeOk_iff.1 h with rfl | rfl | rfl
    all_goals
      go_enter Try.func43, Try.ntmps43
      go_wp2_with fail
      go_ret2
      exact ⟨rfl, rfl⟩
  · have HR := Lib.hid (show capV m = .tuple #[.int .i64 0, .int .i64 1] from if_neg h)
    have hh := mt modeOk_iff.2 h
    have h0 : (m == 0) = false := by simp; omega
    have h1 : (m == 1) = false := by simp; omega
    have h2 : (m == 2) = false := by simp; omega
    clear h hh
    go_enter Try.func43, Try.ntmps43
    go_wp2_with fail
    go_ret2
    exact ⟨by rw [HR.out]; rfl, rfl⟩

def btw (n q : Int) : Bool := decide (0 ≤ n ∧ n ≤ q)
theorem btw_iff {n q : Int} : btw n q = true ↔ 0 ≤ n ∧ n ≤ q := decide_eq_true_iff
theorem octet_any (n : Int) (w : World) :
    Calls Try.prog 44 #[.int .i64 n] w fun e w' => e = .returned (.bool (btw n 255)) ∧ w = w' := by
  by_cases h0 : 0 ≤ n
  · have HR := Lib.hid (show btw n 255 = decide (n ≤ 255) by unfold btw; simp [h0])
    go_enter Try.func44, Try.ntmps44
    go_wp2_with fail
    go_ret
    exact ⟨by rw [HR.out]; rfl, rfl⟩
  · have HR := Lib.hid (show btw n 255 = false by unfold btw; simp [h0])
    have h0' : n < 0 := by omega
    clear h0
    go_enter Try.func44, Try.ntmps44
    go_wp2_with fail
    go_ret
    exact ⟨by rw [HR.out]; rfl, rfl⟩
structure Sec where
  lba : Int
  mode : Int
  fi : Int
  ch : Int
  su : Int
  co : Int
  data : ByteArray
def sctV (x : Sec) : Value := .agg #[.int .i64 x.lba, .int .i64 x.mode, .int .i64 x.fi, .int .i64 x.ch, .int .i64 x.su, .int .i64 x.co, .string x.data]
def subOk (x : Sec) : Bool :=
  if x.mode = 0 then decide (x.fi = 0 ∧ x.ch = 0 ∧ x.su = 0 ∧ x.co = 0)
  else btw x.fi 255 && btw x.ch 31 && btw x.su 255 && btw x.co 255 && decide (x.su / 32 % 2 = 1 ↔ x.mode = 2)
def validB (x : Sec) : Bool := modeOk x.mode && decide (-150 ≤ x.lba ∧ x.lba ≤ 449849) && decide ((x.data.size : Int) = lCap x.mode) && subOk x

theorem rcap_ok (m : Int) (w : World) (h : modeOk m = true) : Calls Try.prog 43 #[.int .i64 m] w fun e w' => e = .returned (.tuple #[.int .i64 (lCap m), .int .i64 0]) ∧ w = w' := by
  have := rcapacity_any m w
  rwa [show capV m = .tuple #[.int .i64 (lCap m), .int .i64 0] from if_pos h] at this
theorem rcap_no (m : Int) (w : World) (h : modeOk m = false) : Calls Try.prog 43 #[.int .i64 m] w fun e w' => e = .returned (.tuple #[.int .i64 0, .int .i64 1]) ∧ w = w' := by
  have := rcapacity_any m w
  rwa [show capV m = .tuple #[.int .i64 0, .int .i64 1] from if_neg (by simp [h])] at this

set_option maxHeartbeats 1000000 in
theorem rvalid_out (x : Sec) (w : World) (hd : x.data.size ≤ 9223372036854775807) (h : ¬ (modeOk x.mode = true ∧ (x.data.size : Int) = lCap x.mode ∧ -150 ≤ x.lba ∧ x.lba ≤ 449849)) :
    Calls Try.prog 39 #[sctV x] w fun e w' => e = .returned (.bool false) ∧ Below w.heap.size w w' := by
  obtain ⟨lba, mode, fi, ch, su, co, data⟩ := x
  rw [sctV]
  by_cases hm : modeOk mode = true
  · have C1 := Lib.hid (fun w => rcap_ok mode w hm)
    by_cases hz : (data.size : Int) = lCap mode
    · have hsz : ((data.size : Int) != lCap mode) = false := by rw [hz]; simp
      have hq : lba < -150 ∨ (-150 ≤ lba ∧ 449849 < lba) := by
        have : ¬ (-150 ≤ lba ∧ lba ≤ 449849) := fun hh => h ⟨hm, hz, hh⟩
        omega
      generalize lCap mode = l2 at *
      clear hz h hm
      rcases hq with h1 | ⟨h1, h2⟩
      · go_enter Try.func39, Try.ntmps39
        go_wp2_with fail
        refine (C1.out _).mono ?_
        rintro r w' ⟨rfl, rfl⟩
        go_wp2_with fail
        go_ret
        exact ⟨rfl, (Below.refl _ _).alloc (Nat.le_refl _) _⟩
      · go_enter Try.func39, Try.ntmps39
        go_wp2_with fail
        refine (C1.out _).mono ?_
        rintro r w' ⟨rfl, rfl⟩
        go_wp2_with fail
        go_ret
        exact ⟨rfl, (Below.refl _ _).alloc (Nat.le_refl _) _⟩
    · have hsz : ((data.size : Int) != lCap mode) = true := by simpa using hz
      generalize lCap mode = l2 at *
      clear hz h hm
      go_enter Try.func39, Try.ntmps39
      go_wp2_with fail
      refine (C1.out _).mono ?_
      rintro r w' ⟨rfl, rfl⟩
      go_wp2_with fail
      go_ret
      exact ⟨rfl, (Below.refl _ _).alloc (Nat.le_refl _) _⟩
  · have C1 := Lib.hid (fun w => rcap_no mode w (by simpa using hm))
    clear hm h
    go_enter Try.func39, Try.ntmps39
    go_wp2_with fail
    refine (C1.out _).mono ?_
    rintro r w' ⟨rfl, rfl⟩
    go_wp2_with fail
    go_ret
    exact ⟨rfl, (Below.refl _ _).alloc (Nat.le_refl _) _⟩

set_option maxHeartbeats 2000000 in
theorem rvalid_one (x : Sec) (w : World) (hd : x.data.size ≤ 9223372036854775807) (hm : x.mode = 0) (h1 : -150 ≤ x.lba) (h2 : x.lba ≤ 449849) (h3 : (x.data.size : Int) = lCap x.mode) :
    Calls Try.prog 39 #[sctV x] w fun e w' => e = .returned (.bool (subOk x)) ∧ Below w.heap.size w w' := by
  obtain ⟨lba, mode, fi, ch, su, co, data⟩ := x
  dsimp only at *
  subst hm
  have C1 : Hid (∀ w, Calls Try.prog 43 #[.int .i64 0] w fun e w' => e = .returned (.tuple #[.int .i64 2048, .int .i64 0]) ∧ w = w') := fun w => rcap_ok 0 w rfl
  have hsz : ((data.size : Int) != 2048) = false := by rw [h3]; rfl
  rw [sctV]
  clear h3
  have hcs : fi ≠ 0 ∨ (fi = 0 ∧ ch ≠ 0) ∨ (fi = 0 ∧ ch = 0 ∧ su ≠ 0) ∨ (fi = 0 ∧ ch = 0 ∧ su = 0 ∧ co ≠ 0) ∨ (fi = 0 ∧ ch = 0 ∧ su = 0 ∧ co = 0) := by omega
  have hbv : subOk ⟨lba, 0, fi, ch, su, co, data⟩ = decide (fi = 0 ∧ ch = 0 ∧ su = 0 ∧ co = 0) := rfl
  generalize subOk ⟨lba, 0, fi, ch, su, co, data⟩ = bv at *
  rcases hcs with h | ⟨rfl, h⟩ | ⟨rfl, rfl, h⟩ | ⟨rfl, rfl, rfl, h⟩ | ⟨rfl, rfl, rfl, rfl⟩
  · obtain rfl : bv = false := by rw [hbv]; exact decide_eq_false (by omega)
    clear hbv
    have hn0 := beq_eq_false_iff_ne.2 h
    clear h
    go_enter Try.func39, Try.ntmps39
    go_wp2_with fail
    refine (C1.out _).mono ?_
    rintro r w' ⟨rfl, rfl⟩
    go_wp2_with fail
    go_ret
    exact ⟨rfl, (Below.refl _ _).alloc (Nat.le_refl _) _⟩
  · obtain rfl : bv = false := by rw [hbv]; exact decide_eq_false (by omega)
    clear hbv
    have hn0 := beq_eq_false_iff_ne.2 h
    clear h
    go_enter Try.func39, Try.ntmps39
    go_wp2_with fail
    refine (C1.out _).mono ?_
    rintro r w' ⟨rfl, rfl⟩
    go_wp2_with fail
    go_ret
    exact ⟨rfl, (Below.refl _ _).alloc (Nat.le_refl _) _⟩
  · obtain rfl : bv = false := by rw [hbv]; exact decide_eq_false (by omega)
    clear hbv
    have hn0 := beq_eq_false_iff_ne.2 h
    clear h
    go_enter Try.func39, Try.ntmps39
    go_wp2_with fail
    refine (C1.out _).mono ?_
    rintro r w' ⟨rfl, rfl⟩
    go_wp2_with fail
    go_ret
    exact ⟨rfl, (Below.refl _ _).alloc (Nat.le_refl _) _⟩
  · obtain rfl : bv = false := by rw [hbv]; exact decide_eq_false (by omega)
    clear hbv
    have hn0 := beq_eq_false_iff_ne.2 h
    clear h
    go_enter Try.func39, Try.ntmps39
    go_wp2_with fail
    refine (C1.out _).mono ?_
    rintro r w' ⟨rfl, rfl⟩
    go_wp2_with fail
    go_ret
    exact ⟨rfl, (Below.refl _ _).alloc (Nat.le_refl _) _⟩
  · obtain rfl : bv = true := by rw [hbv]; simp
    clear hbv
    go_enter Try.func39, Try.ntmps39
    go_wp2_with fail
    refine (C1.out _).mono ?_
    rintro r w' ⟨rfl, rfl⟩
    go_wp2_with fail
    go_ret
    exact ⟨rfl, (Below.refl _ _).alloc (Nat.le_refl _) _⟩

set_option maxHeartbeats 4000000 in
theorem rvalid_two (x : Sec) (w : World) (hd : x.data.size ≤ 9223372036854775807) (hm : x.mode = 1 ∨ x.mode = 2) (h1 : -150 ≤ x.lba) (h2 : x.lba ≤ 449849) (h3 : (x.data.size : Int) = lCap x.mode) :
    Calls Try.prog 39 #[sctV x] w fun e w' => e = .returned (.bool (subOk x)) ∧ Below w.heap.size w w' := by
  obtain ⟨lba, mode, fi, ch, su, co, data⟩ := x
  dsimp only at *
  have C1 := Lib.hid (fun w => rcap_ok mode w (modeOk_iff.2 (by omega)))
  have hsz : ((data.size : Int) != lCap mode) = false := by rw [h3]; simp
  have hm0 : (mode == 0) = false := by rw [beq_eq_false_iff_ne]; omega
  have hbv : subOk ⟨lba, mode, fi, ch, su, co, data⟩ = (btw fi 255 && btw ch 31 && btw su 255 && btw co 255 && decide (su / 32 % 2 = 1 ↔ mode = 2)) := if_neg (by dsimp only; omega)
  have B1 := Lib.hid (fun w => octet_any fi w)
  have B3 := Lib.hid (fun w => octet_any su w)
  have B4 := Lib.hid (fun w => octet_any co w)
  have hsu : btw su 255 = true → 0 ≤ su ∧ su ≤ 255 := fun h => btw_iff.1 h
  have hch : btw ch 31 = true ↔ 0 ≤ ch ∧ ch ≤ 31 := btw_iff
  rw [sctV]
  generalize lCap mode = l2 at *
  generalize subOk ⟨lba, mode, fi, ch, su, co, data⟩ = bv at *
  generalize btw fi 255 = b1 at *
  generalize btw ch 31 = b2 at *
  generalize btw su 255 = b3 at *
  generalize btw co 255 = b4 at *
  obtain ⟨tw, htw⟩ : ∃ tw, (mode == 2) = tw := ⟨_, rfl⟩
  have hbv2 : bv = (b1 && b2 && b3 && b4 && (decide (su / 32 % 2 = 1) == tw)) := by
    rw [hbv, ← htw]
    congr 1
    by_cases a : su / 32 % 2 = 1 <;> by_cases b : mode = 2 <;> simp [a, b]
  clear h3 hbv hm
  have hcs : (b1 = false) ∨ (b1 = true ∧ b4 = false) ∨ (b1 = true ∧ b4 = true ∧ b2 = false) ∨ (b1 = true ∧ b4 = true ∧ b2 = true ∧ b3 = false) ∨ (b1 = true ∧ b4 = true ∧ b2 = true ∧ b3 = true) := by
    cases b1 <;> cases b2 <;> cases b3 <;> cases b4 <;> simp
  rcases hcs with rfl | ⟨rfl, rfl⟩ | ⟨rfl, rfl, rfl⟩ | ⟨rfl, rfl, rfl, rfl⟩ | ⟨rfl, rfl, rfl, rfl⟩
  · obtain rfl : bv = false := by rw [hbv2]; simp
    clear hbv2 hsu hch
    go_enter Try.func39, Try.ntmps39
    go_wp2_with fail
    refine (C1.out _).mono ?_
    rintro r w' ⟨rfl, rfl⟩
    go_wp2_with fail
    refine (B1.out _).mono ?_
    rintro r w' ⟨rfl, rfl⟩
    go_wp2_with fail
    go_ret
    exact ⟨rfl, (Below.refl _ _).alloc (Nat.le_refl _) _⟩
  · obtain rfl : bv = false := by rw [hbv2]; simp
    clear hbv2 hsu hch
    go_enter Try.func39, Try.ntmps39
    go_wp2_with fail
    refine (C1.out _).mono ?_
    rintro r w' ⟨rfl, rfl⟩
    go_wp2_with fail
    refine (B1.out _).mono ?_
    rintro r w' ⟨rfl, rfl⟩
    go_wp2_with fail
    refine (B4.out _).mono ?_
    rintro r w' ⟨rfl, rfl⟩
    go_wp2_with fail
    go_ret
    exact ⟨rfl, (Below.refl _ _).alloc (Nat.le_refl _) _⟩
  · obtain rfl : bv = false := by rw [hbv2]; simp
    have hch2 : ch < 0 ∨ (0 ≤ ch ∧ 31 < ch) := by
      have : ¬ (0 ≤ ch ∧ ch ≤ 31) := fun hh => by have := hch.2 hh; cases this
      omega
    clear hbv2 hsu hch
    rcases hch2 with hq | ⟨hq, hq2⟩
    · go_enter Try.func39, Try.ntmps39
      go_wp2_with fail
      refine (C1.out _).mono ?_
      rintro r w' ⟨rfl, rfl⟩
      go_wp2_with fail
      refine (B1.out _).mono ?_
      rintro r w' ⟨rfl, rfl⟩
      go_wp2_with fail
      refine (B4.out _).mono ?_
      rintro r w' ⟨rfl, rfl⟩
      go_wp2_with fail
      go_ret
      exact ⟨rfl, (Below.refl _ _).alloc (Nat.le_refl _) _⟩
    · go_enter Try.func39, Try.ntmps39
      go_wp2_with fail
      refine (C1.out _).mono ?_
      rintro r w' ⟨rfl, rfl⟩
      go_wp2_with fail
      refine (B1.out _).mono ?_
      rintro r w' ⟨rfl, rfl⟩
      go_wp2_with fail
      refine (B4.out _).mono ?_
      rintro r w' ⟨rfl, rfl⟩
      go_wp2_with fail
      go_ret
      exact ⟨rfl, (Below.refl _ _).alloc (Nat.le_refl _) _⟩
  · obtain rfl : bv = false := by rw [hbv2]; simp
    obtain ⟨hq, hq2⟩ := hch.1 rfl
    clear hbv2 hsu hch
    go_enter Try.func39, Try.ntmps39
    go_wp2_with fail
    refine (C1.out _).mono ?_
    rintro r w' ⟨rfl, rfl⟩
    go_wp2_with fail
    refine (B1.out _).mono ?_
    rintro r w' ⟨rfl, rfl⟩
    go_wp2_with fail
    refine (B4.out _).mono ?_
    rintro r w' ⟨rfl, rfl⟩
    go_wp2_with fail
    refine (B3.out _).mono ?_
    rintro r w' ⟨rfl, rfl⟩
    go_wp2_with fail
    go_ret
    exact ⟨rfl, (Below.refl _ _).alloc (Nat.le_refl _) _⟩
  · obtain ⟨hq, hq2⟩ := hch.1 rfl
    obtain ⟨hs0, hs1⟩ := hsu rfl
    by_cases hbit : su / 32 % 2 = 1
    · have HBV : Hid (bv = (true == tw)) := by rw [hbv2, decide_eq_true hbit]; exact (by simp : (true && true && true && true && (true == tw)) = (true == tw))
      have hbq : (su / 32 % 2 == 1) = true := by rw [hbit]; rfl
      clear hbv2 hsu hch hbit
      go_enter Try.func39, Try.ntmps39
      go_wp2_with fail
      refine (C1.out _).mono ?_
      rintro r w' ⟨rfl, rfl⟩
      go_wp2_with fail
      refine (B1.out _).mono ?_
      rintro r w' ⟨rfl, rfl⟩
      go_wp2_with fail
      refine (B4.out _).mono ?_
      rintro r w' ⟨rfl, rfl⟩
      go_wp2_with fail
      refine (B3.out _).mono ?_
      rintro r w' ⟨rfl, rfl⟩
      go_wp2_with fail
      go_ret
      exact ⟨ret_bool (by rw [HBV.out]; cases tw <;> simp), (Below.refl _ _).alloc (Nat.le_refl _) _⟩
    · have HBV : Hid (bv = (false == tw)) := by rw [hbv2, decide_eq_false hbit]; exact (by simp : (true && true && true && true && (false == tw)) = (false == tw))
      have hbq : (su / 32 % 2 == 1) = false := by rw [beq_eq_false_iff_ne]; exact hbit
      clear hbv2 hsu hch hbit
      go_enter Try.func39, Try.ntmps39
      go_wp2_with fail
      refine (C1.out _).mono ?_
      rintro r w' ⟨rfl, rfl⟩
      go_wp2_with fail
      refine (B1.out _).mono ?_
      rintro r w' ⟨rfl, rfl⟩
      go_wp2_with fail
      refine (B4.out _).mono ?_
      rintro r w' ⟨rfl, rfl⟩
      go_wp2_with fail
      refine (B3.out _).mono ?_
      rintro r w' ⟨rfl, rfl⟩
      go_wp2_with fail
      go_ret
      exact ⟨ret_bool (by rw [HBV.out]; cases tw <;> simp), (Below.refl _ _).alloc (Nat.le_refl _) _⟩

theorem rvalid7_any (x : Sec) (w : World) (hd : x.data.size ≤ 9223372036854775807) :
    Calls Try.prog 39 #[sctV x] w fun e w' => e = .returned (.bool (validB x)) ∧ Below w.heap.size w w' := by
  by_cases h : modeOk x.mode = true ∧ (x.data.size : Int) = lCap x.mode ∧ -150 ≤ x.lba ∧ x.lba ≤ 449849
  · have hv : validB x = subOk x := by
      unfold validB
      rw [h.1, decide_eq_true h.2.2, decide_eq_true h.2.1]
      simp
    rw [hv]
    rcases modeOk_iff.1 h.1 with h0 | h0
    · exact rvalid_one x w hd h0 h.2.2.1 h.2.2.2 h.2.1
    · exact rvalid_two x w hd h0 h.2.2.1 h.2.2.2 h.2.1
  · have hv : validB x = false := by
      unfold validB
      by_cases hm : modeOk x.mode = true
      · rw [hm, Bool.true_and, ← Bool.decide_and, decide_eq_false (fun hh => h ⟨hm, hh.2, hh.1⟩), Bool.false_and]
      · rw [show modeOk x.mode = false by simpa using hm]; simp
    rw [hv]
    exact rvalid_out x w hd h
set_option maxHeartbeats 1000000 in
theorem rep_any (b : UInt8) (n : Nat) (w : World) (hn : n ≤ 100000) :
    Calls Try.prog 40 #[.int .u8 (b.toNat : Int), .int .i64 (n : Int)] w fun e w' => e = .returned (.string ⟨(List.replicate n b).toArray⟩) ∧ Below w.heap.size w w' := by
  have hi : (Try.prog.info? 5).map (fun i => (i.zero, i.size, i.bytes)) = some (some (.int .u8 0), 1, 1) := by kernel_rfl
  go_enter Try.func40, Try.ntmps40
  go_wp2_with fail
  go_loopw [5, 6] (fun v i wr => ∃ k : Nat, k ≤ n ∧ i = .int .i64 k ∧ wr.ownsRow w.heap.size 5 1 v k ((List.replicate k b).map byteV) ∧ Below w.heap.size w wr) (fun _ i _ => n - (intOf i).toNat)
  case atStart => exact ⟨0, by omega, rfl, World.ownsRow_made _ _ _ (Nat.le_refl _) (by decide) rfl, (Below.refl _ _).alloc (Nat.le_refl _) _⟩
  case round =>
    obtain ⟨k, hk, rfl, hown, hb⟩ := hrel
    by_cases hlt : k < n
    · have hlt' : (k : Int) < (n : Int) := by omega
      go_wp2_with (at_builtin; refine wpList_app1 hown hi Try.underlying70 rfl (by unfold maxLen; omega) (by omega) hb.size rfl rfl rfl (by rfl) (by rfl) ?_; intro v1 w2 hown2 hb2 _)
      go_roundw
      case rel => exact ⟨k + 1, by omega, by go_num, by rw [List.replicate_succ', List.map_append]; exact hown2, hb.trans hb2⟩
      case measure => simp [intOf]; omega
    · obtain rfl : k = n := by omega
      have hge : ¬ (k : Int) < (k : Int) := by omega
      have hcv := own_string (P := Try.prog) wr 70 9 5 Try.underlying70 Try.underlying5 Try.underlying9 hown
      go_wp2_with fail
      go_ret
      exact ⟨rfl, hb⟩

end Go.Proofs.Yticmopgpfplbnaa
