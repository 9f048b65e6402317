/-
  The walks of the reference's addresses: ToMSF, ToLBA, Encode, Decode.
-/
import Derived.Test.YtdjpnabkmanboaaDec
namespace Go.Proofs.Ytdjpnabkmanboaa
open Go.RowKit
set_option linter.unusedVariables false

set_option maxHeartbeats 1000000 in
theorem rvalid_any (m s f : Int) (w : World) :
    Calls Try.prog 57 #[msfV m s f] w fun e w' => e = .returned (.bool (msfOk m s f)) ∧ Below w.heap.size w w' := by
  by_cases h : msfOk m s f = true
  · rw [h]
    obtain ⟨h0, h1, h2, h3, h4, h5⟩ := msfOk_iff.1 h
    rw [msfV]
    clear h
    go_enter Try.func57, Try.ntmps57
    go_wp2_with fail
    go_ret
    exact ⟨ret_bool (decide_eq_true (by omega)), (Below.refl _ _).alloc (Nat.le_refl _) _⟩
  · have hf : msfOk m s f = false := by simpa using h
    rw [hf]
    have hn : m < 0 ∨ (0 ≤ m ∧ 100 ≤ m) ∨ (0 ≤ m ∧ m < 100 ∧ s < 0) ∨ (0 ≤ m ∧ m < 100 ∧ 0 ≤ s ∧ 60 ≤ s) ∨ (0 ≤ m ∧ m < 100 ∧ 0 ≤ s ∧ s < 60 ∧ f < 0) ∨ (0 ≤ m ∧ m < 100 ∧ 0 ≤ s ∧ s < 60 ∧ 0 ≤ f ∧ 75 ≤ f) := by
      have := mt msfOk_iff.2 h
      omega
    rw [msfV]
    clear h hf
    rcases hn with h0 | ⟨h0, h1⟩ | ⟨h0, h1, h2⟩ | ⟨h0, h1, h2, h3⟩ | ⟨h0, h1, h2, h3, h4⟩ | ⟨h0, h1, h2, h3, h4, h5⟩
    all_goals
      go_enter Try.func57, Try.ntmps57
      go_wp2_with fail
      go_ret
      first
      | exact ⟨rfl, (Below.refl _ _).alloc (Nat.le_refl _) _⟩
      | exact ⟨ret_bool (decide_eq_false (by omega)), (Below.refl _ _).alloc (Nat.le_refl _) _⟩

theorem rnumber_any (m s f : Int) (w : World) (h : msfOk m s f = true) :
    Calls Try.prog 65 #[msfV m s f] w fun e w' => e = .returned (.int .i64 ((60 * m + s) * 75 + f)) ∧ Below w.heap.size w w' := by
  obtain ⟨h0, h1, h2, h3, h4, h5⟩ := msfOk_iff.1 h
  rw [msfV]
  go_enter Try.func65, Try.ntmps65
  go_wp2_with fail
  go_ret
  exact ⟨rfl, (Below.refl _ _).alloc (Nat.le_refl _) _⟩
theorem rtolba_any (m s f : Int) (w : World) (h : msfOk m s f = true) :
    Calls Try.prog 43 #[msfV m s f] w fun e w' => e = .returned (.tuple #[.int .i64 ((60 * m + s) * 75 + f - 150), .int .i64 0]) ∧ Below w.heap.size w w' := by
  have C1 : Hid (∀ w, Calls Try.prog 57 #[msfV m s f] w fun e w' => e = .returned (.bool true) ∧ Below w.heap.size w w') := by
    have := rvalid_any m s f
    rwa [h] at this
  have C2 := Lib.hid (fun w => rnumber_any m s f w h)
  obtain ⟨h0, h1, h2, h3, h4, h5⟩ := msfOk_iff.1 h
  rw [msfV] at *
  go_enter Try.func43, Try.ntmps43
  go_wp2_with fail
  refine (C1.out _).mono ?_
  rintro e w1 ⟨rfl, hb1⟩
  obtain ⟨d0, d1, d2⟩ := keep3 hb1 (g := w.heap.size) (a := .int .i64 m) (b := .int .i64 s) (c := .int .i64 f) (by simp) (by simp) (by simp) (by simp)
  go_wp2_with fail
  refine (C2.out _).mono ?_
  rintro e w2 ⟨rfl, hb2⟩
  go_wp2_with fail
  go_ret2
  have b1 : Below w.heap.size w w1 := ((Below.refl _ _).alloc (Nat.le_refl _) _).trans (hb1.mono (by simp))
  exact ⟨rfl, b1.trans (hb2.mono b1.size)⟩

/-- The address of a number of a disc. -/
def msfN (n : Int) : Value := msfV (n / 75 / 60) (n / 75 % 60) (n % 75)
theorem msfN_ok {n : Int} (h0 : 0 ≤ n) (h1 : n ≤ 449999) : msfOk (n / 75 / 60) (n / 75 % 60) (n % 75) = true := msfOk_iff.2 (by omega)

theorem rtomsf_ok (n : Int) (w : World) (h0 : -150 ≤ n) (h1 : n ≤ 449849) :
    Calls Try.prog 32 #[.int .i64 n] w fun e w' => e = .returned (.tuple #[msfV ((n + 150) / 75 / 60) ((n + 150) / 75 % 60) ((n + 150) % 75), .int .i64 0]) ∧ Below w.heap.size w w' := by
  have e : (n + 150) / 4500 = (n + 150) / 75 / 60 := by omega
  rw [← e]
  clear e
  go_enter Try.func32, Try.ntmps32
  go_wp2_with fail
  exact bodyPost_ret (v := .tuple #[.agg #[.int .i64 ((n + 150) / 4500), .int .i64 ((n + 150) / 75 % 60), .int .i64 ((n + 150) % 75)], .int .i64 0]) (by simp [results, Try.results32, go_sem]) rfl ⟨rfl, (Below.refl _ _).alloc (Nat.le_refl _) _⟩

theorem bytes3 (w : World) (x y z : Int) (hx : 0 ≤ x) (hx' : x < 256) (hy : 0 ≤ y) (hy' : y < 256) (hz : 0 ≤ z) (hz' : z < 256) :
    (convert 42 9 (.slice (some ⟨w.heap.size, 0, none⟩) 3 3)).run Try.prog (w.alloc (.cells #[.int .u8 x, .int .u8 y, .int .u8 z] 5)) = .ok (.string ⟨#[UInt8.ofNat x.toNat, UInt8.ofNat y.toNat, UInt8.ofNat z.toNat]⟩) (w.alloc (.cells #[.int .u8 x, .int .u8 y, .int .u8 z] 5)) := by
  have hown : (w.alloc (.cells #[.int .u8 x, .int .u8 y, .int .u8 z] 5)).ownsRow w.heap.size 5 1 (.slice (some ⟨w.heap.size, 0, none⟩) 3 3) 3 ([UInt8.ofNat x.toNat, UInt8.ofNat y.toNat, UInt8.ofNat z.toNat].map byteV) := by
    refine ⟨rfl, .inr ⟨w.heap.size, 3, _, rfl, Nat.le_refl _, heap_alloc_new w _, Nat.le_refl _, by unfold maxLen; omega, rfl, ?_⟩⟩
    simp [byteV]
    omega
  exact own_string _ _ _ _ Try.underlying42 Try.underlying5 Try.underlying9 hown
theorem bcdV_bd {n : Int} (h0 : 0 ≤ n) (h1 : n < 100) : 0 ≤ bcdV n ∧ bcdV n < 256 := by
  rw [bcdV_ok h0 (by omega)]
  omega

set_option maxHeartbeats 1000000 in
theorem rencode_any (m s f : Int) (w : World) (h : msfOk m s f = true) :
    Calls Try.prog 33 #[msfV m s f] w fun e w' => e = .returned (.tuple #[.string ⟨(msfBs m s f).toArray⟩, .int .i64 0]) ∧ Below w.heap.size w w' := by
  have C1 : Hid (∀ w, Calls Try.prog 57 #[msfV m s f] w fun e w' => e = .returned (.bool true) ∧ Below w.heap.size w w') := by
    have := rvalid_any m s f
    rwa [h] at this
  obtain ⟨h0, h1, h2, h3, h4, h5⟩ := msfOk_iff.1 h
  obtain ⟨m0, m1⟩ := bcdV_bd h0 h1
  obtain ⟨s0, s1⟩ := bcdV_bd h2 (show s < 100 by omega)
  obtain ⟨f0, f1⟩ := bcdV_bd h4 (show f < 100 by omega)
  rw [msfV] at *
  clear h
  go_enter Try.func33, Try.ntmps33
  go_wp2_with fail
  refine (C1.out _).mono ?_
  rintro e w1 ⟨rfl, hb1⟩
  obtain ⟨d0, d1, d2⟩ := keep3 hb1 (g := w.heap.size) (a := .int .i64 m) (b := .int .i64 s) (c := .int .i64 f) (by simp) (by simp) (by simp) (by simp)
  have b1 : Below w.heap.size w w1 := ((Below.refl _ _).alloc (Nat.le_refl _) _).trans (hb1.mono (by simp))
  have hcv := bytes3 w1 (bcdV m) (bcdV s) (bcdV f) m0 m1 s0 s1 f0 f1
  go_wp2_with fail
  refine (rbcd_any m _).mono ?_
  rintro e w' ⟨rfl, rfl⟩
  go_wp2_with fail
  refine (rbcd_any s _).mono ?_
  rintro e w' ⟨rfl, rfl⟩
  go_wp2_with fail
  refine (rbcd_any f _).mono ?_
  rintro e w' ⟨rfl, rfl⟩
  go_wp2_with fail
  go_ret2
  exact ⟨rfl, b1.alloc b1.size _⟩

set_option maxHeartbeats 2000000 in
theorem rdecode_any (s : ByteArray) (at_ : Nat) (w : World) (h : at_ + 3 ≤ s.size) (hs : s.size ≤ 140737488351232) (b0 b1 b2 : Int) (e0 : ((s[at_]'(by omega)).toNat : Int) = b0) (e1 : ((s[at_ + 1]'(by omega)).toNat : Int) = b1) (e2 : ((s[at_ + 2]'(by omega)).toNat : Int) = b2) :
    Calls Try.prog 42 #[.string s, .int .i64 (at_ : Int)] w fun e w' => e = .returned (decR b0 b1 b2) ∧ Below w.heap.size w w' := by
  have p0 : 0 ≤ b0 := by omega
  have p1 : 0 ≤ b1 := by omega
  have p2 : 0 ≤ b2 := by omega
  have q0 : b0 ≤ 255 := by have := (s[at_]'(by omega)).toNat_lt; omega
  have q1 : b1 ≤ 255 := by have := (s[at_ + 1]'(by omega)).toNat_lt; omega
  have q2 : b2 ≤ 255 := by have := (s[at_ + 2]'(by omega)).toNat_lt; omega
  have h0 : (0 : Int) ≤ (at_ : Int) := by omega
  have h1 : ¬ ((s.size : Int) < (at_ : Int)) := by omega
  have h2 : ¬ ((s.size : Int) - (at_ : Int) < 3) := by omega
  have l0 : at_ < s.size := by omega
  have l1 : at_ + 1 < s.size := by omega
  have l2 : at_ + 2 < s.size := by omega
  have HV := Lib.hid (fun a b c w => rvalid_any a b c w)
  by_cases u0 : unOk b0
  · by_cases u1 : unOk b1
    · by_cases u2 : unOk b2
      · by_cases hm : msfOk (unV b0) (unV b1) (unV b2) = true
        · have C1 : Hid (∀ w, Calls Try.prog 64 #[.int .u8 b0] w fun e w' => e = .returned (.tuple #[.int .i64 (unV b0), .int .i64 0]) ∧ w = w') := by
            have := fun w => rfrombcd_any b0 w p0 q0
            rwa [show unE b0 = 0 from if_pos u0] at this
          have C2 : Hid (∀ w, Calls Try.prog 64 #[.int .u8 b1] w fun e w' => e = .returned (.tuple #[.int .i64 (unV b1), .int .i64 0]) ∧ w = w') := by
            have := fun w => rfrombcd_any b1 w p1 q1
            rwa [show unE b1 = 0 from if_pos u1] at this
          have C3 : Hid (∀ w, Calls Try.prog 64 #[.int .u8 b2] w fun e w' => e = .returned (.tuple #[.int .i64 (unV b2), .int .i64 0]) ∧ w = w') := by
            have := fun w => rfrombcd_any b2 w p2 q2
            rwa [show unE b2 = 0 from if_pos u2] at this
          have HR := Lib.hid (decR_ok (b0 := b0) (b1 := b1) (b2 := b2) ⟨u0, u1, u2, hm⟩)
          have CV := Lib.hid (fun w => HV.out (unV b0) (unV b1) (unV b2) w)
          rw [hm] at CV
          clear hm u0 u1 u2
          generalize unV b0 = x0 at *
          generalize unV b1 = x1 at *
          generalize unV b2 = x2 at *
          rw [msfV] at CV HR
          go_enter Try.func42, Try.ntmps42
          go_wp2_with fail
          refine (C1.out _).mono ?_
          rintro e w' ⟨rfl, rfl⟩
          go_wp2_with fail
          refine (C2.out _).mono ?_
          rintro e w' ⟨rfl, rfl⟩
          go_wp2_with fail
          refine (C3.out _).mono ?_
          rintro e w' ⟨rfl, rfl⟩
          go_wp2_with fail
          refine (CV.out _).mono ?_
          rintro e w2 ⟨rfl, hb2⟩
          obtain ⟨z0, z1, z2⟩ := keep3 hb2 (g := w.heap.size) (a := .int .i64 0) (b := .int .i64 0) (c := .int .i64 0) (by simp; omega) (by simp) (by simp) (by simp)
          obtain ⟨y0, y1, y2⟩ := free3 hb2 (g := w.heap.size) (by simp; omega) (by simp) (by simp) (by simp)
          obtain ⟨v0, v1, v2⟩ := keep3 hb2 (g := w.heap.size + 1) (a := .int .i64 x0) (b := .int .i64 x1) (c := .int .i64 x2) (by simp) (by simp) (by simp) (by simp)
          have hs2 : w.heap.size < w2.heap.size := by have := hb2.size; simp at this; omega
          have b2' : Below w.heap.size w w2 := (((Below.refl _ _).alloc (Nat.le_refl _) _).alloc (by simp) _).trans (hb2.mono (by simp; omega))
          go_wp2_with fail
          refine bodyPost_ret (v := .tuple #[.agg #[.int .i64 x0, .int .i64 x1, .int .i64 x2], .int .i64 0]) (by simp [results, Try.results42, go_sem, z0, z1, z2]) rfl ⟨by rw [HR.out], ?_⟩
          exact ((b2'.setCell (p := ⟨w.heap.size, 0, none⟩) (Nat.le_refl _) _).setCell (p := ⟨w.heap.size, 1, none⟩) (Nat.le_refl _) _).setCell (p := ⟨w.heap.size, 2, none⟩) (Nat.le_refl _) _
        · have C1 : Hid (∀ w, Calls Try.prog 64 #[.int .u8 b0] w fun e w' => e = .returned (.tuple #[.int .i64 (unV b0), .int .i64 0]) ∧ w = w') := by
            have := fun w => rfrombcd_any b0 w p0 q0
            rwa [show unE b0 = 0 from if_pos u0] at this
          have C2 : Hid (∀ w, Calls Try.prog 64 #[.int .u8 b1] w fun e w' => e = .returned (.tuple #[.int .i64 (unV b1), .int .i64 0]) ∧ w = w') := by
            have := fun w => rfrombcd_any b1 w p1 q1
            rwa [show unE b1 = 0 from if_pos u1] at this
          have C3 : Hid (∀ w, Calls Try.prog 64 #[.int .u8 b2] w fun e w' => e = .returned (.tuple #[.int .i64 (unV b2), .int .i64 0]) ∧ w = w') := by
            have := fun w => rfrombcd_any b2 w p2 q2
            rwa [show unE b2 = 0 from if_pos u2] at this
          have HR := Lib.hid (decR_no (b0 := b0) (b1 := b1) (b2 := b2) (fun h => hm h.2.2.2))
          have CV := Lib.hid (fun w => HV.out (unV b0) (unV b1) (unV b2) w)
          rw [show msfOk (unV b0) (unV b1) (unV b2) = false by simpa using hm] at CV
          clear hm u0 u1 u2
          generalize unV b0 = x0 at *
          generalize unV b1 = x1 at *
          generalize unV b2 = x2 at *
          rw [msfV] at CV HR
          go_enter Try.func42, Try.ntmps42
          go_wp2_with fail
          refine (C1.out _).mono ?_
          rintro e w' ⟨rfl, rfl⟩
          go_wp2_with fail
          refine (C2.out _).mono ?_
          rintro e w' ⟨rfl, rfl⟩
          go_wp2_with fail
          refine (C3.out _).mono ?_
          rintro e w' ⟨rfl, rfl⟩
          go_wp2_with fail
          refine (CV.out _).mono ?_
          rintro e w2 ⟨rfl, hb2⟩
          obtain ⟨z0, z1, z2⟩ := keep3 hb2 (g := w.heap.size) (a := .int .i64 0) (b := .int .i64 0) (c := .int .i64 0) (by simp; omega) (by simp) (by simp) (by simp)
          obtain ⟨y0, y1, y2⟩ := free3 hb2 (g := w.heap.size) (by simp; omega) (by simp) (by simp) (by simp)
          have hs2 : w.heap.size < w2.heap.size := by have := hb2.size; simp at this; omega
          have b2' : Below w.heap.size w w2 := (((Below.refl _ _).alloc (Nat.le_refl _) _).alloc (by simp) _).trans (hb2.mono (by simp; omega))
          go_wp2_with fail
          refine bodyPost_ret (v := .tuple #[.agg #[.int .i64 0, .int .i64 0, .int .i64 0], .int .i64 10]) (by simp [results, Try.results42, go_sem, z0, z1, z2]) rfl ⟨by rw [HR.out], ?_⟩
          exact ((b2'.setCell (p := ⟨w.heap.size, 0, none⟩) (Nat.le_refl _) _).setCell (p := ⟨w.heap.size, 1, none⟩) (Nat.le_refl _) _).setCell (p := ⟨w.heap.size, 2, none⟩) (Nat.le_refl _) _
      · have C1 : Hid (∀ w, Calls Try.prog 64 #[.int .u8 b0] w fun e w' => e = .returned (.tuple #[.int .i64 (unV b0), .int .i64 0]) ∧ w = w') := by
          have := fun w => rfrombcd_any b0 w p0 q0
          rwa [show unE b0 = 0 from if_pos u0] at this
        have C2 : Hid (∀ w, Calls Try.prog 64 #[.int .u8 b1] w fun e w' => e = .returned (.tuple #[.int .i64 (unV b1), .int .i64 0]) ∧ w = w') := by
          have := fun w => rfrombcd_any b1 w p1 q1
          rwa [show unE b1 = 0 from if_pos u1] at this
        have C3 : Hid (∀ w, Calls Try.prog 64 #[.int .u8 b2] w fun e w' => e = .returned (.tuple #[.int .i64 (unV b2), .int .i64 2]) ∧ w = w') := by
          have := fun w => rfrombcd_any b2 w p2 q2
          rwa [show unE b2 = 2 from if_neg u2] at this
        have HR := Lib.hid (decR_no (b0 := b0) (b1 := b1) (b2 := b2) (fun h => u2 h.2.2.1))
        go_enter Try.func42, Try.ntmps42
        go_wp2_with fail
        refine (C1.out _).mono ?_
        rintro e w' ⟨rfl, rfl⟩
        go_wp2_with fail
        refine (C2.out _).mono ?_
        rintro e w' ⟨rfl, rfl⟩
        go_wp2_with fail
        refine (C3.out _).mono ?_
        rintro e w' ⟨rfl, rfl⟩
        go_wp2_with fail
        exact bodyPost_ret (v := .tuple #[.agg #[.int .i64 0, .int .i64 0, .int .i64 0], .int .i64 10]) (by simp [results, Try.results42, go_sem]) rfl ⟨by rw [HR.out]; rfl, ((Below.refl _ _).alloc (Nat.le_refl _) _).alloc (by simp) _⟩
    · have C1 : Hid (∀ w, Calls Try.prog 64 #[.int .u8 b0] w fun e w' => e = .returned (.tuple #[.int .i64 (unV b0), .int .i64 0]) ∧ w = w') := by
        have := fun w => rfrombcd_any b0 w p0 q0
        rwa [show unE b0 = 0 from if_pos u0] at this
      have C2 : Hid (∀ w, Calls Try.prog 64 #[.int .u8 b1] w fun e w' => e = .returned (.tuple #[.int .i64 (unV b1), .int .i64 2]) ∧ w = w') := by
        have := fun w => rfrombcd_any b1 w p1 q1
        rwa [show unE b1 = 2 from if_neg u1] at this
      have C3 := Lib.hid (fun w => rfrombcd_any b2 w p2 q2)
      have HR := Lib.hid (decR_no (b0 := b0) (b1 := b1) (b2 := b2) (fun h => u1 h.2.1))
      go_enter Try.func42, Try.ntmps42
      go_wp2_with fail
      refine (C1.out _).mono ?_
      rintro e w' ⟨rfl, rfl⟩
      go_wp2_with fail
      refine (C2.out _).mono ?_
      rintro e w' ⟨rfl, rfl⟩
      go_wp2_with fail
      refine (C3.out _).mono ?_
      rintro e w' ⟨rfl, rfl⟩
      go_wp2_with fail
      exact bodyPost_ret (v := .tuple #[.agg #[.int .i64 0, .int .i64 0, .int .i64 0], .int .i64 10]) (by simp [results, Try.results42, go_sem]) rfl ⟨by rw [HR.out]; rfl, ((Below.refl _ _).alloc (Nat.le_refl _) _).alloc (by simp) _⟩
  · have C1 : Hid (∀ w, Calls Try.prog 64 #[.int .u8 b0] w fun e w' => e = .returned (.tuple #[.int .i64 (unV b0), .int .i64 2]) ∧ w = w') := by
      have := fun w => rfrombcd_any b0 w p0 q0
      rwa [show unE b0 = 2 from if_neg u0] at this
    have C2 := Lib.hid (fun w => rfrombcd_any b1 w p1 q1)
    have C3 := Lib.hid (fun w => rfrombcd_any b2 w p2 q2)
    have HR := Lib.hid (decR_no (b0 := b0) (b1 := b1) (b2 := b2) (fun h => u0 h.1))
    go_enter Try.func42, Try.ntmps42
    go_wp2_with fail
    refine (C1.out _).mono ?_
    rintro e w' ⟨rfl, rfl⟩
    go_wp2_with fail
    refine (C2.out _).mono ?_
    rintro e w' ⟨rfl, rfl⟩
    go_wp2_with fail
    refine (C3.out _).mono ?_
    rintro e w' ⟨rfl, rfl⟩
    go_wp2_with fail
    exact bodyPost_ret (v := .tuple #[.agg #[.int .i64 0, .int .i64 0, .int .i64 0], .int .i64 10]) (by simp [results, Try.results42, go_sem]) rfl ⟨by rw [HR.out]; rfl, ((Below.refl _ _).alloc (Nat.le_refl _) _).alloc (by simp) _⟩
end Go.Proofs.Ytdjpnabkmanboaa
