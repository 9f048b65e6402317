/-
  Check, of the program and of the reference.
-/
import Derived.Test.YtdjpnabkmanboaaRMake2
import Derived.Deep.RegionHeld3
namespace Go.Proofs.Ytdjpnabkmanboaa
open Go.RowKit
set_option linter.unusedVariables false
attribute [local go_sem ↓] Go.wp_at_zero Go.wp_at_succ

/-- Whether the bytes at E are the code of those from c to E. -/
def chkL (l : List UInt8) (E c : Nat) : Bool := codeL (l.take E) c == (l.take (E + 4)).drop E
theorem chk_eq (s : ByteArray) (E c : Nat) : ((⟨(codeL (s.data.toList.take E) c).toArray⟩ : ByteArray).toList == (s.extract E (E + 4)).toList) = chkL s.data.toList E c := by
  rw [Lib.toList_data, Lib.toList_data, sub_extract]
  rfl
theorem mode_nat {m : Int} (h : modeOk m = true) : ∃ E c : Nat, lData m + lCap m = (E : Int) ∧ lCov m = (c : Int) ∧ c ≤ 16 ∧ 2064 ≤ E ∧ E ≤ 2348 := by
  rcases modeOk_iff.1 h with rfl | rfl | rfl
  · exact ⟨2064, 0, rfl, rfl, by omega, by omega, by omega⟩
  · exact ⟨2072, 16, rfl, rfl, by omega, by omega, by omega⟩
  · exact ⟨2348, 16, rfl, rfl, by omega, by omega, by omega⟩

theorem keepC {w0 W w1 : World} {g : Nat} {a b c d : Value} (hb : Below W.heap.size W w1) (hS : W.cell? ⟨g, 0, none⟩ = some a ∧ W.cell? ⟨g, 1, none⟩ = some b ∧ W.cell? ⟨g, 2, none⟩ = some c ∧ W.cell? ⟨g, 3, none⟩ = some d ∧ g < W.heap.size ∧ Below w0.heap.size w0 W) :
    w1.cell? ⟨g, 0, none⟩ = some a ∧ w1.cell? ⟨g, 1, none⟩ = some b ∧ w1.cell? ⟨g, 2, none⟩ = some c ∧ w1.cell? ⟨g, 3, none⟩ = some d ∧ g < w1.heap.size ∧ Below w0.heap.size w0 w1 :=
  keepL hb hS.1 hS.2.1 hS.2.2.1 hS.2.2.2.1 hS.2.2.2.2.1 hS.2.2.2.2.2

set_option maxHeartbeats 4000000 in
theorem check_ok (s : ByteArray) (m : Int) (E c : Nat) (w : World) (hk : kindR s = (m, 0)) (hm : modeOk m = true) (hE : lData m + lCap m = (E : Int)) (hc : lCov m = (c : Int)) (h1 : c ≤ 16) (h2 : 2064 ≤ E) (h3 : E ≤ 2348) (hs : s.size = 2352) :
    Calls Try.prog 23 #[.string s] w fun e w' => e = .returned (.bool (chkL s.data.toList E c)) ∧ Below w.heap.size w w' := by
  have C0 : Hid (∀ w, Calls Try.prog 19 #[.string s] w fun e w' => e = .returned (.tuple #[.int .i64 m, .int .i64 0]) ∧ w = w') := by
    have := fun w => kind_any s w (by omega)
    rwa [hk] at this
  have C1 := Lib.hid (fun w => layouts_ok m w hm)
  have C2 := Lib.hid (fun w => ledc_any m w)
  rw [hE] at C2
  rw [layV, hc] at C1 C2
  have hz : (s.extract 0 E).size = E := by simp; omega
  have C3 : Hid (∀ w, Calls Try.prog 31 #[.string (s.extract 0 E), .int .i64 (c : Int)] w fun e w' => e = .returned (.string ⟨(codeL (s.data.toList.take E) c).toArray⟩) ∧ Below w.heap.size w w') := by
    have := fun w => code_any (s.extract 0 E) c w (by omega) (by omega)
    rwa [show (s.extract 0 E).data.toList = s.data.toList.take E by rw [sub_extract]; simp] at this
  have hres := chk_eq s E c
  generalize chkL s.data.toList E c = res at *
  generalize (⟨(codeL (s.data.toList.take E) c).toArray⟩ : ByteArray) = cd at *
  obtain ⟨F, hF⟩ : ∃ F : Nat, F = E + 4 := ⟨_, rfl⟩
  rw [← hF] at hres
  have e1 : IntKind.i64.wrap ((E : Int) + 4) = (F : Int) := by rw [IntWalk.i64_in _ (by omega)]; omega
  have e2 : ¬ (s.size : Int) < (E : Int) := by omega
  have e3 : (0 : Int) ≤ (E : Int) := by omega
  have e4 : (E : Int) ≤ (F : Int) := by omega
  have e5 : (F : Int) ≤ (s.size : Int) := by omega
  have e6 : (E : Int) ≤ (s.size : Int) := by omega
  have HRES := Lib.hid hres
  clear hres hF h1 h2 h3 hs
  generalize lData m = l1 at *
  generalize lCap m = l2 at *
  generalize lByte m = l0 at *
  clear hk hm hE hc hz
  go_enter Try.func23, Try.ntmps23
  go_wp2_with fail
  refine (C0.out _).mono ?_
  rintro e w' ⟨rfl, rfl⟩
  go_wp2_with fail
  refine (C1.out _).mono ?_
  rintro e w1 ⟨rfl, hb1⟩
  go_wp2_with fail
  have hB := hb1.alloc hb1.size (.cells #[.int .u8 l0, .int .i64 l1, .int .i64 l2, .int .i64 (c : Int)] 48)
  go_region_held3 (fun w' => w'.cell? ⟨w1.heap.size, 0, none⟩ = some (.int .u8 l0) ∧ w'.cell? ⟨w1.heap.size, 1, none⟩ = some (.int .i64 l1) ∧ w'.cell? ⟨w1.heap.size, 2, none⟩ = some (.int .i64 l2) ∧ w'.cell? ⟨w1.heap.size, 3, none⟩ = some (.int .i64 (c : Int)) ∧ w1.heap.size < w'.heap.size ∧ Below w.heap.size w w')
    (first | exact keepC (by assumption) (by first | assumption | exact ⟨by simp, by simp, by simp, by simp, by simp, hB.drew⟩) | exact keepL (by assumption) (by first | assumption | simp) (by first | assumption | simp) (by first | assumption | simp) (by first | assumption | simp) (by first | assumption | simp) (by first | assumption | exact hB.drew) | exact ⟨by simp, by simp, by simp, by simp, by simp, hB.drew⟩ | go_keep)
    (first
      | (go_at_call 39; refine (C2.out _).mono ?_; rintro e w2 ⟨rfl, hb2⟩)
      | (go_at_call 31; refine (C3.out _).mono ?_; rintro e w2 ⟨rfl, hb2⟩))
  all_goals
    go_split_ands
    go_wp2_with fail
    go_ret
    exact ⟨by rw [← HRES.out]; rfl, by assumption⟩

theorem belowC {w0 W w1 : World} (hb : Below W.heap.size W w1) (hB : Below w0.heap.size w0 W) : Below w0.heap.size w0 w1 := hB.trans (hb.mono hB.size)
theorem beq_comm (a b : ByteArray) : (a.toList == b.toList) = (b.toList == a.toList) := by
  rw [Bool.eq_iff_iff, beq_iff_eq, beq_iff_eq]
  exact eq_comm

set_option maxHeartbeats 4000000 in
theorem rcheck_ok (s : ByteArray) (m : Int) (E c : Nat) (w : World) (hk : kindR s = (m, 0)) (hm : modeOk m = true) (hE : lData m + lCap m = (E : Int)) (hc : lCov m = (c : Int)) (h1 : c ≤ 16) (h2 : 2064 ≤ E) (h3 : E ≤ 2348) (hs : s.size = 2352) :
    Calls Try.prog 24 #[.string s] w fun e w' => e = .returned (.bool (chkL s.data.toList E c)) ∧ Below w.heap.size w w' := by
  have C0 : Hid (∀ w, Calls Try.prog 20 #[.string s] w fun e w' => e = .returned (.tuple #[.int .i64 m, .int .i64 0]) ∧ w = w') := by
    have := fun w => rkind_any s w (by omega)
    rwa [hk] at this
  obtain ⟨n, hn⟩ : ∃ n : Nat, E = c + n := ⟨E - c, by omega⟩
  have C1 : Hid (∀ w, Calls Try.prog 18 #[.int .i64 m] w fun e w' => e = .returned (.tuple #[.int .i64 (c : Int), .int .i64 (n : Int), .int .i64 0]) ∧ w = w') := by
    have := fun w => rspan_any m w
    rwa [show spanV m = .tuple #[.int .i64 (c : Int), .int .i64 (n : Int), .int .i64 0] by unfold spanV; rw [if_pos hm, hE, hc, hn]; congr 5; omega] at this
  have C2 : Hid (∀ w, Calls Try.prog 35 #[.string s, .int .i64 m] w fun e w' => e = .returned (.string ⟨(codeL (s.data.toList.take E) c).toArray⟩) ∧ Below w.heap.size w w') := by
    have := fun w => rcode_any s m c n w hm hc (by rw [hE, hc]; omega) (by omega) (by omega)
    rwa [← hn] at this
  have hres := chk_eq s E c
  rw [beq_comm] at hres
  generalize chkL s.data.toList E c = res at *
  generalize (⟨(codeL (s.data.toList.take E) c).toArray⟩ : ByteArray) = cd at *
  obtain ⟨F, hF⟩ : ∃ F : Nat, F = E + 4 := ⟨_, rfl⟩
  rw [← hF] at hres
  have e0 : IntKind.i64.wrap ((c : Int) + (n : Int)) = (E : Int) := by rw [IntWalk.i64_in _ (by omega)]; omega
  have e1 : IntKind.i64.wrap ((E : Int) + 4) = (F : Int) := by rw [IntWalk.i64_in _ (by omega)]; omega
  have e3 : (0 : Int) ≤ (E : Int) := by omega
  have e4 : (E : Int) ≤ (F : Int) := by omega
  have e5 : (F : Int) ≤ (s.size : Int) := by omega
  have e6 : (E : Int) ≤ (s.size : Int) := by omega
  have HRES := Lib.hid hres
  clear hres hF h1 h2 h3 hs hk hm hE hc hn
  go_enter Try.func24, Try.ntmps24
  go_wp2_with fail
  refine (C0.out _).mono ?_
  rintro e w' ⟨rfl, rfl⟩
  go_wp2_with fail
  refine (C1.out _).mono ?_
  rintro e w' ⟨rfl, rfl⟩
  go_wp2_with fail
  go_region_held3 (fun w' => Below w.heap.size w w')
    (first | assumption | exact (Below.refl _ _).drew | exact belowC (by assumption) (by first | assumption | exact (Below.refl _ _).drew))
    ((go_at_call 35; refine (C2.out _).mono ?_; rintro e w2 ⟨rfl, hb2⟩))
  all_goals
    go_split_ands
    go_wp2_with fail
    go_ret
    exact ⟨by rw [← HRES.out]; rfl, by assumption⟩

/-- What Check answers. -/
def chkB (s : ByteArray) : Bool := if (kindR s).2 = 0 then chkL s.data.toList (lData (kindR s).1 + lCap (kindR s).1).toNat (lCov (kindR s).1).toNat else false
theorem kindR_ok {s : ByteArray} (h : (kindR s).2 = 0) : s.size = 2352 ∧ modeOk (kindR s).1 = true := by
  unfold kindR at h ⊢
  by_cases hs : s.size = 2352
  · rw [dif_pos hs] at h ⊢
    refine ⟨hs, ?_⟩
    by_cases h1 : (s[15]'(by omega)).toNat = 1
    · rw [if_pos h1]; rfl
    · rw [if_neg h1] at h ⊢
      by_cases h2 : (s[15]'(by omega)).toNat ≠ 2
      · rw [if_pos h2] at h
        simp at h
      · rw [if_neg h2]
        by_cases h3 : (s[18]'(by omega)).toNat / 32 % 2 = 1
        · rw [if_pos h3]; rfl
        · rw [if_neg h3]; rfl
  · rw [dif_neg hs] at h
    simp at h
theorem kindR_no {s : ByteArray} (h : (kindR s).2 ≠ 0) : (kindR s).1 = 0 ∧ ((kindR s).2 = 1 ∨ (kindR s).2 = 10) := by
  unfold kindR at h ⊢
  by_cases hs : s.size = 2352
  · rw [dif_pos hs] at h ⊢
    by_cases h1 : (s[15]'(by omega)).toNat = 1
    · rw [if_pos h1] at h
      simp at h
    · rw [if_neg h1] at h ⊢
      by_cases h2 : (s[15]'(by omega)).toNat ≠ 2
      · rw [if_pos h2]
        simp
      · rw [if_neg h2] at h
        by_cases h3 : (s[18]'(by omega)).toNat / 32 % 2 = 1
        · rw [if_pos h3] at h; simp at h
        · rw [if_neg h3] at h; simp at h
  · rw [dif_neg hs]
    simp

theorem check_any (s : ByteArray) (w : World) (hs : s.size ≤ 140737488351232) :
    Calls Try.prog 23 #[.string s] w fun e w' => e = .returned (.bool (chkB s)) ∧ Below w.heap.size w w' := by
  by_cases h : (kindR s).2 = 0
  · obtain ⟨hz, hm⟩ := kindR_ok h
    obtain ⟨E, c, hE, hc, h1, h2, h3⟩ := mode_nat hm
    have := check_ok s (kindR s).1 E c w (by rw [← h]) hm hE hc h1 h2 h3 hz
    unfold chkB
    rw [if_pos h, hE, hc]
    exact this
  · have C0 := Lib.hid (fun w => kind_any s w hs)
    have HR := Lib.hid (show chkB s = false from if_neg h)
    have h0 : ((kindR s).2 != 0) = true := by simpa using h
    generalize kindR s = k at *
    obtain ⟨k1, k2⟩ := k
    dsimp only at *
    clear h
    go_enter Try.func23, Try.ntmps23
    go_wp2_with fail
    refine (C0.out _).mono ?_
    rintro e w' ⟨rfl, rfl⟩
    go_wp2_with fail
    go_ret
    exact ⟨by rw [HR.out]; rfl, Below.refl _ _⟩
theorem rcheck_any (s : ByteArray) (w : World) (hs : s.size ≤ 140737488351232) :
    Calls Try.prog 24 #[.string s] w fun e w' => e = .returned (.bool (chkB s)) ∧ Below w.heap.size w w' := by
  by_cases h : (kindR s).2 = 0
  · obtain ⟨hz, hm⟩ := kindR_ok h
    obtain ⟨E, c, hE, hc, h1, h2, h3⟩ := mode_nat hm
    have := rcheck_ok s (kindR s).1 E c w (by rw [← h]) hm hE hc h1 h2 h3 hz
    unfold chkB
    rw [if_pos h, hE, hc]
    exact this
  · have C0 := Lib.hid (fun w => rkind_any s w hs)
    have HR := Lib.hid (show chkB s = false from if_neg h)
    have h0 : ((kindR s).2 != 0) = true := by simpa using h
    generalize kindR s = k at *
    obtain ⟨k1, k2⟩ := k
    dsimp only at *
    clear h
    go_enter Try.func24, Try.ntmps24
    go_wp2_with fail
    refine (C0.out _).mono ?_
    rintro e w' ⟨rfl, rfl⟩
    go_wp2_with fail
    go_ret
    exact ⟨by rw [HR.out]; rfl, Below.refl _ _⟩
end Go.Proofs.Ytdjpnabkmanboaa
