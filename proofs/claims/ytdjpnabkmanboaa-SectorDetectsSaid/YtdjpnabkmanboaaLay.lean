/-
  The layouts of the modes: layouts, edc, Capacity, Span, between, octet, of the program and of the reference.
-/
import Derived.Test.YtdjpnabkmanboaaRAddr
import Derived.Deep.RegionHeld3
import Derived.Deep.DrawnRows
namespace Go.Proofs.Ytdjpnabkmanboaa
open Go.RowKit
set_option linter.unusedVariables false
attribute [local go_sem ↓] Go.wp_at_zero Go.wp_at_succ

def modeOk (m : Int) : Bool := decide (m = 0 ∨ m = 1 ∨ m = 2)
theorem modeOk_iff {m : Int} : modeOk m = true ↔ m = 0 ∨ m = 1 ∨ m = 2 := decide_eq_true_iff
def lByte (m : Int) : Int := if m = 0 then 1 else 2
def lData (m : Int) : Int := if m = 0 then 16 else 24
def lCap (m : Int) : Int := if m = 2 then 2324 else 2048
def lCov (m : Int) : Int := if m = 0 then 0 else 16
def layV (m : Int) : Value := .agg #[.int .u8 (lByte m), .int .i64 (lData m), .int .i64 (lCap m), .int .i64 (lCov m)]

set_option maxHeartbeats 1000000 in
theorem layouts_ok (m : Int) (w : World) (h : modeOk m = true) :
    Calls Try.prog 26 #[.int .i64 m] w fun e w' => e = .returned (.tuple #[layV m, .bool true]) ∧ Below w.heap.size w w' := by
  rcases modeOk_iff.1 h with rfl | rfl | rfl
  · go_enter Try.func26, Try.ntmps26
    go_wp2_with fail
    exact bodyPost_ret (v := .tuple #[.agg #[.int .u8 1, .int .i64 16, .int .i64 2048, .int .i64 0], .bool true]) (by simp [results, Try.results26, go_sem]) rfl ⟨rfl, ((Below.refl _ _).alloc (Nat.le_refl _) _).alloc (by simp) _⟩
  · go_enter Try.func26, Try.ntmps26
    go_wp2_with fail
    exact bodyPost_ret (v := .tuple #[.agg #[.int .u8 2, .int .i64 24, .int .i64 2048, .int .i64 16], .bool true]) (by simp [results, Try.results26, go_sem]) rfl ⟨rfl, ((Below.refl _ _).alloc (Nat.le_refl _) _).alloc (by simp) _⟩
  · go_enter Try.func26, Try.ntmps26
    go_wp2_with fail
    exact bodyPost_ret (v := .tuple #[.agg #[.int .u8 2, .int .i64 24, .int .i64 2324, .int .i64 16], .bool true]) (by simp [results, Try.results26, go_sem]) rfl ⟨rfl, ((Below.refl _ _).alloc (Nat.le_refl _) _).alloc (by simp) _⟩
theorem layouts_no (m : Int) (w : World) (h : modeOk m = false) :
    Calls Try.prog 26 #[.int .i64 m] w fun e w' => e = .returned (.tuple #[.agg #[.int .u8 0, .int .i64 0, .int .i64 0, .int .i64 0], .bool false]) ∧ Below w.heap.size w w' := by
  have h' : ¬ (m = 0 ∨ m = 1 ∨ m = 2) := fun hh => by rw [modeOk_iff.2 hh] at h; cases h
  clear h
  by_cases h0 : m < 0
  all_goals
    (first | (have h1 : 3 ≤ m := by omega) | skip)
    clear h'
    go_enter Try.func26, Try.ntmps26
    go_wp2_with fail
    exact bodyPost_ret (v := .tuple #[.agg #[.int .u8 0, .int .i64 0, .int .i64 0, .int .i64 0], .bool false]) (by simp [results, Try.results26, go_sem]) rfl ⟨rfl, ((Below.refl _ _).alloc (Nat.le_refl _) _).alloc (by simp) _⟩
theorem ledc_any (m : Int) (w : World) :
    Calls Try.prog 39 #[layV m] w fun e w' => e = .returned (.int .i64 (lData m + lCap m)) ∧ Below w.heap.size w w' := by
  have h1 : 0 ≤ lData m ∧ lData m ≤ 24 := by unfold lData; split <;> omega
  have h2 : 0 ≤ lCap m ∧ lCap m ≤ 2324 := by unfold lCap; split <;> omega
  obtain ⟨h1, h1'⟩ := h1
  obtain ⟨h2, h2'⟩ := h2
  rw [layV]
  generalize lData m = a at *
  generalize lCap m = b at *
  generalize lByte m = c at *
  generalize lCov m = d at *
  go_enter Try.func39, Try.ntmps39
  go_wp2_with fail
  go_ret
  exact ⟨rfl, (Below.refl _ _).alloc (Nat.le_refl _) _⟩

theorem keep4 {B : Nat} {W w1 : World} (hb : Below B W w1) {g : Nat} (hg : g < B) {a b c d : Value} (h0 : W.cell? ⟨g, 0, none⟩ = some a) (h1 : W.cell? ⟨g, 1, none⟩ = some b) (h2 : W.cell? ⟨g, 2, none⟩ = some c) (h3 : W.cell? ⟨g, 3, none⟩ = some d) :
    w1.cell? ⟨g, 0, none⟩ = some a ∧ w1.cell? ⟨g, 1, none⟩ = some b ∧ w1.cell? ⟨g, 2, none⟩ = some c ∧ w1.cell? ⟨g, 3, none⟩ = some d :=
  ⟨(hb.cell (p := ⟨g, 0, none⟩) hg).trans h0, (hb.cell (p := ⟨g, 1, none⟩) hg).trans h1, (hb.cell (p := ⟨g, 2, none⟩) hg).trans h2, (hb.cell (p := ⟨g, 3, none⟩) hg).trans h3⟩

theorem keepL {w0 W w1 : World} {g : Nat} {a b c d : Value} (hb : Below W.heap.size W w1) (h0 : W.cell? ⟨g, 0, none⟩ = some a) (h1 : W.cell? ⟨g, 1, none⟩ = some b) (h2 : W.cell? ⟨g, 2, none⟩ = some c) (h3 : W.cell? ⟨g, 3, none⟩ = some d) (hg : g < W.heap.size) (hB : Below w0.heap.size w0 W) :
    w1.cell? ⟨g, 0, none⟩ = some a ∧ w1.cell? ⟨g, 1, none⟩ = some b ∧ w1.cell? ⟨g, 2, none⟩ = some c ∧ w1.cell? ⟨g, 3, none⟩ = some d ∧ g < w1.heap.size ∧ Below w0.heap.size w0 w1 :=
  ⟨(hb.cell (p := ⟨g, 0, none⟩) hg).trans h0, (hb.cell (p := ⟨g, 1, none⟩) hg).trans h1, (hb.cell (p := ⟨g, 2, none⟩) hg).trans h2, (hb.cell (p := ⟨g, 3, none⟩) hg).trans h3, Nat.lt_of_lt_of_le hg hb.size, hB.trans (hb.mono hB.size)⟩

def capV (m : Int) : Value := if modeOk m then .tuple #[.int .i64 (lCap m), .int .i64 0] else .tuple #[.int .i64 0, .int .i64 1]
def spanV (m : Int) : Value := if modeOk m then .tuple #[.int .i64 (lCov m), .int .i64 (lData m + lCap m - lCov m), .int .i64 0] else .tuple #[.int .i64 0, .int .i64 0, .int .i64 1]

set_option maxHeartbeats 1000000 in
theorem capacity_any (m : Int) (w : World) :
    Calls Try.prog 15 #[.int .i64 m] w fun e w' => e = .returned (capV m) ∧ Below w.heap.size w w' := by
  by_cases h : modeOk m = true
  · have C := Lib.hid (fun w => layouts_ok m w h)
    have HR := Lib.hid (show capV m = .tuple #[.int .i64 (lCap m), .int .i64 0] from if_pos h)
    rw [layV] at C
    generalize lData m = a at *
    generalize lCap m = b at *
    generalize lByte m = c at *
    generalize lCov m = d at *
    clear h
    go_enter Try.func15, Try.ntmps15
    go_wp2_with fail
    refine (C.out _).mono ?_
    rintro e w1 ⟨rfl, hb1⟩
    go_wp2_with fail
    go_ret2
    exact ⟨by rw [HR.out]; rfl, hb1.alloc hb1.size _⟩
  · have C := Lib.hid (fun w => layouts_no m w (by simpa using h))
    have HR := Lib.hid (show capV m = .tuple #[.int .i64 0, .int .i64 1] from if_neg h)
    clear h
    go_enter Try.func15, Try.ntmps15
    go_wp2_with fail
    refine (C.out _).mono ?_
    rintro e w1 ⟨rfl, hb1⟩
    go_wp2_with fail
    go_ret2
    exact ⟨by rw [HR.out]; rfl, hb1.alloc hb1.size _⟩
theorem rcapacity_any (m : Int) (w : World) :
    Calls Try.prog 16 #[.int .i64 m] w fun e w' => e = .returned (capV m) ∧ w = w' := by
  by_cases h : modeOk m = true
  · rcases modeOk_iff.1 h with rfl | rfl | rfl
    all_goals
      go_enter Try.func16, Try.ntmps16
      go_wp2_with fail
      go_ret2
      exact ⟨rfl, rfl⟩
  · have HR := Lib.hid (show capV m = .tuple #[.int .i64 0, .int .i64 1] from if_neg h)
    have hh := mt modeOk_iff.2 h
    have h0 : (m == 0) = false := by simp; omega
    have h1 : (m == 1) = false := by simp; omega
    have h2 : (m == 2) = false := by simp; omega
    clear h hh
    go_enter Try.func16, Try.ntmps16
    go_wp2_with fail
    go_ret2
    exact ⟨by rw [HR.out]; rfl, rfl⟩

set_option maxHeartbeats 1000000 in
theorem span_any (m : Int) (w : World) :
    Calls Try.prog 17 #[.int .i64 m] w fun e w' => e = .returned (spanV m) ∧ Below w.heap.size w w' := by
  by_cases h : modeOk m = true
  · have C := Lib.hid (fun w => layouts_ok m w h)
    have D := Lib.hid (fun w => ledc_any m w)
    have HR := Lib.hid (show spanV m = .tuple #[.int .i64 (lCov m), .int .i64 (lData m + lCap m - lCov m), .int .i64 0] from if_pos h)
    have h1 : 0 ≤ lData m ∧ lData m ≤ 24 := by unfold lData; split <;> omega
    have h2 : 0 ≤ lCap m ∧ lCap m ≤ 2324 := by unfold lCap; split <;> omega
    have h3 : 0 ≤ lCov m ∧ lCov m ≤ 16 := by unfold lCov; split <;> omega
    obtain ⟨h1, h1'⟩ := h1
    obtain ⟨h2, h2'⟩ := h2
    obtain ⟨h3, h3'⟩ := h3
    rw [layV] at C D
    generalize lData m = a at *
    generalize lCap m = b at *
    generalize lByte m = c at *
    generalize lCov m = d at *
    clear h
    go_enter Try.func17, Try.ntmps17
    go_wp2_with fail
    refine (C.out _).mono ?_
    rintro e w1 ⟨rfl, hb1⟩
    go_wp2_with fail
    have ew : IntKind.i64.wrap (a + b - d) = a + b - d := IntWalk.i64_in _ (by omega)
    have hB := hb1.alloc hb1.size (.cells #[.int .u8 c, .int .i64 a, .int .i64 b, .int .i64 d] 48)
    have hlt : w1.heap.size < (w1.alloc (.cells #[.int .u8 c, .int .i64 a, .int .i64 b, .int .i64 d] 48)).heap.size := by simp
    go_region_held3 (fun w' => w'.cell? ⟨w1.heap.size, 0, none⟩ = some (.int .u8 c) ∧ w'.cell? ⟨w1.heap.size, 1, none⟩ = some (.int .i64 a) ∧ w'.cell? ⟨w1.heap.size, 2, none⟩ = some (.int .i64 b) ∧ w'.cell? ⟨w1.heap.size, 3, none⟩ = some (.int .i64 d) ∧ w1.heap.size < w'.heap.size ∧ Below w.heap.size w w')
      (first | exact keepL (by assumption) (by first | assumption | simp) (by first | assumption | simp) (by first | assumption | simp) (by first | assumption | simp) (by first | assumption | simp) (by first | assumption | exact hB.drew) | exact ⟨by simp, by simp, by simp, by simp, by simp, hB.drew⟩ | go_keep)
      ((go_at_call 39; refine (D.out _).mono ?_; rintro e w2 ⟨rfl, hb2⟩))
    go_wp2_with fail
    go_ret3
    exact ⟨by rw [HR.out]; rfl, hB.drew.trans (hb2.mono hB.drew.size)⟩
  · have C := Lib.hid (fun w => layouts_no m w (by simpa using h))
    have HR := Lib.hid (show spanV m = .tuple #[.int .i64 0, .int .i64 0, .int .i64 1] from if_neg h)
    clear h
    go_enter Try.func17, Try.ntmps17
    go_wp2_with fail
    refine (C.out _).mono ?_
    rintro e w1 ⟨rfl, hb1⟩
    go_wp2_with fail
    go_ret3
    exact ⟨by rw [HR.out]; rfl, hb1.alloc hb1.size _⟩
theorem rspan_any (m : Int) (w : World) :
    Calls Try.prog 18 #[.int .i64 m] w fun e w' => e = .returned (spanV m) ∧ w = w' := by
  by_cases h : modeOk m = true
  · rcases modeOk_iff.1 h with rfl | rfl | rfl
    all_goals
      go_enter Try.func18, Try.ntmps18
      go_wp2_with fail
      go_ret3
      exact ⟨rfl, rfl⟩
  · have HR := Lib.hid (show spanV m = .tuple #[.int .i64 0, .int .i64 0, .int .i64 1] from if_neg h)
    have hh := mt modeOk_iff.2 h
    have h0 : (m == 0) = false := by simp; omega
    have h1 : (m == 1) = false := by simp; omega
    have h2 : (m == 2) = false := by simp; omega
    clear h hh
    go_enter Try.func18, Try.ntmps18
    go_wp2_with fail
    go_ret3
    exact ⟨by rw [HR.out]; rfl, rfl⟩

def btw (n q : Int) : Bool := decide (0 ≤ n ∧ n ≤ q)
theorem btw_iff {n q : Int} : btw n q = true ↔ 0 ≤ n ∧ n ≤ q := decide_eq_true_iff
theorem between_any (n q : Int) (w : World) :
    Calls Try.prog 37 #[.int .i64 n, .int .i64 q] w fun e w' => e = .returned (.bool (btw n q)) ∧ w = w' := by
  by_cases h0 : 0 ≤ n
  · have HR := Lib.hid (show btw n q = decide (n ≤ q) by unfold btw; simp [h0])
    go_enter Try.func37, Try.ntmps37
    go_wp2_with fail
    go_ret
    exact ⟨by rw [HR.out]; rfl, rfl⟩
  · have HR := Lib.hid (show btw n q = false by unfold btw; simp [h0])
    have h0' : n < 0 := by omega
    clear h0
    go_enter Try.func37, Try.ntmps37
    go_wp2_with fail
    go_ret
    exact ⟨by rw [HR.out]; rfl, rfl⟩
theorem octet_any (n : Int) (w : World) :
    Calls Try.prog 38 #[.int .i64 n] w fun e w' => e = .returned (.bool (btw n 255)) ∧ w = w' := by
  by_cases h0 : 0 ≤ n
  · have HR := Lib.hid (show btw n 255 = decide (n ≤ 255) by unfold btw; simp [h0])
    go_enter Try.func38, Try.ntmps38
    go_wp2_with fail
    go_ret
    exact ⟨by rw [HR.out]; rfl, rfl⟩
  · have HR := Lib.hid (show btw n 255 = false by unfold btw; simp [h0])
    have h0' : n < 0 := by omega
    clear h0
    go_enter Try.func38, Try.ntmps38
    go_wp2_with fail
    go_ret
    exact ⟨by rw [HR.out]; rfl, rfl⟩
end Go.Proofs.Ytdjpnabkmanboaa
