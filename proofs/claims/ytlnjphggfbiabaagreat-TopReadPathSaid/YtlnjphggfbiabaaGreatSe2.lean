/-
  sector: chapters 2 and 7, the program alone (gen_sec.py).
-/
import Derived.Test.YtlnjphggfbiabaaGreatSe1
import Derived.Deep.DrawnRows
import Derived.Deep.RegionHeld3
import Derived.Deep.RegionWith
namespace Go.Proofs.YtlnjphggfbiabaaGreat
open Go.RowKit
set_option linter.unusedVariables false
attribute [local go_sem ↓] Go.wp_at_zero Go.wp_at_succ

def msfV (m s f : Int) : Value := .agg #[.int .i64 m, .int .i64 s, .int .i64 f]
def msfOk (m s f : Int) : Bool := decide (0 ≤ m ∧ m < 100 ∧ 0 ≤ s ∧ s < 60 ∧ 0 ≤ f ∧ f < 75)
theorem msfOk_iff {m s f : Int} : msfOk m s f = true ↔ 0 ≤ m ∧ m < 100 ∧ 0 ≤ s ∧ s < 60 ∧ 0 ≤ f ∧ f < 75 := decide_eq_true_iff

theorem numbered_ok (n : Int) (w : World) (h0 : 0 ≤ n) (h1 : n ≤ 449999) :
    Calls Tryz.prog 98 #[.int .i64 n] w fun e w' => e = .returned (.tuple #[msfV (n / 75 / 60) (n / 75 % 60) (n % 75), .bool true]) ∧ Below w.heap.size w w' := by
  go_enter Tryz.func98, Tryz.ntmps98
  go_wp2_with fail
  exact bodyPost_ret (v := .tuple #[.agg #[.int .i64 (n / 75 / 60), .int .i64 (n / 75 % 60), .int .i64 (n % 75)], .bool true]) (by simp [results, Tryz.results98, go_sem]) rfl ⟨rfl, (Below.refl _ _).alloc (Nat.le_refl _) _⟩
theorem numbered_no (n : Int) (w : World) (h : n < 0 ∨ 449999 < n) :
    Calls Tryz.prog 98 #[.int .i64 n] w fun e w' => e = .returned (.tuple #[msfV 0 0 0, .bool false]) ∧ Below w.heap.size w w' := by
  by_cases h0 : n < 0
  all_goals
    go_enter Tryz.func98, Tryz.ntmps98
    (first | (have h1 : 449999 < n := by omega) | skip)
    clear h
    go_wp2_with fail
    exact bodyPost_ret (v := .tuple #[.agg #[.int .i64 0, .int .i64 0, .int .i64 0], .bool false]) (by simp [results, Tryz.results98, go_sem]) rfl ⟨rfl, (Below.refl _ _).alloc (Nat.le_refl _) _⟩

theorem keep3 {B : Nat} {W w1 : World} (hb : Below B W w1) {g : Nat} (hg : g < B) {a b c : Value} (h0 : W.cell? ⟨g, 0, none⟩ = some a) (h1 : W.cell? ⟨g, 1, none⟩ = some b) (h2 : W.cell? ⟨g, 2, none⟩ = some c) :
    w1.cell? ⟨g, 0, none⟩ = some a ∧ w1.cell? ⟨g, 1, none⟩ = some b ∧ w1.cell? ⟨g, 2, none⟩ = some c :=
  ⟨(hb.cell (p := ⟨g, 0, none⟩) hg).trans h0, (hb.cell (p := ⟨g, 1, none⟩) hg).trans h1, (hb.cell (p := ⟨g, 2, none⟩) hg).trans h2⟩
theorem free3 {B : Nat} {W w1 : World} (hb : Below B W w1) {g : Nat} (hg : g < B) (h0 : W.frozen? ⟨g, 0, none⟩ = false) (h1 : W.frozen? ⟨g, 1, none⟩ = false) (h2 : W.frozen? ⟨g, 2, none⟩ = false) :
    w1.frozen? ⟨g, 0, none⟩ = false ∧ w1.frozen? ⟨g, 1, none⟩ = false ∧ w1.frozen? ⟨g, 2, none⟩ = false :=
  ⟨(hb.frozen (p := ⟨g, 0, none⟩) hg).trans h0, (hb.frozen (p := ⟨g, 1, none⟩) hg).trans h1, (hb.frozen (p := ⟨g, 2, none⟩) hg).trans h2⟩

set_option maxHeartbeats 400000 in
theorem tomsf_ok (n : Int) (w : World) (h0 : -150 ≤ n) (h1 : n ≤ 449849) :
    Calls Tryz.prog 64 #[.int .i64 n] w fun e w' => e = .returned (.tuple #[msfV ((n + 150) / 75 / 60) ((n + 150) / 75 % 60) ((n + 150) % 75), .int .i64 0]) ∧ Below w.heap.size w w' := by
  obtain ⟨a, ha⟩ : ∃ a, (n + 150) / 75 / 60 = a := ⟨_, rfl⟩
  obtain ⟨b, hb⟩ : ∃ b, (n + 150) / 75 % 60 = b := ⟨_, rfl⟩
  obtain ⟨c, hc⟩ : ∃ c, (n + 150) % 75 = c := ⟨_, rfl⟩
  have C := Lib.hid (fun w => numbered_ok (n + 150) w (by omega) (by omega))
  rw [ha, hb, hc] at C ⊢
  clear ha hb hc
  go_enter Tryz.func64, Tryz.ntmps64
  go_wp2_with fail
  refine (C.out _).mono ?_
  rintro e w1 ⟨rfl, hb1⟩
  rw [msfV]
  obtain ⟨d0, d1, d2⟩ := keep3 hb1 (g := w.heap.size) (a := .int .i64 0) (b := .int .i64 0) (c := .int .i64 0) (by simp) (by simp) (by simp) (by simp)
  obtain ⟨f0, f1, f2⟩ := free3 hb1 (g := w.heap.size) (by simp) (by simp) (by simp) (by simp)
  have hs1 : w.heap.size < w1.heap.size := by have := hb1.size; simp at this; omega
  go_wp2_with fail
  refine bodyPost_ret (v := .tuple #[.agg #[.int .i64 a, .int .i64 b, .int .i64 c], .int .i64 0]) (by simp [results, Tryz.results64, go_sem, d0, d1, d2, hs1]) rfl ⟨rfl, ?_⟩
  have b1 : Below w.heap.size w w1 := ((Below.refl _ _).alloc (Nat.le_refl _) _).trans (hb1.mono (by simp))
  exact (((b1.setCell (p := ⟨w.heap.size, 0, none⟩) (Nat.le_refl _) _).setCell (p := ⟨w.heap.size, 1, none⟩) (Nat.le_refl _) _).setCell (p := ⟨w.heap.size, 2, none⟩) (Nat.le_refl _) _).alloc (by simp; omega) _
set_option maxHeartbeats 400000 in
theorem tomsf_no (n : Int) (w : World) (hn : -9223372036854775808 ≤ n) (h : n < -150 ∨ 449849 < n) :
    Calls Tryz.prog 64 #[.int .i64 n] w fun e w' => e = .returned (.tuple #[msfV 0 0 0, .int .i64 2]) ∧ Below w.heap.size w w' := by
  by_cases h1 : 449849 < n
  · clear h
    go_enter Tryz.func64, Tryz.ntmps64
    go_wp2_with fail
    exact bodyPost_ret (v := .tuple #[.agg #[.int .i64 0, .int .i64 0, .int .i64 0], .int .i64 2]) (by simp [results, Tryz.results64, go_sem]) rfl ⟨rfl, (Below.refl _ _).alloc (Nat.le_refl _) _⟩
  · have C := Lib.hid (fun w => numbered_no (n + 150) w (by omega))
    have h2 : n < -150 := by omega
    clear h
    go_enter Tryz.func64, Tryz.ntmps64
    go_wp2_with fail
    refine (C.out _).mono ?_
    rintro e w1 ⟨rfl, hb1⟩
    rw [msfV]
    obtain ⟨d0, d1, d2⟩ := keep3 hb1 (g := w.heap.size) (a := .int .i64 0) (b := .int .i64 0) (c := .int .i64 0) (by simp) (by simp) (by simp) (by simp)
    obtain ⟨f0, f1, f2⟩ := free3 hb1 (g := w.heap.size) (by simp) (by simp) (by simp) (by simp)
    have hs1 : w.heap.size < w1.heap.size := by have := hb1.size; simp at this; omega
    go_wp2_with fail
    refine bodyPost_ret (v := .tuple #[.agg #[.int .i64 0, .int .i64 0, .int .i64 0], .int .i64 2]) (by simp [results, Tryz.results64, go_sem, d0, d1, d2, hs1]) rfl ⟨rfl, ?_⟩
    have b1 : Below w.heap.size w w1 := ((Below.refl _ _).alloc (Nat.le_refl _) _).trans (hb1.mono (by simp))
    exact (((b1.setCell (p := ⟨w.heap.size, 0, none⟩) (Nat.le_refl _) _).setCell (p := ⟨w.heap.size, 1, none⟩) (Nat.le_refl _) _).setCell (p := ⟨w.heap.size, 2, none⟩) (Nat.le_refl _) _).alloc (by simp; omega) _

theorem split_any (m s f : Int) (w : World) :
    Calls Tryz.prog 119 #[msfV m s f] w fun e w' => e = .returned (.agg #[.int .i64 m, .int .i64 s, .int .i64 f]) ∧ Below w.heap.size w w' := by
  rw [msfV]
  go_enter Tryz.func119, Tryz.ntmps119
  go_wp2_with fail
  exact bodyPost_ret (v := .agg #[.int .i64 m, .int .i64 s, .int .i64 f]) (by simp [results, Tryz.results119, go_sem]) rfl ⟨rfl, ((Below.refl _ _).alloc (Nat.le_refl _) _).alloc (by simp) _⟩
def limitOf (i : Int) : Int := if i = 0 then 100 else if i = 1 then 60 else 75
theorem limit_any (i : Int) (w : World) (h0 : 0 ≤ i) (h1 : i < 3) :
    Calls Tryz.prog 120 #[.int .i64 i] w fun e w' => e = .returned (.int .i64 (limitOf i)) ∧ Below w.heap.size w w' := by
  have : i = 0 ∨ i = 1 ∨ i = 2 := by omega
  rcases this with rfl | rfl | rfl
  all_goals
    go_enter Tryz.func120, Tryz.ntmps120
    go_wp2_with fail
    go_ret
    exact ⟨rfl, (Below.refl _ _).alloc (Nat.le_refl _) _⟩

set_option maxHeartbeats 2000000 in
theorem valid_any (m s f : Int) (w : World) :
    Calls Tryz.prog 90 #[msfV m s f] w fun e w' => e = .returned (.bool (msfOk m s f)) ∧ Below w.heap.size w w' := by
  have i0 : ∀ w, (Instr.index 148 (.agg #[.int .i64 m, .int .i64 s, .int .i64 f]) (.int .i64 0)).run Tryz.prog w = .ok (.int .i64 m) w := fun _ => by kernel_rfl
  have i1 : ∀ w, (Instr.index 148 (.agg #[.int .i64 m, .int .i64 s, .int .i64 f]) (.int .i64 1)).run Tryz.prog w = .ok (.int .i64 s) w := fun _ => by kernel_rfl
  have i2 : ∀ w, (Instr.index 148 (.agg #[.int .i64 m, .int .i64 s, .int .i64 f]) (.int .i64 2)).run Tryz.prog w = .ok (.int .i64 f) w := fun _ => by kernel_rfl
  have C := Lib.hid (split_any m s f)
  have L0 : Hid (∀ w, Calls Tryz.prog 120 #[.int .i64 0] w fun e w' => e = .returned (.int .i64 100) ∧ Below w.heap.size w w') := fun w => limit_any 0 w (by omega) (by omega)
  have L1 : Hid (∀ w, Calls Tryz.prog 120 #[.int .i64 1] w fun e w' => e = .returned (.int .i64 60) ∧ Below w.heap.size w w') := fun w => limit_any 1 w (by omega) (by omega)
  have L2 : Hid (∀ w, Calls Tryz.prog 120 #[.int .i64 2] w fun e w' => e = .returned (.int .i64 75) ∧ Below w.heap.size w w') := fun w => limit_any 2 w (by omega) (by omega)
  have HP : ∀ b, msfOk m s f = b → Hid (msfOk m s f = b) := fun _ h => h
  rw [msfV] at *
  go_enter Tryz.func90, Tryz.ntmps90
  go_wp2_with fail
  refine (C.out _).mono ?_
  rintro e w1 ⟨rfl, hb1⟩
  have b1 : Below w.heap.size w w1 := ((Below.refl _ _).alloc (Nat.le_refl _) _).trans (hb1.mono (by simp))
  go_wp2_with fail
  go_loopw [7] (fun i wr => ∃ k : Nat, k ≤ 3 ∧ i = .int .i64 k ∧ Below w.heap.size w wr ∧ (0 < k → 0 ≤ m ∧ m < 100) ∧ (1 < k → 0 ≤ s ∧ s < 60) ∧ (2 < k → 0 ≤ f ∧ f < 75)) (fun i _ => 3 - (intOf i).toNat)
  case atStart => exact ⟨0, by omega, rfl, b1, by omega, by omega, by omega⟩
  case round =>
    obtain ⟨k, hk, rfl, hb, r0, r1, r2⟩ := hrel
    have hkk : k = 0 ∨ k = 1 ∨ k = 2 ∨ k = 3 := by omega
    rcases hkk with rfl | rfl | rfl | rfl
    · by_cases c0 : m < 0
      · have HF := Lib.hid (show msfOk m s f = false from decide_eq_false (by omega))
        go_wp2_with fail
        go_ret
        exact ⟨by rw [HF.out]; rfl, hb⟩
      · have c0' : 0 ≤ m := by omega
        by_cases c1 : m < 100
        · clear c0
          go_wp2_with fail
          refine (L0.out _).mono ?_
          rintro e w2 ⟨rfl, hb2⟩
          go_wp2_with fail
          go_roundw
          case rel => exact ⟨1, by omega, by go_num, hb.trans (hb2.mono hb.size), by omega, by omega, by omega⟩
          case measure => simp [intOf]
        · have HF := Lib.hid (show msfOk m s f = false from decide_eq_false (by omega))
          have c1' : 100 ≤ m := by omega
          clear c0 c1
          go_wp2_with fail
          refine (L0.out _).mono ?_
          rintro e w2 ⟨rfl, hb2⟩
          go_wp2_with fail
          go_ret
          exact ⟨by rw [HF.out]; rfl, hb.trans (hb2.mono hb.size)⟩
    · by_cases c0 : s < 0
      · have HF := Lib.hid (show msfOk m s f = false from decide_eq_false (by omega))
        go_wp2_with fail
        go_ret
        exact ⟨by rw [HF.out]; rfl, hb⟩
      · have c0' : 0 ≤ s := by omega
        by_cases c1 : s < 60
        · clear c0
          go_wp2_with fail
          refine (L1.out _).mono ?_
          rintro e w2 ⟨rfl, hb2⟩
          go_wp2_with fail
          go_roundw
          case rel => exact ⟨2, by omega, by go_num, hb.trans (hb2.mono hb.size), by omega, by omega, by omega⟩
          case measure => simp [intOf]
        · have HF := Lib.hid (show msfOk m s f = false from decide_eq_false (by omega))
          have c1' : 60 ≤ s := by omega
          clear c0 c1
          go_wp2_with fail
          refine (L1.out _).mono ?_
          rintro e w2 ⟨rfl, hb2⟩
          go_wp2_with fail
          go_ret
          exact ⟨by rw [HF.out]; rfl, hb.trans (hb2.mono hb.size)⟩
    · by_cases c0 : f < 0
      · have HF := Lib.hid (show msfOk m s f = false from decide_eq_false (by omega))
        go_wp2_with fail
        go_ret
        exact ⟨by rw [HF.out]; rfl, hb⟩
      · have c0' : 0 ≤ f := by omega
        by_cases c1 : f < 75
        · clear c0
          go_wp2_with fail
          refine (L2.out _).mono ?_
          rintro e w2 ⟨rfl, hb2⟩
          go_wp2_with fail
          go_roundw
          case rel => exact ⟨3, by omega, by go_num, hb.trans (hb2.mono hb.size), by omega, by omega, by omega⟩
          case measure => simp [intOf]
        · have HF := Lib.hid (show msfOk m s f = false from decide_eq_false (by omega))
          have c1' : 75 ≤ f := by omega
          clear c0 c1
          go_wp2_with fail
          refine (L2.out _).mono ?_
          rintro e w2 ⟨rfl, hb2⟩
          go_wp2_with fail
          go_ret
          exact ⟨by rw [HF.out]; rfl, hb.trans (hb2.mono hb.size)⟩
    · have HT := Lib.hid (show msfOk m s f = true from decide_eq_true (by omega))
      go_wp2_with fail
      go_ret
      exact ⟨by rw [HT.out]; rfl, hb⟩

theorem number_any (m s f : Int) (w : World) (h : msfOk m s f = true) :
    Calls Tryz.prog 91 #[msfV m s f] w fun e w' => e = .returned (.int .i64 ((60 * m + s) * 75 + f)) ∧ Below w.heap.size w w' := by
  obtain ⟨h0, h1, h2, h3, h4, h5⟩ := msfOk_iff.1 h
  rw [msfV]
  go_enter Tryz.func91, Tryz.ntmps91
  go_wp2_with fail
  go_ret
  exact ⟨rfl, (Below.refl _ _).alloc (Nat.le_refl _) _⟩
theorem tolba_any (m s f : Int) (w : World) (h : msfOk m s f = true) :
    Calls Tryz.prog 54 #[msfV m s f] w fun e w' => e = .returned (.tuple #[.int .i64 ((60 * m + s) * 75 + f - 150), .int .i64 0]) ∧ Below w.heap.size w w' := by
  have C1 : Hid (∀ w, Calls Tryz.prog 90 #[msfV m s f] w fun e w' => e = .returned (.bool true) ∧ Below w.heap.size w w') := by
    have := valid_any m s f
    rwa [h] at this
  have C2 := Lib.hid (fun w => number_any m s f w h)
  obtain ⟨h0, h1, h2, h3, h4, h5⟩ := msfOk_iff.1 h
  rw [msfV] at *
  go_enter Tryz.func54, Tryz.ntmps54
  go_wp2_with fail
  refine (C1.out _).mono ?_
  rintro e w1 ⟨rfl, hb1⟩
  obtain ⟨d0, d1, d2⟩ := keep3 hb1 (g := w.heap.size) (a := .int .i64 m) (b := .int .i64 s) (c := .int .i64 f) (by simp) (by simp) (by simp) (by simp)
  go_wp2_with fail
  refine (C2.out _).mono ?_
  rintro e w2 ⟨rfl, hb2⟩
  go_wp2_with fail
  go_ret2
  have b1 : Below w.heap.size w w1 := ((Below.refl _ _).alloc (Nat.le_refl _) _).trans (hb1.mono (by simp))
  exact ⟨rfl, b1.trans (hb2.mono b1.size)⟩

/-- The byte of a part of an address. -/
def bcdB (n : Int) : UInt8 := UInt8.ofNat (bcdV n).toNat
theorem bcdB_nat {n : Int} (h0 : 0 ≤ n) (h1 : n < 100) : ((bcdB n).toNat : Int) = bcdV n := by
  unfold bcdB
  rw [bcdV_ok h0 (by omega)]
  simp
  omega
theorem part_any (n : Int) (w : World) (h0 : 0 ≤ n) (h1 : n < 100) :
    Calls Tryz.prog 100 #[.int .i64 n] w fun e w' => e = .returned (.string ⟨#[bcdB n]⟩) ∧ Below w.heap.size w w' := by
  have HB := Lib.hid (bcdB_nat h0 h1)
  have hcv : (convert 75 9 (.slice (some ⟨w.heap.size, 0, none⟩) 1 1)).run Tryz.prog (w.alloc (.cells #[.int .u8 (bcdV n)] 5)) = .ok (.string ⟨#[bcdB n]⟩) (w.alloc (.cells #[.int .u8 (bcdV n)] 5)) := by
    have hown : (w.alloc (.cells #[.int .u8 (bcdV n)] 5)).ownsRow w.heap.size 5 1 (.slice (some ⟨w.heap.size, 0, none⟩) 1 1) 1 ([bcdB n].map byteV) := by
      refine ⟨rfl, .inr ⟨w.heap.size, 1, #[.int .u8 (bcdV n)], rfl, Nat.le_refl _, heap_alloc_new w _, Nat.le_refl _, by unfold maxLen; omega, rfl, ?_⟩⟩
      simp [byteV, HB.out]
    exact own_string _ _ _ _ Tryz.underlying75 Tryz.underlying5 Tryz.underlying9 hown
  go_enter Tryz.func100, Tryz.ntmps100
  go_wp2_with fail
  refine (bcd_any n _).mono ?_
  rintro e w' ⟨rfl, rfl⟩
  go_wp2_with fail
  go_ret
  exact ⟨rfl, (Below.refl _ _).alloc (Nat.le_refl _) _⟩
def msfBs (m s f : Int) : List UInt8 := [bcdB m, bcdB s, bcdB f]

set_option maxHeartbeats 2000000 in
theorem write_any (m s f : Int) (w : World) (h : msfOk m s f = true) :
    Calls Tryz.prog 99 #[msfV m s f, .func (.func 100) #[] #[]] w fun e w' => e = .returned (.string ⟨(msfBs m s f).toArray⟩) ∧ Below w.heap.size w w' := by
  obtain ⟨h0, h1, h2, h3, h4, h5⟩ := msfOk_iff.1 h
  have i0 : ∀ w, (Instr.index 148 (.agg #[.int .i64 m, .int .i64 s, .int .i64 f]) (.int .i64 0)).run Tryz.prog w = .ok (.int .i64 m) w := fun _ => by kernel_rfl
  have i1 : ∀ w, (Instr.index 148 (.agg #[.int .i64 m, .int .i64 s, .int .i64 f]) (.int .i64 1)).run Tryz.prog w = .ok (.int .i64 s) w := fun _ => by kernel_rfl
  have i2 : ∀ w, (Instr.index 148 (.agg #[.int .i64 m, .int .i64 s, .int .i64 f]) (.int .i64 2)).run Tryz.prog w = .ok (.int .i64 f) w := fun _ => by kernel_rfl
  have C := Lib.hid (split_any m s f)
  rw [msfV] at *
  clear h
  go_enter Tryz.func99, Tryz.ntmps99
  go_wp2_with fail
  refine (C.out _).mono ?_
  rintro e w1 ⟨rfl, hb1⟩
  have hB : Bld w1 (w.heap.size + 1) [] := by
    have := (Bld.new (w.alloc (.cells #[.int .i64 m, .int .i64 s, .int .i64 f] 100))).below hb1
    rwa [World.size_alloc] at this
  have b1 : Below w.heap.size w w1 := (((Below.refl _ _).alloc (Nat.le_refl _) _).alloc (by simp) _).trans (hb1.mono (by simp; omega))
  go_wp2_with fail
  go_loopw [10] (fun i wr => ∃ k : Nat, k ≤ 3 ∧ i = .int .i64 k ∧ Bld wr (w.heap.size + 1) ((msfBs m s f).take k) ∧ Below w.heap.size w wr) (fun i _ => 3 - (intOf i).toNat)
  case atStart => exact ⟨0, by omega, rfl, hB, b1⟩
  case round =>
    clear hB b1 hb1
    obtain ⟨k, hk, rfl, hB, hb⟩ := hrel
    have hkk : k = 0 ∨ k = 1 ∨ k = 2 ∨ k = 3 := by omega
    rcases hkk with rfl | rfl | rfl | rfl
    · go_wp2_with fail
      refine (part_any m _ h0 h1).mono ?_
      rintro e w2 ⟨rfl, hb2⟩
      go_wp2_with fail
      refine (bwrite_any _ _ _ _ (hB.below hb2) (by show 0 + 1 ≤ _; omega)).mono ?_
      rintro e w3 ⟨rfl, hB3, hb3⟩
      go_wp2_with fail
      go_roundw
      case rel => exact ⟨1, by omega, by go_num, hB3, (hb.trans (hb2.mono hb.size)).trans (hb3.mono (by omega))⟩
      case measure => simp [intOf]
    · go_wp2_with fail
      refine (part_any s _ h2 (by omega)).mono ?_
      rintro e w2 ⟨rfl, hb2⟩
      go_wp2_with fail
      refine (bwrite_any _ _ _ _ (hB.below hb2) (by show 1 + 1 ≤ _; omega)).mono ?_
      rintro e w3 ⟨rfl, hB3, hb3⟩
      go_wp2_with fail
      go_roundw
      case rel => exact ⟨2, by omega, by go_num, hB3, (hb.trans (hb2.mono hb.size)).trans (hb3.mono (by omega))⟩
      case measure => simp [intOf]
    · go_wp2_with fail
      refine (part_any f _ h4 (by omega)).mono ?_
      rintro e w2 ⟨rfl, hb2⟩
      go_wp2_with fail
      refine (bwrite_any _ _ _ _ (hB.below hb2) (by show 2 + 1 ≤ _; omega)).mono ?_
      rintro e w3 ⟨rfl, hB3, hb3⟩
      go_wp2_with fail
      go_roundw
      case rel => exact ⟨3, by omega, by go_num, hB3, (hb.trans (hb2.mono hb.size)).trans (hb3.mono (by omega))⟩
      case measure => simp [intOf]
    · go_wp2_with fail
      refine (bstring_any _ _ _ hB).mono ?_
      rintro e w2 ⟨rfl, hb2⟩
      go_wp2_with fail
      go_ret
      exact ⟨rfl, hb.trans (hb2.mono (by omega))⟩

theorem encode_any (m s f : Int) (w : World) (h : msfOk m s f = true) :
    Calls Tryz.prog 65 #[msfV m s f] w fun e w' => e = .returned (.tuple #[.string ⟨(msfBs m s f).toArray⟩, .int .i64 0]) ∧ Below w.heap.size w w' := by
  have C1 : Hid (∀ w, Calls Tryz.prog 90 #[msfV m s f] w fun e w' => e = .returned (.bool true) ∧ Below w.heap.size w w') := by
    have := valid_any m s f
    rwa [h] at this
  have C2 := Lib.hid (fun w => write_any m s f w h)
  rw [msfV] at *
  clear h
  go_enter Tryz.func65, Tryz.ntmps65
  go_wp2_with fail
  refine (C1.out _).mono ?_
  rintro e w1 ⟨rfl, hb1⟩
  obtain ⟨d0, d1, d2⟩ := keep3 hb1 (g := w.heap.size) (a := .int .i64 m) (b := .int .i64 s) (c := .int .i64 f) (by simp) (by simp) (by simp) (by simp)
  go_wp2_with fail
  refine (C2.out _).mono ?_
  rintro e w2 ⟨rfl, hb2⟩
  go_wp2_with fail
  go_ret2
  have b1 : Below w.heap.size w w1 := ((Below.refl _ _).alloc (Nat.le_refl _) _).trans (hb1.mono (by simp))
  exact ⟨rfl, b1.trans (hb2.mono b1.size)⟩

theorem join_any (m s f : Int) (w : World) :
    Calls Tryz.prog 89 #[.agg #[.int .i64 m, .int .i64 s, .int .i64 f]] w fun e w' => e = .returned (.tuple #[msfV m s f, .bool (msfOk m s f)]) ∧ Below w.heap.size w w' := by
  have C := Lib.hid (valid_any m s f)
  generalize msfOk m s f = ok at *
  rw [msfV] at *
  go_enter Tryz.func89, Tryz.ntmps89
  go_wp2_with fail
  go_region_with ((go_at_call 90; refine (C.out _).mono ?_; rintro e w1 ⟨rfl, hb1⟩; have c0 := hb1.cell (p := ⟨w.heap.size + 1, 0, none⟩) (by simp); have c1 := hb1.cell (p := ⟨w.heap.size + 1, 1, none⟩) (by simp); have c2 := hb1.cell (p := ⟨w.heap.size + 1, 2, none⟩) (by simp); have c3 := hb1.cell (p := ⟨w.heap.size + 1 + 1, 0, none⟩) (by simp); have c4 := hb1.cell (p := ⟨w.heap.size + 1 + 1, 1, none⟩) (by simp); have c5 := hb1.cell (p := ⟨w.heap.size + 1 + 1, 2, none⟩) (by simp); have f0 := hb1.frozen (p := ⟨w.heap.size + 1, 0, none⟩) (by simp); have f1 := hb1.frozen (p := ⟨w.heap.size + 1, 1, none⟩) (by simp); have f2 := hb1.frozen (p := ⟨w.heap.size + 1, 2, none⟩) (by simp)))
  all_goals
    go_wp2_with fail
    have b1 : Below w.heap.size w w1 := ((((Below.refl _ _).alloc (Nat.le_refl _) _).alloc (by simp) _).alloc (by simp; omega) _).drew.trans (hb1.mono (by simp; omega))
    refine bodyPost_ret (v := .tuple #[.agg #[.int .i64 m, .int .i64 s, .int .i64 f], .bool ok]) (by simp [results, Tryz.results89, go_sem, c0, c1, c2]) rfl ⟨rfl, ?_⟩
    first
    | exact ((b1.setCell (p := ⟨w.heap.size + 1, 0, none⟩) (by simp) _).setCell (p := ⟨w.heap.size + 1, 1, none⟩) (by simp) _).setCell (p := ⟨w.heap.size + 1, 2, none⟩) (by simp) _
    | exact b1
/-- What three bytes decode to. -/
def decOk (b0 b1 b2 : Int) : Prop := unOk b0 ∧ unOk b1 ∧ unOk b2 ∧ msfOk (unV b0) (unV b1) (unV b2) = true
instance (b0 b1 b2 : Int) : Decidable (decOk b0 b1 b2) := by unfold decOk; infer_instance
def decR (b0 b1 b2 : Int) : Value := if decOk b0 b1 b2 then .tuple #[msfV (unV b0) (unV b1) (unV b2), .int .i64 0] else .tuple #[msfV 0 0 0, .int .i64 10]
theorem decR_ok {b0 b1 b2 : Int} (h : decOk b0 b1 b2) : decR b0 b1 b2 = .tuple #[msfV (unV b0) (unV b1) (unV b2), .int .i64 0] := if_pos h
theorem decR_no {b0 b1 b2 : Int} (h : ¬ decOk b0 b1 b2) : decR b0 b1 b2 = .tuple #[msfV 0 0 0, .int .i64 10] := if_neg h
def arr3 (b0 b1 b2 : Int) : Nat → Array Value
  | 0 => #[.int .i64 0, .int .i64 0, .int .i64 0]
  | 1 => #[.int .i64 (unV b0), .int .i64 0, .int .i64 0]
  | 2 => #[.int .i64 (unV b0), .int .i64 (unV b1), .int .i64 0]
  | _ => #[.int .i64 (unV b0), .int .i64 (unV b1), .int .i64 (unV b2)]

set_option maxHeartbeats 4000000 in
theorem decode_any7 (s : ByteArray) (at_ : Nat) (w : World) (h : at_ + 3 ≤ s.size) (hs : s.size ≤ 140737488351232) (b0 b1 b2 : Int) (e0 : ((s[at_]'(by omega)).toNat : Int) = b0) (e1 : ((s[at_ + 1]'(by omega)).toNat : Int) = b1) (e2 : ((s[at_ + 2]'(by omega)).toNat : Int) = b2) :
    Calls Tryz.prog 51 #[.string s, .int .i64 (at_ : Int)] w fun e w' => e = .returned (decR b0 b1 b2) ∧ Below w.heap.size w w' := by
  have p0 : 0 ≤ b0 := by omega
  have p1 : 0 ≤ b1 := by omega
  have p2 : 0 ≤ b2 := by omega
  have q0 : b0 ≤ 255 := by have := (s[at_]'(by omega)).toNat_lt; omega
  have q1 : b1 ≤ 255 := by have := (s[at_ + 1]'(by omega)).toNat_lt; omega
  have q2 : b2 ≤ 255 := by have := (s[at_ + 2]'(by omega)).toNat_lt; omega
  have h0 : (0 : Int) ≤ (at_ : Int) := by omega
  have h1 : ¬ ((s.size : Int) - 3 < (at_ : Int)) := by omega
  have l0 : at_ < s.size := by omega
  have l1 : at_ + 1 < s.size := by omega
  have l2 : at_ + 2 < s.size := by omega
  have HJ := Lib.hid (fun a b c w => join_any a b c w)
  go_enter Tryz.func51, Tryz.ntmps51
  go_wp2_with fail
  have hr0 : RowAt ((w.alloc (.cells #[.int .i64 0, .int .i64 0, .int .i64 0] 100)).alloc (.cells #[.int .i64 0, .int .i64 0, .int .i64 0] 148)) (w.heap.size + 1) 148 (arr3 b0 b1 b2 0) := by
    have := RowAt.new (w.alloc (.cells #[.int .i64 0, .int .i64 0, .int .i64 0] 100)) 148 (arr3 b0 b1 b2 0)
    rw [World.size_alloc] at this
    exact this
  have hz0 : RowAt ((w.alloc (.cells #[.int .i64 0, .int .i64 0, .int .i64 0] 100)).alloc (.cells #[.int .i64 0, .int .i64 0, .int .i64 0] 148)) w.heap.size 100 #[.int .i64 0, .int .i64 0, .int .i64 0] := (RowAt.new w _ _).alloc _
  have hb0 : Below w.heap.size w ((w.alloc (.cells #[.int .i64 0, .int .i64 0, .int .i64 0] 100)).alloc (.cells #[.int .i64 0, .int .i64 0, .int .i64 0] 148)) := ((Below.refl _ _).alloc (Nat.le_refl _) _).alloc (by simp) _
  go_loopw [22] (fun i wr => ∃ k : Nat, k ≤ 3 ∧ i = .int .i64 k ∧ RowAt wr (w.heap.size + 1) 148 (arr3 b0 b1 b2 k) ∧ RowAt wr w.heap.size 100 #[.int .i64 0, .int .i64 0, .int .i64 0] ∧ Below w.heap.size w wr ∧ (0 < k → unOk b0) ∧ (1 < k → unOk b1) ∧ (2 < k → unOk b2)) (fun i _ => 3 - (intOf i).toNat)
  case atStart => exact ⟨0, by omega, rfl, hr0, hz0, hb0, by omega, by omega, by omega⟩
  case round =>
    clear hr0 hz0 hb0
    obtain ⟨k, hk, rfl, hr, hz, hb, r0, r1, r2⟩ := hrel
    have hkk : k = 0 ∨ k = 1 ∨ k = 2 ∨ k = 3 := by omega
    rcases hkk with rfl | rfl | rfl | rfl
    · have c0 : wr.cell? ⟨w.heap.size + 1, 0, none⟩ = some (.int .i64 0) := hr.cell 0
      have f0 := hr.frozen 0
      have z0 : wr.cell? ⟨w.heap.size, 0, none⟩ = some (.int .i64 0) := hz.cell 0
      have z1 : wr.cell? ⟨w.heap.size, 1, none⟩ = some (.int .i64 0) := hz.cell 1
      have z2 : wr.cell? ⟨w.heap.size, 2, none⟩ = some (.int .i64 0) := hz.cell 2
      have y0 := hz.frozen 0
      have y1 := hz.frozen 1
      have y2 := hz.frozen 2
      by_cases hu : unOk b0
      · have C : Hid (∀ w, Calls Tryz.prog 88 #[.int .u8 b0] w fun e w' => e = .returned (.tuple #[.int .i64 (unV b0), .int .i64 0]) ∧ w = w') := by
          have := fun w => frombcd_any b0 w p0 q0
          rwa [show unE b0 = 0 from if_pos hu] at this
        go_wp2_with fail
        refine (C.out _).mono ?_
        rintro e w' ⟨rfl, rfl⟩
        go_wp2_with fail
        go_roundw
        case rel => exact ⟨1, by omega, by go_num, hr.set_ 0 _, hz.far (by show w.heap.size ≠ w.heap.size + 1; omega) _, hb.setCell (p := ⟨w.heap.size + 1, 0, none⟩) (by simp) _, fun h => hu, fun h => absurd h (by omega), fun h => absurd h (by omega)⟩
        case measure => simp [intOf]
      · have C : Hid (∀ w, Calls Tryz.prog 88 #[.int .u8 b0] w fun e w' => e = .returned (.tuple #[.int .i64 (unV b0), .int .i64 2]) ∧ w = w') := by
          have := fun w => frombcd_any b0 w p0 q0
          rwa [show unE b0 = 2 from if_neg hu] at this
        have HR := Lib.hid (decR_no (b0 := b0) (b1 := b1) (b2 := b2) (fun h => hu h.1))
        go_wp2_with fail
        refine (C.out _).mono ?_
        rintro e w' ⟨rfl, rfl⟩
        go_wp2_with fail
        refine bodyPost_ret (v := .tuple #[.agg #[.int .i64 0, .int .i64 0, .int .i64 0], .int .i64 10]) (by simp [results, Tryz.results51, go_sem, z0, z1, z2]) rfl ⟨by rw [HR.out]; rfl, ?_⟩
        exact ((hb.setCell (p := ⟨w.heap.size, 0, none⟩) (Nat.le_refl _) _).setCell (p := ⟨w.heap.size, 1, none⟩) (Nat.le_refl _) _).setCell (p := ⟨w.heap.size, 2, none⟩) (Nat.le_refl _) _
    · have c0 : wr.cell? ⟨w.heap.size + 1, 1, none⟩ = some (.int .i64 0) := hr.cell 1
      have f0 := hr.frozen 1
      have z0 : wr.cell? ⟨w.heap.size, 0, none⟩ = some (.int .i64 0) := hz.cell 0
      have z1 : wr.cell? ⟨w.heap.size, 1, none⟩ = some (.int .i64 0) := hz.cell 1
      have z2 : wr.cell? ⟨w.heap.size, 2, none⟩ = some (.int .i64 0) := hz.cell 2
      have y0 := hz.frozen 0
      have y1 := hz.frozen 1
      have y2 := hz.frozen 2
      by_cases hu : unOk b1
      · have C : Hid (∀ w, Calls Tryz.prog 88 #[.int .u8 b1] w fun e w' => e = .returned (.tuple #[.int .i64 (unV b1), .int .i64 0]) ∧ w = w') := by
          have := fun w => frombcd_any b1 w p1 q1
          rwa [show unE b1 = 0 from if_pos hu] at this
        go_wp2_with fail
        refine (C.out _).mono ?_
        rintro e w' ⟨rfl, rfl⟩
        go_wp2_with fail
        go_roundw
        case rel => exact ⟨2, by omega, by go_num, hr.set_ 1 _, hz.far (by show w.heap.size ≠ w.heap.size + 1; omega) _, hb.setCell (p := ⟨w.heap.size + 1, 1, none⟩) (by simp) _, fun h => r0 (by omega), fun h => hu, fun h => absurd h (by omega)⟩
        case measure => simp [intOf]
      · have C : Hid (∀ w, Calls Tryz.prog 88 #[.int .u8 b1] w fun e w' => e = .returned (.tuple #[.int .i64 (unV b1), .int .i64 2]) ∧ w = w') := by
          have := fun w => frombcd_any b1 w p1 q1
          rwa [show unE b1 = 2 from if_neg hu] at this
        have HR := Lib.hid (decR_no (b0 := b0) (b1 := b1) (b2 := b2) (fun h => hu h.2.1))
        go_wp2_with fail
        refine (C.out _).mono ?_
        rintro e w' ⟨rfl, rfl⟩
        go_wp2_with fail
        refine bodyPost_ret (v := .tuple #[.agg #[.int .i64 0, .int .i64 0, .int .i64 0], .int .i64 10]) (by simp [results, Tryz.results51, go_sem, z0, z1, z2]) rfl ⟨by rw [HR.out]; rfl, ?_⟩
        exact ((hb.setCell (p := ⟨w.heap.size, 0, none⟩) (Nat.le_refl _) _).setCell (p := ⟨w.heap.size, 1, none⟩) (Nat.le_refl _) _).setCell (p := ⟨w.heap.size, 2, none⟩) (Nat.le_refl _) _
    · have c0 : wr.cell? ⟨w.heap.size + 1, 2, none⟩ = some (.int .i64 0) := hr.cell 2
      have f0 := hr.frozen 2
      have z0 : wr.cell? ⟨w.heap.size, 0, none⟩ = some (.int .i64 0) := hz.cell 0
      have z1 : wr.cell? ⟨w.heap.size, 1, none⟩ = some (.int .i64 0) := hz.cell 1
      have z2 : wr.cell? ⟨w.heap.size, 2, none⟩ = some (.int .i64 0) := hz.cell 2
      have y0 := hz.frozen 0
      have y1 := hz.frozen 1
      have y2 := hz.frozen 2
      by_cases hu : unOk b2
      · have C : Hid (∀ w, Calls Tryz.prog 88 #[.int .u8 b2] w fun e w' => e = .returned (.tuple #[.int .i64 (unV b2), .int .i64 0]) ∧ w = w') := by
          have := fun w => frombcd_any b2 w p2 q2
          rwa [show unE b2 = 0 from if_pos hu] at this
        go_wp2_with fail
        refine (C.out _).mono ?_
        rintro e w' ⟨rfl, rfl⟩
        go_wp2_with fail
        go_roundw
        case rel => exact ⟨3, by omega, by go_num, hr.set_ 2 _, hz.far (by show w.heap.size ≠ w.heap.size + 1; omega) _, hb.setCell (p := ⟨w.heap.size + 1, 2, none⟩) (by simp) _, fun h => r0 (by omega), fun h => r1 (by omega), fun h => hu⟩
        case measure => simp [intOf]
      · have C : Hid (∀ w, Calls Tryz.prog 88 #[.int .u8 b2] w fun e w' => e = .returned (.tuple #[.int .i64 (unV b2), .int .i64 2]) ∧ w = w') := by
          have := fun w => frombcd_any b2 w p2 q2
          rwa [show unE b2 = 2 from if_neg hu] at this
        have HR := Lib.hid (decR_no (b0 := b0) (b1 := b1) (b2 := b2) (fun h => hu h.2.2.1))
        go_wp2_with fail
        refine (C.out _).mono ?_
        rintro e w' ⟨rfl, rfl⟩
        go_wp2_with fail
        refine bodyPost_ret (v := .tuple #[.agg #[.int .i64 0, .int .i64 0, .int .i64 0], .int .i64 10]) (by simp [results, Tryz.results51, go_sem, z0, z1, z2]) rfl ⟨by rw [HR.out]; rfl, ?_⟩
        exact ((hb.setCell (p := ⟨w.heap.size, 0, none⟩) (Nat.le_refl _) _).setCell (p := ⟨w.heap.size, 1, none⟩) (Nat.le_refl _) _).setCell (p := ⟨w.heap.size, 2, none⟩) (Nat.le_refl _) _
    · have u0 := r0 (by omega)
      have u1 := r1 (by omega)
      have u2 := r2 (by omega)
      have c0 : wr.cell? ⟨w.heap.size + 1, 0, none⟩ = some (.int .i64 (unV b0)) := hr.cell 0
      have c1 : wr.cell? ⟨w.heap.size + 1, 1, none⟩ = some (.int .i64 (unV b1)) := hr.cell 1
      have c2 : wr.cell? ⟨w.heap.size + 1, 2, none⟩ = some (.int .i64 (unV b2)) := hr.cell 2
      have hlt := hz.lt
      have C := Lib.hid (fun w => HJ.out (unV b0) (unV b1) (unV b2) w)
      by_cases hm : msfOk (unV b0) (unV b1) (unV b2) = true
      · have HR := Lib.hid (decR_ok (b0 := b0) (b1 := b1) (b2 := b2) ⟨u0, u1, u2, hm⟩)
        rw [hm] at C
        clear hm r0 r1 r2 u0 u1 u2
        generalize unV b0 = x0 at *
        generalize unV b1 = x1 at *
        generalize unV b2 = x2 at *
        rw [msfV] at C HR
        go_wp2_with fail
        refine (C.out _).mono ?_
        rintro e w2 ⟨rfl, hb2⟩
        have z0 : w2.cell? ⟨w.heap.size, 0, none⟩ = some (.int .i64 0) := (hz.below hb2 hlt).cell 0
        have z1 : w2.cell? ⟨w.heap.size, 1, none⟩ = some (.int .i64 0) := (hz.below hb2 hlt).cell 1
        have z2 : w2.cell? ⟨w.heap.size, 2, none⟩ = some (.int .i64 0) := (hz.below hb2 hlt).cell 2
        have y0 := (hz.below hb2 hlt).frozen 0
        have y1 := (hz.below hb2 hlt).frozen 1
        have y2 := (hz.below hb2 hlt).frozen 2
        have hs2 : w.heap.size < w2.heap.size := by have := hb2.size; omega
        have b2' : Below w.heap.size w w2 := hb.trans (hb2.mono hb.size)
        go_wp2_with fail
        refine bodyPost_ret (v := .tuple #[.agg #[.int .i64 x0, .int .i64 x1, .int .i64 x2], .int .i64 0]) (by simp [results, Tryz.results51, go_sem, z0, z1, z2, hs2]) rfl ⟨by rw [HR.out], ?_⟩
        exact (((b2'.setCell (p := ⟨w.heap.size, 0, none⟩) (Nat.le_refl _) _).setCell (p := ⟨w.heap.size, 1, none⟩) (Nat.le_refl _) _).setCell (p := ⟨w.heap.size, 2, none⟩) (Nat.le_refl _) _).alloc (by simp; omega) _
      · have HR := Lib.hid (decR_no (b0 := b0) (b1 := b1) (b2 := b2) (fun h => hm h.2.2.2))
        rw [show msfOk (unV b0) (unV b1) (unV b2) = false by simpa using hm] at C
        clear hm r0 r1 r2 u0 u1 u2
        generalize unV b0 = x0 at *
        generalize unV b1 = x1 at *
        generalize unV b2 = x2 at *
        rw [msfV] at C HR
        go_wp2_with fail
        refine (C.out _).mono ?_
        rintro e w2 ⟨rfl, hb2⟩
        have z0 : w2.cell? ⟨w.heap.size, 0, none⟩ = some (.int .i64 0) := (hz.below hb2 hlt).cell 0
        have z1 : w2.cell? ⟨w.heap.size, 1, none⟩ = some (.int .i64 0) := (hz.below hb2 hlt).cell 1
        have z2 : w2.cell? ⟨w.heap.size, 2, none⟩ = some (.int .i64 0) := (hz.below hb2 hlt).cell 2
        have y0 := (hz.below hb2 hlt).frozen 0
        have y1 := (hz.below hb2 hlt).frozen 1
        have y2 := (hz.below hb2 hlt).frozen 2
        have hs2 : w.heap.size < w2.heap.size := by have := hb2.size; omega
        have b2' : Below w.heap.size w w2 := hb.trans (hb2.mono hb.size)
        go_wp2_with fail
        refine bodyPost_ret (v := .tuple #[.agg #[.int .i64 0, .int .i64 0, .int .i64 0], .int .i64 10]) (by simp [results, Tryz.results51, go_sem, z0, z1, z2, hs2]) rfl ⟨by rw [HR.out], ?_⟩
        exact (((b2'.setCell (p := ⟨w.heap.size, 0, none⟩) (Nat.le_refl _) _).setCell (p := ⟨w.heap.size, 1, none⟩) (Nat.le_refl _) _).setCell (p := ⟨w.heap.size, 2, none⟩) (Nat.le_refl _) _).alloc (by simp; omega) _
theorem msfN_ok {n : Int} (h0 : 0 ≤ n) (h1 : n ≤ 449999) : msfOk (n / 75 / 60) (n / 75 % 60) (n % 75) = true := msfOk_iff.2 (by omega)

def modeOk (m : Int) : Bool := decide (m = 0 ∨ m = 1 ∨ m = 2)
theorem modeOk_iff {m : Int} : modeOk m = true ↔ m = 0 ∨ m = 1 ∨ m = 2 := decide_eq_true_iff
def lByte (m : Int) : Int := if m = 0 then 1 else 2
def lData (m : Int) : Int := if m = 0 then 16 else 24
def lCap (m : Int) : Int := if m = 2 then 2324 else 2048
def lCov (m : Int) : Int := if m = 0 then 0 else 16
def layV (m : Int) : Value := .agg #[.int .u8 (lByte m), .int .i64 (lData m), .int .i64 (lCap m), .int .i64 (lCov m)]

set_option maxHeartbeats 1000000 in
theorem layouts_ok (m : Int) (w : World) (h : modeOk m = true) :
    Calls Tryz.prog 49 #[.int .i64 m] w fun e w' => e = .returned (.tuple #[layV m, .bool true]) ∧ Below w.heap.size w w' := by
  rcases modeOk_iff.1 h with rfl | rfl | rfl
  · go_enter Tryz.func49, Tryz.ntmps49
    go_wp2_with fail
    exact bodyPost_ret (v := .tuple #[.agg #[.int .u8 1, .int .i64 16, .int .i64 2048, .int .i64 0], .bool true]) (by simp [results, Tryz.results49, go_sem]) rfl ⟨rfl, ((Below.refl _ _).alloc (Nat.le_refl _) _).alloc (by simp) _⟩
  · go_enter Tryz.func49, Tryz.ntmps49
    go_wp2_with fail
    exact bodyPost_ret (v := .tuple #[.agg #[.int .u8 2, .int .i64 24, .int .i64 2048, .int .i64 16], .bool true]) (by simp [results, Tryz.results49, go_sem]) rfl ⟨rfl, ((Below.refl _ _).alloc (Nat.le_refl _) _).alloc (by simp) _⟩
  · go_enter Tryz.func49, Tryz.ntmps49
    go_wp2_with fail
    exact bodyPost_ret (v := .tuple #[.agg #[.int .u8 2, .int .i64 24, .int .i64 2324, .int .i64 16], .bool true]) (by simp [results, Tryz.results49, go_sem]) rfl ⟨rfl, ((Below.refl _ _).alloc (Nat.le_refl _) _).alloc (by simp) _⟩
theorem layouts_no (m : Int) (w : World) (h : modeOk m = false) :
    Calls Tryz.prog 49 #[.int .i64 m] w fun e w' => e = .returned (.tuple #[.agg #[.int .u8 0, .int .i64 0, .int .i64 0, .int .i64 0], .bool false]) ∧ Below w.heap.size w w' := by
  have h' : ¬ (m = 0 ∨ m = 1 ∨ m = 2) := fun hh => by rw [modeOk_iff.2 hh] at h; cases h
  clear h
  by_cases h0 : m < 0
  all_goals
    (first | (have h1 : 3 ≤ m := by omega) | skip)
    clear h'
    go_enter Tryz.func49, Tryz.ntmps49
    go_wp2_with fail
    exact bodyPost_ret (v := .tuple #[.agg #[.int .u8 0, .int .i64 0, .int .i64 0, .int .i64 0], .bool false]) (by simp [results, Tryz.results49, go_sem]) rfl ⟨rfl, ((Below.refl _ _).alloc (Nat.le_refl _) _).alloc (by simp) _⟩
theorem ledc_any (m : Int) (w : World) :
    Calls Tryz.prog 50 #[layV m] w fun e w' => e = .returned (.int .i64 (lData m + lCap m)) ∧ Below w.heap.size w w' := by
  have h1 : 0 ≤ lData m ∧ lData m ≤ 24 := by unfold lData; split <;> omega
  have h2 : 0 ≤ lCap m ∧ lCap m ≤ 2324 := by unfold lCap; split <;> omega
  obtain ⟨h1, h1'⟩ := h1
  obtain ⟨h2, h2'⟩ := h2
  rw [layV]
  generalize lData m = a at *
  generalize lCap m = b at *
  generalize lByte m = c at *
  generalize lCov m = d at *
  go_enter Tryz.func50, Tryz.ntmps50
  go_wp2_with fail
  go_ret
  exact ⟨rfl, (Below.refl _ _).alloc (Nat.le_refl _) _⟩

theorem keepL {w0 W w1 : World} {g : Nat} {a b c d : Value} (hb : Below W.heap.size W w1) (h0 : W.cell? ⟨g, 0, none⟩ = some a) (h1 : W.cell? ⟨g, 1, none⟩ = some b) (h2 : W.cell? ⟨g, 2, none⟩ = some c) (h3 : W.cell? ⟨g, 3, none⟩ = some d) (hg : g < W.heap.size) (hB : Below w0.heap.size w0 W) :
    w1.cell? ⟨g, 0, none⟩ = some a ∧ w1.cell? ⟨g, 1, none⟩ = some b ∧ w1.cell? ⟨g, 2, none⟩ = some c ∧ w1.cell? ⟨g, 3, none⟩ = some d ∧ g < w1.heap.size ∧ Below w0.heap.size w0 w1 :=
  ⟨(hb.cell (p := ⟨g, 0, none⟩) hg).trans h0, (hb.cell (p := ⟨g, 1, none⟩) hg).trans h1, (hb.cell (p := ⟨g, 2, none⟩) hg).trans h2, (hb.cell (p := ⟨g, 3, none⟩) hg).trans h3, Nat.lt_of_lt_of_le hg hb.size, hB.trans (hb.mono hB.size)⟩

def btw (n q : Int) : Bool := decide (0 ≤ n ∧ n ≤ q)
theorem btw_iff {n q : Int} : btw n q = true ↔ 0 ≤ n ∧ n ≤ q := decide_eq_true_iff
theorem between_any (n q : Int) (w : World) :
    Calls Tryz.prog 97 #[.int .i64 n, .int .i64 q] w fun e w' => e = .returned (.bool (btw n q)) ∧ w = w' := by
  by_cases h0 : 0 ≤ n
  · have HR := Lib.hid (show btw n q = decide (n ≤ q) by unfold btw; simp [h0])
    go_enter Tryz.func97, Tryz.ntmps97
    go_wp2_with fail
    go_ret
    exact ⟨by rw [HR.out]; rfl, rfl⟩
  · have HR := Lib.hid (show btw n q = false by unfold btw; simp [h0])
    have h0' : n < 0 := by omega
    clear h0
    go_enter Tryz.func97, Tryz.ntmps97
    go_wp2_with fail
    go_ret
    exact ⟨by rw [HR.out]; rfl, rfl⟩
structure Sec where
  lba : Int
  mode : Int
  fi : Int
  ch : Int
  su : Int
  co : Int
  data : ByteArray
def secV7 (x : Sec) : Value := .agg #[.int .i64 x.lba, .int .i64 x.mode, .int .i64 x.fi, .int .i64 x.ch, .int .i64 x.su, .int .i64 x.co, .string x.data]
def subOk (x : Sec) : Bool :=
  if x.mode = 0 then decide (x.fi = 0 ∧ x.ch = 0 ∧ x.su = 0 ∧ x.co = 0)
  else btw x.fi 255 && btw x.ch 31 && btw x.su 255 && btw x.co 255 && decide (x.su / 32 % 2 = 1 ↔ x.mode = 2)
def validB (x : Sec) : Bool := modeOk x.mode && decide (-150 ≤ x.lba ∧ x.lba ≤ 449849) && decide ((x.data.size : Int) = lCap x.mode) && subOk x

theorem bcell7 {B : Nat} {W w1 : World} (hb : Below B W w1) : ∀ b o, b < B → w1.cell? ⟨b, o, none⟩ = W.cell? ⟨b, o, none⟩ := fun b o h => hb.cell (p := ⟨b, o, none⟩) h
theorem and32_fin : ∀ k : Fin 256, bits BinOp.and IntKind.i64 (k.val : Int) 32 = if (k.val : Int) / 32 % 2 = 1 then 32 else 0 := by decide +kernel
theorem and32 {n : Int} (h0 : 0 ≤ n) (h1 : n ≤ 255) : bits BinOp.and IntKind.i64 n 32 = if n / 32 % 2 = 1 then 32 else 0 := by
  have := and32_fin ⟨n.toNat, by omega⟩
  simpa [Int.toNat_of_nonneg h0] using this

theorem tomsf_any (n : Int) (hn : -9223372036854775808 ≤ n) : ∃ a b c e : Int, (∀ w, Calls Tryz.prog 64 #[.int .i64 n] w fun r w' => r = .returned (.tuple #[.agg #[.int .i64 a, .int .i64 b, .int .i64 c], .int .i64 e]) ∧ Below w.heap.size w w') ∧ ((e = 0 ∧ -150 ≤ n ∧ n ≤ 449849) ∨ (e = 2 ∧ (n < -150 ∨ 449849 < n))) := by
  by_cases h : -150 ≤ n ∧ n ≤ 449849
  · exact ⟨_, _, _, 0, fun w => tomsf_ok n w h.1 h.2, .inl ⟨rfl, h⟩⟩
  · exact ⟨_, _, _, 2, fun w => tomsf_no n w hn (by omega), .inr ⟨rfl, by omega⟩⟩

/-- The bad modes. -/
theorem valid_mode (x : Sec) (w : World) (hn : -9223372036854775808 ≤ x.lba) (h : modeOk x.mode = false) :
    Calls Tryz.prog 63 #[secV7 x] w fun e w' => e = .returned (.bool false) ∧ Below w.heap.size w w' := by
  obtain ⟨lba, mode, fi, ch, su, co, data⟩ := x
  obtain ⟨a, b, c, e, hC, _⟩ := tomsf_any lba hn
  have C1 := Lib.hid (fun w => layouts_no mode w h)
  have C2 := Lib.hid hC
  rw [secV7]
  clear hC h
  go_enter Tryz.func63, Tryz.ntmps63
  go_wp2_with fail
  refine (C1.out _).mono ?_
  rintro r w1 ⟨rfl, hb1⟩
  have hs1 : w.heap.size < w1.heap.size := by have := hb1.size; simp at this; omega
  have hc1 := bcell7 hb1
  go_wp2_with fail
  refine (C2.out _).mono ?_
  rintro r w2 ⟨rfl, hb2⟩
  have hs2 : w1.heap.size < w2.heap.size := by have := hb2.size; simp at this; omega
  have hc2 := bcell7 hb2
  go_wp2_with fail
  go_ret
  have b1 : Below w.heap.size w w1 := ((Below.refl _ _).alloc (Nat.le_refl _) _).trans (hb1.mono (by simp))
  have b2 : Below w.heap.size w w2 := (b1.alloc b1.size _).trans (hb2.mono (by simp; omega))
  exact ⟨rfl, b2.alloc b2.size _⟩

set_option maxHeartbeats 1000000 in
theorem valid_size (x : Sec) (w : World) (hn : -9223372036854775808 ≤ x.lba) (hd : x.data.size ≤ 9223372036854775807) (hm : modeOk x.mode = true) (h : ¬ (-150 ≤ x.lba ∧ x.lba ≤ 449849 ∧ (x.data.size : Int) = lCap x.mode)) :
    Calls Tryz.prog 63 #[secV7 x] w fun e w' => e = .returned (.bool false) ∧ Below w.heap.size w w' := by
  obtain ⟨lba, mode, fi, ch, su, co, data⟩ := x
  obtain ⟨a, b, c, e, hC, he⟩ := tomsf_any lba hn
  have C1 := Lib.hid (fun w => layouts_ok mode w hm)
  have C2 := Lib.hid hC
  rw [layV] at C1
  rw [secV7]
  have hq : (e = 2) ∨ (e = 0 ∧ ((data.size : Int) != lCap mode) = true) := by
    rcases he with ⟨h1, h2, h3⟩ | ⟨h1, h2⟩
    · exact .inr ⟨h1, by simp only [bne_iff_ne]; intro hh; exact h ⟨h2, h3, hh⟩⟩
    · exact .inl h1
  clear hC h he
  generalize lData mode = l1 at *
  generalize lCap mode = l2 at *
  generalize lByte mode = l0 at *
  generalize lCov mode = l3 at *
  rcases hq with rfl | ⟨rfl, hq⟩
  all_goals
    go_enter Tryz.func63, Tryz.ntmps63
    go_wp2_with fail
    refine (C1.out _).mono ?_
    rintro r w1 ⟨rfl, hb1⟩
    have hs1 : w.heap.size < w1.heap.size := by have := hb1.size; simp at this; omega
    have hr1 : RowAt w1 w.heap.size 56 _ := (RowAt.new w _ _).below hb1 (by simp)
    have hc1 := hr1.cell
    go_wp2_with fail
    refine (C2.out _).mono ?_
    rintro r w2 ⟨rfl, hb2⟩
    have hs2 : w1.heap.size < w2.heap.size := by have := hb2.size; simp at this; omega
    have hr2 : RowAt w2 w.heap.size 56 _ := (hr1.alloc _).below hb2 (by simp; omega)
    have hl2 : RowAt w2 w1.heap.size 95 #[.int .u8 l0, .int .i64 l1, .int .i64 l2, .int .i64 l3] := (RowAt.new w1 _ _).below hb2 (by simp)
    have hc2 := hr2.cell
    have hm2 := hl2.cell
    have hs3 : w.heap.size < w2.heap.size := by omega
    have b1 : Below w.heap.size w w1 := ((Below.refl _ _).alloc (Nat.le_refl _) _).trans (hb1.mono (by simp))
    have b2 : Below w.heap.size w w2 := (b1.alloc b1.size _).trans (hb2.mono (by simp; omega))
    go_wp2_with fail
    go_ret
    exact ⟨rfl, b2.alloc b2.size _⟩

set_option maxHeartbeats 2000000 in
theorem valid_one (x : Sec) (w : World) (hd : x.data.size ≤ 9223372036854775807) (hm : x.mode = 0) (h1 : -150 ≤ x.lba) (h2 : x.lba ≤ 449849) (h3 : (x.data.size : Int) = lCap x.mode) :
    Calls Tryz.prog 63 #[secV7 x] w fun e w' => e = .returned (.bool (subOk x)) ∧ Below w.heap.size w w' := by
  obtain ⟨lba, mode, fi, ch, su, co, data⟩ := x
  dsimp only at *
  subst hm
  have C1 : Hid (∀ w, Calls Tryz.prog 49 #[.int .i64 0] w fun e w' => e = .returned (.tuple #[.agg #[.int .u8 1, .int .i64 16, .int .i64 2048, .int .i64 0], .bool true]) ∧ Below w.heap.size w w') := fun w => layouts_ok 0 w rfl
  have C2 := Lib.hid (fun w => tomsf_ok lba w h1 h2)
  have hsz : ((data.size : Int) != 2048) = false := by rw [h3]; rfl
  rw [secV7]
  rw [msfV] at C2
  generalize (lba + 150) / 75 / 60 = m0 at *
  generalize (lba + 150) / 75 % 60 = m1 at *
  generalize (lba + 150) % 75 = m2 at *
  clear h3
  have hcs : fi ≠ 0 ∨ (fi = 0 ∧ ch ≠ 0) ∨ (fi = 0 ∧ ch = 0 ∧ su ≠ 0) ∨ (fi = 0 ∧ ch = 0 ∧ su = 0 ∧ co ≠ 0) ∨ (fi = 0 ∧ ch = 0 ∧ su = 0 ∧ co = 0) := by omega
  have hbv : subOk ⟨lba, 0, fi, ch, su, co, data⟩ = decide (fi = 0 ∧ ch = 0 ∧ su = 0 ∧ co = 0) := rfl
  generalize subOk ⟨lba, 0, fi, ch, su, co, data⟩ = bv at *
  rcases hcs with h | ⟨rfl, h⟩ | ⟨rfl, rfl, h⟩ | ⟨rfl, rfl, rfl, h⟩ | ⟨rfl, rfl, rfl, rfl⟩
  · obtain rfl : bv = false := by rw [hbv]; exact decide_eq_false (by omega)
    clear hbv
    have hn0 := beq_eq_false_iff_ne.2 h
    clear h
    go_enter Tryz.func63, Tryz.ntmps63
    go_wp2_with fail
    refine (C1.out _).mono ?_
    rintro r w1 ⟨rfl, hb1⟩
    have hs1 : w.heap.size < w1.heap.size := by have := hb1.size; simp at this; omega
    have hr1 : RowAt w1 w.heap.size 56 _ := (RowAt.new w _ _).below hb1 (by simp)
    have hc1 := hr1.cell
    go_wp2_with fail
    refine (C2.out _).mono ?_
    rintro r w2 ⟨rfl, hb2⟩
    have hs2 : w1.heap.size < w2.heap.size := by have := hb2.size; simp at this; omega
    have hr2 : RowAt w2 w.heap.size 56 _ := (hr1.alloc _).below hb2 (by simp; omega)
    have hl2 : RowAt w2 w1.heap.size 95 #[.int .u8 1, .int .i64 16, .int .i64 2048, .int .i64 0] := (RowAt.new w1 _ _).below hb2 (by simp)
    have hc2 := hr2.cell
    have hm2 := hl2.cell
    have hs3 : w.heap.size < w2.heap.size := by omega
    have b1 : Below w.heap.size w w1 := ((Below.refl _ _).alloc (Nat.le_refl _) _).trans (hb1.mono (by simp))
    have b2 : Below w.heap.size w w2 := (b1.alloc b1.size _).trans (hb2.mono (by simp; omega))
    go_wp2_with fail
    go_ret
    exact ⟨rfl, b2.alloc b2.size _⟩
  · obtain rfl : bv = false := by rw [hbv]; exact decide_eq_false (by omega)
    clear hbv
    have hn0 := beq_eq_false_iff_ne.2 h
    clear h
    go_enter Tryz.func63, Tryz.ntmps63
    go_wp2_with fail
    refine (C1.out _).mono ?_
    rintro r w1 ⟨rfl, hb1⟩
    have hs1 : w.heap.size < w1.heap.size := by have := hb1.size; simp at this; omega
    have hr1 : RowAt w1 w.heap.size 56 _ := (RowAt.new w _ _).below hb1 (by simp)
    have hc1 := hr1.cell
    go_wp2_with fail
    refine (C2.out _).mono ?_
    rintro r w2 ⟨rfl, hb2⟩
    have hs2 : w1.heap.size < w2.heap.size := by have := hb2.size; simp at this; omega
    have hr2 : RowAt w2 w.heap.size 56 _ := (hr1.alloc _).below hb2 (by simp; omega)
    have hl2 : RowAt w2 w1.heap.size 95 #[.int .u8 1, .int .i64 16, .int .i64 2048, .int .i64 0] := (RowAt.new w1 _ _).below hb2 (by simp)
    have hc2 := hr2.cell
    have hm2 := hl2.cell
    have hs3 : w.heap.size < w2.heap.size := by omega
    have b1 : Below w.heap.size w w1 := ((Below.refl _ _).alloc (Nat.le_refl _) _).trans (hb1.mono (by simp))
    have b2 : Below w.heap.size w w2 := (b1.alloc b1.size _).trans (hb2.mono (by simp; omega))
    go_wp2_with fail
    go_ret
    exact ⟨rfl, b2.alloc b2.size _⟩
  · obtain rfl : bv = false := by rw [hbv]; exact decide_eq_false (by omega)
    clear hbv
    have hn0 := beq_eq_false_iff_ne.2 h
    clear h
    go_enter Tryz.func63, Tryz.ntmps63
    go_wp2_with fail
    refine (C1.out _).mono ?_
    rintro r w1 ⟨rfl, hb1⟩
    have hs1 : w.heap.size < w1.heap.size := by have := hb1.size; simp at this; omega
    have hr1 : RowAt w1 w.heap.size 56 _ := (RowAt.new w _ _).below hb1 (by simp)
    have hc1 := hr1.cell
    go_wp2_with fail
    refine (C2.out _).mono ?_
    rintro r w2 ⟨rfl, hb2⟩
    have hs2 : w1.heap.size < w2.heap.size := by have := hb2.size; simp at this; omega
    have hr2 : RowAt w2 w.heap.size 56 _ := (hr1.alloc _).below hb2 (by simp; omega)
    have hl2 : RowAt w2 w1.heap.size 95 #[.int .u8 1, .int .i64 16, .int .i64 2048, .int .i64 0] := (RowAt.new w1 _ _).below hb2 (by simp)
    have hc2 := hr2.cell
    have hm2 := hl2.cell
    have hs3 : w.heap.size < w2.heap.size := by omega
    have b1 : Below w.heap.size w w1 := ((Below.refl _ _).alloc (Nat.le_refl _) _).trans (hb1.mono (by simp))
    have b2 : Below w.heap.size w w2 := (b1.alloc b1.size _).trans (hb2.mono (by simp; omega))
    go_wp2_with fail
    go_ret
    exact ⟨rfl, b2.alloc b2.size _⟩
  · obtain rfl : bv = false := by rw [hbv]; exact decide_eq_false (by omega)
    clear hbv
    have hn0 := beq_eq_false_iff_ne.2 h
    clear h
    go_enter Tryz.func63, Tryz.ntmps63
    go_wp2_with fail
    refine (C1.out _).mono ?_
    rintro r w1 ⟨rfl, hb1⟩
    have hs1 : w.heap.size < w1.heap.size := by have := hb1.size; simp at this; omega
    have hr1 : RowAt w1 w.heap.size 56 _ := (RowAt.new w _ _).below hb1 (by simp)
    have hc1 := hr1.cell
    go_wp2_with fail
    refine (C2.out _).mono ?_
    rintro r w2 ⟨rfl, hb2⟩
    have hs2 : w1.heap.size < w2.heap.size := by have := hb2.size; simp at this; omega
    have hr2 : RowAt w2 w.heap.size 56 _ := (hr1.alloc _).below hb2 (by simp; omega)
    have hl2 : RowAt w2 w1.heap.size 95 #[.int .u8 1, .int .i64 16, .int .i64 2048, .int .i64 0] := (RowAt.new w1 _ _).below hb2 (by simp)
    have hc2 := hr2.cell
    have hm2 := hl2.cell
    have hs3 : w.heap.size < w2.heap.size := by omega
    have b1 : Below w.heap.size w w1 := ((Below.refl _ _).alloc (Nat.le_refl _) _).trans (hb1.mono (by simp))
    have b2 : Below w.heap.size w w2 := (b1.alloc b1.size _).trans (hb2.mono (by simp; omega))
    go_wp2_with fail
    go_ret
    exact ⟨rfl, b2.alloc b2.size _⟩
  · obtain rfl : bv = true := by rw [hbv]; simp
    clear hbv
    go_enter Tryz.func63, Tryz.ntmps63
    go_wp2_with fail
    refine (C1.out _).mono ?_
    rintro r w1 ⟨rfl, hb1⟩
    have hs1 : w.heap.size < w1.heap.size := by have := hb1.size; simp at this; omega
    have hr1 : RowAt w1 w.heap.size 56 _ := (RowAt.new w _ _).below hb1 (by simp)
    have hc1 := hr1.cell
    go_wp2_with fail
    refine (C2.out _).mono ?_
    rintro r w2 ⟨rfl, hb2⟩
    have hs2 : w1.heap.size < w2.heap.size := by have := hb2.size; simp at this; omega
    have hr2 : RowAt w2 w.heap.size 56 _ := (hr1.alloc _).below hb2 (by simp; omega)
    have hl2 : RowAt w2 w1.heap.size 95 #[.int .u8 1, .int .i64 16, .int .i64 2048, .int .i64 0] := (RowAt.new w1 _ _).below hb2 (by simp)
    have hc2 := hr2.cell
    have hm2 := hl2.cell
    have hs3 : w.heap.size < w2.heap.size := by omega
    have b1 : Below w.heap.size w w1 := ((Below.refl _ _).alloc (Nat.le_refl _) _).trans (hb1.mono (by simp))
    have b2 : Below w.heap.size w w2 := (b1.alloc b1.size _).trans (hb2.mono (by simp; omega))
    go_wp2_with fail
    go_ret
    exact ⟨rfl, b2.alloc b2.size _⟩

set_option maxHeartbeats 4000000 in
theorem valid_two (x : Sec) (w : World) (hd : x.data.size ≤ 9223372036854775807) (hm : x.mode = 1 ∨ x.mode = 2) (h1 : -150 ≤ x.lba) (h2 : x.lba ≤ 449849) (h3 : (x.data.size : Int) = lCap x.mode) :
    Calls Tryz.prog 63 #[secV7 x] w fun e w' => e = .returned (.bool (subOk x)) ∧ Below w.heap.size w w' := by
  obtain ⟨lba, mode, fi, ch, su, co, data⟩ := x
  dsimp only at *
  have C1 := Lib.hid (fun w => layouts_ok mode w (modeOk_iff.2 (by omega)))
  rw [layV] at C1
  have C2 := Lib.hid (fun w => tomsf_ok lba w h1 h2)
  have hsz : ((data.size : Int) != lCap mode) = false := by rw [h3]; simp
  have hm0 : (mode == 0) = false := by rw [beq_eq_false_iff_ne]; omega
  have hbv : subOk ⟨lba, mode, fi, ch, su, co, data⟩ = (btw fi 255 && btw ch 31 && btw su 255 && btw co 255 && decide (su / 32 % 2 = 1 ↔ mode = 2)) := if_neg (by dsimp only; omega)
  have B1 := Lib.hid (fun w => between_any fi 255 w)
  have B2 := Lib.hid (fun w => between_any ch 31 w)
  have B3 := Lib.hid (fun w => between_any su 255 w)
  have B4 := Lib.hid (fun w => between_any co 255 w)
  have hsu : btw su 255 = true → bits .and .i64 su 32 = if su / 32 % 2 = 1 then 32 else 0 := fun h => and32 (btw_iff.1 h).1 (btw_iff.1 h).2
  rw [secV7]
  rw [msfV] at C2
  generalize (lba + 150) / 75 / 60 = m0 at *
  generalize (lba + 150) / 75 % 60 = m1 at *
  generalize (lba + 150) % 75 = m2 at *
  generalize lData mode = l1 at *
  generalize lCap mode = l2 at *
  generalize lByte mode = l0 at *
  generalize lCov mode = l3 at *
  generalize subOk ⟨lba, mode, fi, ch, su, co, data⟩ = bv at *
  generalize btw fi 255 = b1 at *
  generalize btw ch 31 = b2 at *
  generalize btw su 255 = b3 at *
  generalize btw co 255 = b4 at *
  obtain ⟨tw, htw⟩ : ∃ tw, (mode == 2) = tw := ⟨_, rfl⟩
  have hbv2 : bv = (b1 && b2 && b3 && b4 && (decide (su / 32 % 2 = 1) == tw)) := by
    rw [hbv, ← htw]
    congr 1
    by_cases a : su / 32 % 2 = 1 <;> by_cases b : mode = 2 <;> simp [a, b]
  clear h3 hbv hm
  have hcs : (b1 = false) ∨ (b1 = true ∧ b2 = false) ∨ (b1 = true ∧ b2 = true ∧ b3 = false) ∨ (b1 = true ∧ b2 = true ∧ b3 = true ∧ b4 = false) ∨ (b1 = true ∧ b2 = true ∧ b3 = true ∧ b4 = true) := by
    cases b1 <;> cases b2 <;> cases b3 <;> cases b4 <;> simp
  rcases hcs with rfl | ⟨rfl, rfl⟩ | ⟨rfl, rfl, rfl⟩ | ⟨rfl, rfl, rfl, rfl⟩ | ⟨rfl, rfl, rfl, rfl⟩
  · obtain rfl : bv = false := by rw [hbv2]; simp
    clear hbv2 hsu
    go_enter Tryz.func63, Tryz.ntmps63
    go_wp2_with fail
    refine (C1.out _).mono ?_
    rintro r w1 ⟨rfl, hb1⟩
    have hs1 : w.heap.size < w1.heap.size := by have := hb1.size; simp at this; omega
    have hr1 : RowAt w1 w.heap.size 56 _ := (RowAt.new w _ _).below hb1 (by simp)
    have hc1 := hr1.cell
    go_wp2_with fail
    refine (C2.out _).mono ?_
    rintro r w2 ⟨rfl, hb2⟩
    have hs2 : w1.heap.size < w2.heap.size := by have := hb2.size; simp at this; omega
    have hr2 : RowAt w2 w.heap.size 56 _ := (hr1.alloc _).below hb2 (by simp; omega)
    have hl2 : RowAt w2 w1.heap.size 95 #[.int .u8 l0, .int .i64 l1, .int .i64 l2, .int .i64 l3] := (RowAt.new w1 _ _).below hb2 (by simp)
    have hc2 := hr2.cell
    have hm2 := hl2.cell
    have hs3 : w.heap.size < w2.heap.size := by omega
    have bw1 : Below w.heap.size w w1 := ((Below.refl _ _).alloc (Nat.le_refl _) _).trans (hb1.mono (by simp))
    have bw2 : Below w.heap.size w w2 := (bw1.alloc bw1.size _).trans (hb2.mono (by simp; omega))
    go_wp2_with fail
    refine (B1.out _).mono ?_
    rintro r w' ⟨rfl, rfl⟩
    go_wp2_with fail
    go_ret
    exact ⟨rfl, (bw2.alloc bw2.size _).alloc (by have := bw2.size; simp; omega) _⟩
  · obtain rfl : bv = false := by rw [hbv2]; simp
    clear hbv2 hsu
    go_enter Tryz.func63, Tryz.ntmps63
    go_wp2_with fail
    refine (C1.out _).mono ?_
    rintro r w1 ⟨rfl, hb1⟩
    have hs1 : w.heap.size < w1.heap.size := by have := hb1.size; simp at this; omega
    have hr1 : RowAt w1 w.heap.size 56 _ := (RowAt.new w _ _).below hb1 (by simp)
    have hc1 := hr1.cell
    go_wp2_with fail
    refine (C2.out _).mono ?_
    rintro r w2 ⟨rfl, hb2⟩
    have hs2 : w1.heap.size < w2.heap.size := by have := hb2.size; simp at this; omega
    have hr2 : RowAt w2 w.heap.size 56 _ := (hr1.alloc _).below hb2 (by simp; omega)
    have hl2 : RowAt w2 w1.heap.size 95 #[.int .u8 l0, .int .i64 l1, .int .i64 l2, .int .i64 l3] := (RowAt.new w1 _ _).below hb2 (by simp)
    have hc2 := hr2.cell
    have hm2 := hl2.cell
    have hs3 : w.heap.size < w2.heap.size := by omega
    have bw1 : Below w.heap.size w w1 := ((Below.refl _ _).alloc (Nat.le_refl _) _).trans (hb1.mono (by simp))
    have bw2 : Below w.heap.size w w2 := (bw1.alloc bw1.size _).trans (hb2.mono (by simp; omega))
    go_wp2_with fail
    refine (B1.out _).mono ?_
    rintro r w' ⟨rfl, rfl⟩
    go_wp2_with fail
    refine (B2.out _).mono ?_
    rintro r w' ⟨rfl, rfl⟩
    go_wp2_with fail
    go_ret
    exact ⟨rfl, (bw2.alloc bw2.size _).alloc (by have := bw2.size; simp; omega) _⟩
  · obtain rfl : bv = false := by rw [hbv2]; simp
    clear hbv2 hsu
    go_enter Tryz.func63, Tryz.ntmps63
    go_wp2_with fail
    refine (C1.out _).mono ?_
    rintro r w1 ⟨rfl, hb1⟩
    have hs1 : w.heap.size < w1.heap.size := by have := hb1.size; simp at this; omega
    have hr1 : RowAt w1 w.heap.size 56 _ := (RowAt.new w _ _).below hb1 (by simp)
    have hc1 := hr1.cell
    go_wp2_with fail
    refine (C2.out _).mono ?_
    rintro r w2 ⟨rfl, hb2⟩
    have hs2 : w1.heap.size < w2.heap.size := by have := hb2.size; simp at this; omega
    have hr2 : RowAt w2 w.heap.size 56 _ := (hr1.alloc _).below hb2 (by simp; omega)
    have hl2 : RowAt w2 w1.heap.size 95 #[.int .u8 l0, .int .i64 l1, .int .i64 l2, .int .i64 l3] := (RowAt.new w1 _ _).below hb2 (by simp)
    have hc2 := hr2.cell
    have hm2 := hl2.cell
    have hs3 : w.heap.size < w2.heap.size := by omega
    have bw1 : Below w.heap.size w w1 := ((Below.refl _ _).alloc (Nat.le_refl _) _).trans (hb1.mono (by simp))
    have bw2 : Below w.heap.size w w2 := (bw1.alloc bw1.size _).trans (hb2.mono (by simp; omega))
    go_wp2_with fail
    refine (B1.out _).mono ?_
    rintro r w' ⟨rfl, rfl⟩
    go_wp2_with fail
    refine (B2.out _).mono ?_
    rintro r w' ⟨rfl, rfl⟩
    go_wp2_with fail
    refine (B3.out _).mono ?_
    rintro r w' ⟨rfl, rfl⟩
    go_wp2_with fail
    go_ret
    exact ⟨rfl, (bw2.alloc bw2.size _).alloc (by have := bw2.size; simp; omega) _⟩
  · obtain rfl : bv = false := by rw [hbv2]; simp
    clear hbv2 hsu
    go_enter Tryz.func63, Tryz.ntmps63
    go_wp2_with fail
    refine (C1.out _).mono ?_
    rintro r w1 ⟨rfl, hb1⟩
    have hs1 : w.heap.size < w1.heap.size := by have := hb1.size; simp at this; omega
    have hr1 : RowAt w1 w.heap.size 56 _ := (RowAt.new w _ _).below hb1 (by simp)
    have hc1 := hr1.cell
    go_wp2_with fail
    refine (C2.out _).mono ?_
    rintro r w2 ⟨rfl, hb2⟩
    have hs2 : w1.heap.size < w2.heap.size := by have := hb2.size; simp at this; omega
    have hr2 : RowAt w2 w.heap.size 56 _ := (hr1.alloc _).below hb2 (by simp; omega)
    have hl2 : RowAt w2 w1.heap.size 95 #[.int .u8 l0, .int .i64 l1, .int .i64 l2, .int .i64 l3] := (RowAt.new w1 _ _).below hb2 (by simp)
    have hc2 := hr2.cell
    have hm2 := hl2.cell
    have hs3 : w.heap.size < w2.heap.size := by omega
    have bw1 : Below w.heap.size w w1 := ((Below.refl _ _).alloc (Nat.le_refl _) _).trans (hb1.mono (by simp))
    have bw2 : Below w.heap.size w w2 := (bw1.alloc bw1.size _).trans (hb2.mono (by simp; omega))
    go_wp2_with fail
    refine (B1.out _).mono ?_
    rintro r w' ⟨rfl, rfl⟩
    go_wp2_with fail
    refine (B2.out _).mono ?_
    rintro r w' ⟨rfl, rfl⟩
    go_wp2_with fail
    refine (B3.out _).mono ?_
    rintro r w' ⟨rfl, rfl⟩
    go_wp2_with fail
    refine (B4.out _).mono ?_
    rintro r w' ⟨rfl, rfl⟩
    go_wp2_with fail
    go_ret
    exact ⟨rfl, (bw2.alloc bw2.size _).alloc (by have := bw2.size; simp; omega) _⟩
  · have hand := hsu rfl
    by_cases hbit : su / 32 % 2 = 1
    · rw [if_pos hbit] at hand
      have HBV : Hid (bv = (true == tw)) := by rw [hbv2, decide_eq_true hbit]; exact (by simp : (true && true && true && true && (true == tw)) = (true == tw))
      clear hbv2 hsu
      go_enter Tryz.func63, Tryz.ntmps63
      go_wp2_with fail
      refine (C1.out _).mono ?_
      rintro r w1 ⟨rfl, hb1⟩
      have hs1 : w.heap.size < w1.heap.size := by have := hb1.size; simp at this; omega
      have hr1 : RowAt w1 w.heap.size 56 _ := (RowAt.new w _ _).below hb1 (by simp)
      have hc1 := hr1.cell
      go_wp2_with fail
      refine (C2.out _).mono ?_
      rintro r w2 ⟨rfl, hb2⟩
      have hs2 : w1.heap.size < w2.heap.size := by have := hb2.size; simp at this; omega
      have hr2 : RowAt w2 w.heap.size 56 _ := (hr1.alloc _).below hb2 (by simp; omega)
      have hl2 : RowAt w2 w1.heap.size 95 #[.int .u8 l0, .int .i64 l1, .int .i64 l2, .int .i64 l3] := (RowAt.new w1 _ _).below hb2 (by simp)
      have hc2 := hr2.cell
      have hm2 := hl2.cell
      have hs3 : w.heap.size < w2.heap.size := by omega
      have bw1 : Below w.heap.size w w1 := ((Below.refl _ _).alloc (Nat.le_refl _) _).trans (hb1.mono (by simp))
      have bw2 : Below w.heap.size w w2 := (bw1.alloc bw1.size _).trans (hb2.mono (by simp; omega))
      go_wp2_with fail
      refine (B1.out _).mono ?_
      rintro r w' ⟨rfl, rfl⟩
      go_wp2_with fail
      refine (B2.out _).mono ?_
      rintro r w' ⟨rfl, rfl⟩
      go_wp2_with fail
      refine (B3.out _).mono ?_
      rintro r w' ⟨rfl, rfl⟩
      go_wp2_with fail
      refine (B4.out _).mono ?_
      rintro r w' ⟨rfl, rfl⟩
      go_wp2_with fail
      go_ret
      exact ⟨ret_bool (by rw [HBV.out]; cases tw <;> simp), (bw2.alloc bw2.size _).alloc (by have := bw2.size; simp; omega) _⟩
    · rw [if_neg hbit] at hand
      have HBV : Hid (bv = (false == tw)) := by rw [hbv2, decide_eq_false hbit]; exact (by simp : (true && true && true && true && (false == tw)) = (false == tw))
      clear hbv2 hsu
      go_enter Tryz.func63, Tryz.ntmps63
      go_wp2_with fail
      refine (C1.out _).mono ?_
      rintro r w1 ⟨rfl, hb1⟩
      have hs1 : w.heap.size < w1.heap.size := by have := hb1.size; simp at this; omega
      have hr1 : RowAt w1 w.heap.size 56 _ := (RowAt.new w _ _).below hb1 (by simp)
      have hc1 := hr1.cell
      go_wp2_with fail
      refine (C2.out _).mono ?_
      rintro r w2 ⟨rfl, hb2⟩
      have hs2 : w1.heap.size < w2.heap.size := by have := hb2.size; simp at this; omega
      have hr2 : RowAt w2 w.heap.size 56 _ := (hr1.alloc _).below hb2 (by simp; omega)
      have hl2 : RowAt w2 w1.heap.size 95 #[.int .u8 l0, .int .i64 l1, .int .i64 l2, .int .i64 l3] := (RowAt.new w1 _ _).below hb2 (by simp)
      have hc2 := hr2.cell
      have hm2 := hl2.cell
      have hs3 : w.heap.size < w2.heap.size := by omega
      have bw1 : Below w.heap.size w w1 := ((Below.refl _ _).alloc (Nat.le_refl _) _).trans (hb1.mono (by simp))
      have bw2 : Below w.heap.size w w2 := (bw1.alloc bw1.size _).trans (hb2.mono (by simp; omega))
      go_wp2_with fail
      refine (B1.out _).mono ?_
      rintro r w' ⟨rfl, rfl⟩
      go_wp2_with fail
      refine (B2.out _).mono ?_
      rintro r w' ⟨rfl, rfl⟩
      go_wp2_with fail
      refine (B3.out _).mono ?_
      rintro r w' ⟨rfl, rfl⟩
      go_wp2_with fail
      refine (B4.out _).mono ?_
      rintro r w' ⟨rfl, rfl⟩
      go_wp2_with fail
      go_ret
      exact ⟨ret_bool (by rw [HBV.out]; cases tw <;> simp), (bw2.alloc bw2.size _).alloc (by have := bw2.size; simp; omega) _⟩
theorem valid7_any (x : Sec) (w : World) (hn : -9223372036854775808 ≤ x.lba) (hd : x.data.size ≤ 9223372036854775807) :
    Calls Tryz.prog 63 #[secV7 x] w fun e w' => e = .returned (.bool (validB x)) ∧ Below w.heap.size w w' := by
  by_cases hm : modeOk x.mode = true
  · by_cases h : -150 ≤ x.lba ∧ x.lba ≤ 449849 ∧ (x.data.size : Int) = lCap x.mode
    · have hv : validB x = subOk x := by
        unfold validB
        rw [hm, decide_eq_true (show -150 ≤ x.lba ∧ x.lba ≤ 449849 from ⟨h.1, h.2.1⟩), decide_eq_true h.2.2]
        simp
      rw [hv]
      rcases modeOk_iff.1 hm with h0 | h0
      · exact valid_one x w hd h0 h.1 h.2.1 h.2.2
      · exact valid_two x w hd h0 h.1 h.2.1 h.2.2
    · have hv : validB x = false := by
        unfold validB
        rw [hm, Bool.true_and, ← Bool.decide_and, decide_eq_false (fun hh => h ⟨hh.1.1, hh.1.2, hh.2⟩), Bool.false_and]
      rw [hv]
      exact valid_size x w hn hd hm h
  · have hm' : modeOk x.mode = false := by simpa using hm
    have hv : validB x = false := by unfold validB; rw [hm']; simp
    rw [hv]
    exact valid_mode x w hn hm'
end Go.Proofs.YtlnjphggfbiabaaGreat
