/-
  The walks of package address that chapter 7 reaches: ToMSF, ToLBA, Encode, Decode.
-/
import Derived.Test.YtdjpnabkmanboaaBcd
import Derived.Test.YtdjpnabkmanboaaStep
import Derived.Test.YtdjpnabkmanboaaShelf
import Derived.Deep.RegionWith
namespace Go.Proofs.Ytdjpnabkmanboaa
open Go.RowKit
set_option linter.unusedVariables false

def msfV (m s f : Int) : Value := .agg #[.int .i64 m, .int .i64 s, .int .i64 f]
def msfOk (m s f : Int) : Bool := decide (0 ≤ m ∧ m < 100 ∧ 0 ≤ s ∧ s < 60 ∧ 0 ≤ f ∧ f < 75)
theorem msfOk_iff {m s f : Int} : msfOk m s f = true ↔ 0 ≤ m ∧ m < 100 ∧ 0 ≤ s ∧ s < 60 ∧ 0 ≤ f ∧ f < 75 := decide_eq_true_iff

theorem numbered_ok (n : Int) (w : World) (h0 : 0 ≤ n) (h1 : n ≤ 449999) :
    Calls Try.prog 50 #[.int .i64 n] w fun e w' => e = .returned (.tuple #[msfV (n / 75 / 60) (n / 75 % 60) (n % 75), .bool true]) ∧ Below w.heap.size w w' := by
  go_enter Try.func50, Try.ntmps50
  go_wp2_with fail
  exact bodyPost_ret (v := .tuple #[.agg #[.int .i64 (n / 75 / 60), .int .i64 (n / 75 % 60), .int .i64 (n % 75)], .bool true]) (by simp [results, Try.results50, go_sem]) rfl ⟨rfl, (Below.refl _ _).alloc (Nat.le_refl _) _⟩
theorem numbered_no (n : Int) (w : World) (h : n < 0 ∨ 449999 < n) :
    Calls Try.prog 50 #[.int .i64 n] w fun e w' => e = .returned (.tuple #[msfV 0 0 0, .bool false]) ∧ Below w.heap.size w w' := by
  by_cases h0 : n < 0
  all_goals
    go_enter Try.func50, Try.ntmps50
    (first | (have h1 : 449999 < n := by omega) | skip)
    clear h
    go_wp2_with fail
    exact bodyPost_ret (v := .tuple #[.agg #[.int .i64 0, .int .i64 0, .int .i64 0], .bool false]) (by simp [results, Try.results50, go_sem]) rfl ⟨rfl, (Below.refl _ _).alloc (Nat.le_refl _) _⟩

theorem keep3 {B : Nat} {W w1 : World} (hb : Below B W w1) {g : Nat} (hg : g < B) {a b c : Value} (h0 : W.cell? ⟨g, 0, none⟩ = some a) (h1 : W.cell? ⟨g, 1, none⟩ = some b) (h2 : W.cell? ⟨g, 2, none⟩ = some c) :
    w1.cell? ⟨g, 0, none⟩ = some a ∧ w1.cell? ⟨g, 1, none⟩ = some b ∧ w1.cell? ⟨g, 2, none⟩ = some c :=
  ⟨(hb.cell (p := ⟨g, 0, none⟩) hg).trans h0, (hb.cell (p := ⟨g, 1, none⟩) hg).trans h1, (hb.cell (p := ⟨g, 2, none⟩) hg).trans h2⟩
theorem free3 {B : Nat} {W w1 : World} (hb : Below B W w1) {g : Nat} (hg : g < B) (h0 : W.frozen? ⟨g, 0, none⟩ = false) (h1 : W.frozen? ⟨g, 1, none⟩ = false) (h2 : W.frozen? ⟨g, 2, none⟩ = false) :
    w1.frozen? ⟨g, 0, none⟩ = false ∧ w1.frozen? ⟨g, 1, none⟩ = false ∧ w1.frozen? ⟨g, 2, none⟩ = false :=
  ⟨(hb.frozen (p := ⟨g, 0, none⟩) hg).trans h0, (hb.frozen (p := ⟨g, 1, none⟩) hg).trans h1, (hb.frozen (p := ⟨g, 2, none⟩) hg).trans h2⟩

set_option maxHeartbeats 400000 in
theorem tomsf_ok (n : Int) (w : World) (h0 : -150 ≤ n) (h1 : n ≤ 449849) :
    Calls Try.prog 27 #[.int .i64 n] w fun e w' => e = .returned (.tuple #[msfV ((n + 150) / 75 / 60) ((n + 150) / 75 % 60) ((n + 150) % 75), .int .i64 0]) ∧ Below w.heap.size w w' := by
  obtain ⟨a, ha⟩ : ∃ a, (n + 150) / 75 / 60 = a := ⟨_, rfl⟩
  obtain ⟨b, hb⟩ : ∃ b, (n + 150) / 75 % 60 = b := ⟨_, rfl⟩
  obtain ⟨c, hc⟩ : ∃ c, (n + 150) % 75 = c := ⟨_, rfl⟩
  have C := Lib.hid (fun w => numbered_ok (n + 150) w (by omega) (by omega))
  rw [ha, hb, hc] at C ⊢
  clear ha hb hc
  go_enter Try.func27, Try.ntmps27
  go_wp2_with fail
  refine (C.out _).mono ?_
  rintro e w1 ⟨rfl, hb1⟩
  rw [msfV]
  obtain ⟨d0, d1, d2⟩ := keep3 hb1 (g := w.heap.size) (a := .int .i64 0) (b := .int .i64 0) (c := .int .i64 0) (by simp) (by simp) (by simp) (by simp)
  obtain ⟨f0, f1, f2⟩ := free3 hb1 (g := w.heap.size) (by simp) (by simp) (by simp) (by simp)
  have hs1 : w.heap.size < w1.heap.size := by have := hb1.size; simp at this; omega
  go_wp2_with fail
  refine bodyPost_ret (v := .tuple #[.agg #[.int .i64 a, .int .i64 b, .int .i64 c], .int .i64 0]) (by simp [results, Try.results27, go_sem, d0, d1, d2, hs1]) rfl ⟨rfl, ?_⟩
  have b1 : Below w.heap.size w w1 := ((Below.refl _ _).alloc (Nat.le_refl _) _).trans (hb1.mono (by simp))
  exact (((b1.setCell (p := ⟨w.heap.size, 0, none⟩) (Nat.le_refl _) _).setCell (p := ⟨w.heap.size, 1, none⟩) (Nat.le_refl _) _).setCell (p := ⟨w.heap.size, 2, none⟩) (Nat.le_refl _) _).alloc (by simp; omega) _
set_option maxHeartbeats 400000 in
theorem tomsf_no (n : Int) (w : World) (hn : -9223372036854775808 ≤ n) (h : n < -150 ∨ 449849 < n) :
    Calls Try.prog 27 #[.int .i64 n] w fun e w' => e = .returned (.tuple #[msfV 0 0 0, .int .i64 2]) ∧ Below w.heap.size w w' := by
  by_cases h1 : 449849 < n
  · clear h
    go_enter Try.func27, Try.ntmps27
    go_wp2_with fail
    exact bodyPost_ret (v := .tuple #[.agg #[.int .i64 0, .int .i64 0, .int .i64 0], .int .i64 2]) (by simp [results, Try.results27, go_sem]) rfl ⟨rfl, (Below.refl _ _).alloc (Nat.le_refl _) _⟩
  · have C := Lib.hid (fun w => numbered_no (n + 150) w (by omega))
    have h2 : n < -150 := by omega
    clear h
    go_enter Try.func27, Try.ntmps27
    go_wp2_with fail
    refine (C.out _).mono ?_
    rintro e w1 ⟨rfl, hb1⟩
    rw [msfV]
    obtain ⟨d0, d1, d2⟩ := keep3 hb1 (g := w.heap.size) (a := .int .i64 0) (b := .int .i64 0) (c := .int .i64 0) (by simp) (by simp) (by simp) (by simp)
    obtain ⟨f0, f1, f2⟩ := free3 hb1 (g := w.heap.size) (by simp) (by simp) (by simp) (by simp)
    have hs1 : w.heap.size < w1.heap.size := by have := hb1.size; simp at this; omega
    go_wp2_with fail
    refine bodyPost_ret (v := .tuple #[.agg #[.int .i64 0, .int .i64 0, .int .i64 0], .int .i64 2]) (by simp [results, Try.results27, go_sem, d0, d1, d2, hs1]) rfl ⟨rfl, ?_⟩
    have b1 : Below w.heap.size w w1 := ((Below.refl _ _).alloc (Nat.le_refl _) _).trans (hb1.mono (by simp))
    exact (((b1.setCell (p := ⟨w.heap.size, 0, none⟩) (Nat.le_refl _) _).setCell (p := ⟨w.heap.size, 1, none⟩) (Nat.le_refl _) _).setCell (p := ⟨w.heap.size, 2, none⟩) (Nat.le_refl _) _).alloc (by simp; omega) _

theorem split_any (m s f : Int) (w : World) :
    Calls Try.prog 71 #[msfV m s f] w fun e w' => e = .returned (.agg #[.int .i64 m, .int .i64 s, .int .i64 f]) ∧ Below w.heap.size w w' := by
  rw [msfV]
  go_enter Try.func71, Try.ntmps71
  go_wp2_with fail
  exact bodyPost_ret (v := .agg #[.int .i64 m, .int .i64 s, .int .i64 f]) (by simp [results, Try.results71, go_sem]) rfl ⟨rfl, ((Below.refl _ _).alloc (Nat.le_refl _) _).alloc (by simp) _⟩
def limitOf (i : Int) : Int := if i = 0 then 100 else if i = 1 then 60 else 75
theorem limit_any (i : Int) (w : World) (h0 : 0 ≤ i) (h1 : i < 3) :
    Calls Try.prog 72 #[.int .i64 i] w fun e w' => e = .returned (.int .i64 (limitOf i)) ∧ Below w.heap.size w w' := by
  have : i = 0 ∨ i = 1 ∨ i = 2 := by omega
  rcases this with rfl | rfl | rfl
  all_goals
    go_enter Try.func72, Try.ntmps72
    go_wp2_with fail
    go_ret
    exact ⟨rfl, (Below.refl _ _).alloc (Nat.le_refl _) _⟩

set_option maxHeartbeats 2000000 in
theorem valid_any (m s f : Int) (w : World) :
    Calls Try.prog 51 #[msfV m s f] w fun e w' => e = .returned (.bool (msfOk m s f)) ∧ Below w.heap.size w w' := by
  have i0 : ∀ w, (Instr.index 87 (.agg #[.int .i64 m, .int .i64 s, .int .i64 f]) (.int .i64 0)).run Try.prog w = .ok (.int .i64 m) w := fun _ => by kernel_rfl
  have i1 : ∀ w, (Instr.index 87 (.agg #[.int .i64 m, .int .i64 s, .int .i64 f]) (.int .i64 1)).run Try.prog w = .ok (.int .i64 s) w := fun _ => by kernel_rfl
  have i2 : ∀ w, (Instr.index 87 (.agg #[.int .i64 m, .int .i64 s, .int .i64 f]) (.int .i64 2)).run Try.prog w = .ok (.int .i64 f) w := fun _ => by kernel_rfl
  have C := Lib.hid (split_any m s f)
  have L0 : Hid (∀ w, Calls Try.prog 72 #[.int .i64 0] w fun e w' => e = .returned (.int .i64 100) ∧ Below w.heap.size w w') := fun w => limit_any 0 w (by omega) (by omega)
  have L1 : Hid (∀ w, Calls Try.prog 72 #[.int .i64 1] w fun e w' => e = .returned (.int .i64 60) ∧ Below w.heap.size w w') := fun w => limit_any 1 w (by omega) (by omega)
  have L2 : Hid (∀ w, Calls Try.prog 72 #[.int .i64 2] w fun e w' => e = .returned (.int .i64 75) ∧ Below w.heap.size w w') := fun w => limit_any 2 w (by omega) (by omega)
  have HP : ∀ b, msfOk m s f = b → Hid (msfOk m s f = b) := fun _ h => h
  rw [msfV] at *
  go_enter Try.func51, Try.ntmps51
  go_wp2_with fail
  refine (C.out _).mono ?_
  rintro e w1 ⟨rfl, hb1⟩
  have b1 : Below w.heap.size w w1 := ((Below.refl _ _).alloc (Nat.le_refl _) _).trans (hb1.mono (by simp))
  go_wp2_with fail
  go_loopw [7] (fun i wr => ∃ k : Nat, k ≤ 3 ∧ i = .int .i64 k ∧ Below w.heap.size w wr ∧ (0 < k → 0 ≤ m ∧ m < 100) ∧ (1 < k → 0 ≤ s ∧ s < 60) ∧ (2 < k → 0 ≤ f ∧ f < 75)) (fun i _ => 3 - (intOf i).toNat)
  case atStart => exact ⟨0, by omega, rfl, b1, by omega, by omega, by omega⟩
  case round =>
    obtain ⟨k, hk, rfl, hb, r0, r1, r2⟩ := hrel
    have hkk : k = 0 ∨ k = 1 ∨ k = 2 ∨ k = 3 := by omega
    rcases hkk with rfl | rfl | rfl | rfl
    · by_cases c0 : m < 0
      · have HF := Lib.hid (show msfOk m s f = false from decide_eq_false (by omega))
        go_wp2_with fail
        go_ret
        exact ⟨by rw [HF.out]; rfl, hb⟩
      · have c0' : 0 ≤ m := by omega
        by_cases c1 : m < 100
        · clear c0
          go_wp2_with fail
          refine (L0.out _).mono ?_
          rintro e w2 ⟨rfl, hb2⟩
          go_wp2_with fail
          go_roundw
          case rel => exact ⟨1, by omega, by go_num, hb.trans (hb2.mono hb.size), by omega, by omega, by omega⟩
          case measure => simp [intOf]
        · have HF := Lib.hid (show msfOk m s f = false from decide_eq_false (by omega))
          have c1' : 100 ≤ m := by omega
          clear c0 c1
          go_wp2_with fail
          refine (L0.out _).mono ?_
          rintro e w2 ⟨rfl, hb2⟩
          go_wp2_with fail
          go_ret
          exact ⟨by rw [HF.out]; rfl, hb.trans (hb2.mono hb.size)⟩
    · by_cases c0 : s < 0
      · have HF := Lib.hid (show msfOk m s f = false from decide_eq_false (by omega))
        go_wp2_with fail
        go_ret
        exact ⟨by rw [HF.out]; rfl, hb⟩
      · have c0' : 0 ≤ s := by omega
        by_cases c1 : s < 60
        · clear c0
          go_wp2_with fail
          refine (L1.out _).mono ?_
          rintro e w2 ⟨rfl, hb2⟩
          go_wp2_with fail
          go_roundw
          case rel => exact ⟨2, by omega, by go_num, hb.trans (hb2.mono hb.size), by omega, by omega, by omega⟩
          case measure => simp [intOf]
        · have HF := Lib.hid (show msfOk m s f = false from decide_eq_false (by omega))
          have c1' : 60 ≤ s := by omega
          clear c0 c1
          go_wp2_with fail
          refine (L1.out _).mono ?_
          rintro e w2 ⟨rfl, hb2⟩
          go_wp2_with fail
          go_ret
          exact ⟨by rw [HF.out]; rfl, hb.trans (hb2.mono hb.size)⟩
    · by_cases c0 : f < 0
      · have HF := Lib.hid (show msfOk m s f = false from decide_eq_false (by omega))
        go_wp2_with fail
        go_ret
        exact ⟨by rw [HF.out]; rfl, hb⟩
      · have c0' : 0 ≤ f := by omega
        by_cases c1 : f < 75
        · clear c0
          go_wp2_with fail
          refine (L2.out _).mono ?_
          rintro e w2 ⟨rfl, hb2⟩
          go_wp2_with fail
          go_roundw
          case rel => exact ⟨3, by omega, by go_num, hb.trans (hb2.mono hb.size), by omega, by omega, by omega⟩
          case measure => simp [intOf]
        · have HF := Lib.hid (show msfOk m s f = false from decide_eq_false (by omega))
          have c1' : 75 ≤ f := by omega
          clear c0 c1
          go_wp2_with fail
          refine (L2.out _).mono ?_
          rintro e w2 ⟨rfl, hb2⟩
          go_wp2_with fail
          go_ret
          exact ⟨by rw [HF.out]; rfl, hb.trans (hb2.mono hb.size)⟩
    · have HT := Lib.hid (show msfOk m s f = true from decide_eq_true (by omega))
      go_wp2_with fail
      go_ret
      exact ⟨by rw [HT.out]; rfl, hb⟩

theorem number_any (m s f : Int) (w : World) (h : msfOk m s f = true) :
    Calls Try.prog 63 #[msfV m s f] w fun e w' => e = .returned (.int .i64 ((60 * m + s) * 75 + f)) ∧ Below w.heap.size w w' := by
  obtain ⟨h0, h1, h2, h3, h4, h5⟩ := msfOk_iff.1 h
  rw [msfV]
  go_enter Try.func63, Try.ntmps63
  go_wp2_with fail
  go_ret
  exact ⟨rfl, (Below.refl _ _).alloc (Nat.le_refl _) _⟩
theorem tolba_any (m s f : Int) (w : World) (h : msfOk m s f = true) :
    Calls Try.prog 41 #[msfV m s f] w fun e w' => e = .returned (.tuple #[.int .i64 ((60 * m + s) * 75 + f - 150), .int .i64 0]) ∧ Below w.heap.size w w' := by
  have C1 : Hid (∀ w, Calls Try.prog 51 #[msfV m s f] w fun e w' => e = .returned (.bool true) ∧ Below w.heap.size w w') := by
    have := valid_any m s f
    rwa [h] at this
  have C2 := Lib.hid (fun w => number_any m s f w h)
  obtain ⟨h0, h1, h2, h3, h4, h5⟩ := msfOk_iff.1 h
  rw [msfV] at *
  go_enter Try.func41, Try.ntmps41
  go_wp2_with fail
  refine (C1.out _).mono ?_
  rintro e w1 ⟨rfl, hb1⟩
  obtain ⟨d0, d1, d2⟩ := keep3 hb1 (g := w.heap.size) (a := .int .i64 m) (b := .int .i64 s) (c := .int .i64 f) (by simp) (by simp) (by simp) (by simp)
  go_wp2_with fail
  refine (C2.out _).mono ?_
  rintro e w2 ⟨rfl, hb2⟩
  go_wp2_with fail
  go_ret2
  have b1 : Below w.heap.size w w1 := ((Below.refl _ _).alloc (Nat.le_refl _) _).trans (hb1.mono (by simp))
  exact ⟨rfl, b1.trans (hb2.mono b1.size)⟩

/-- The byte of a part of an address. -/
def bcdB (n : Int) : UInt8 := UInt8.ofNat (bcdV n).toNat
theorem bcdB_nat {n : Int} (h0 : 0 ≤ n) (h1 : n < 100) : ((bcdB n).toNat : Int) = bcdV n := by
  unfold bcdB
  rw [bcdV_ok h0 (by omega)]
  simp
  omega
theorem part_any (n : Int) (w : World) (h0 : 0 ≤ n) (h1 : n < 100) :
    Calls Try.prog 53 #[.int .i64 n] w fun e w' => e = .returned (.string ⟨#[bcdB n]⟩) ∧ Below w.heap.size w w' := by
  have HB := Lib.hid (bcdB_nat h0 h1)
  have hcv : (convert 42 9 (.slice (some ⟨w.heap.size, 0, none⟩) 1 1)).run Try.prog (w.alloc (.cells #[.int .u8 (bcdV n)] 5)) = .ok (.string ⟨#[bcdB n]⟩) (w.alloc (.cells #[.int .u8 (bcdV n)] 5)) := by
    have hown : (w.alloc (.cells #[.int .u8 (bcdV n)] 5)).ownsRow w.heap.size 5 1 (.slice (some ⟨w.heap.size, 0, none⟩) 1 1) 1 ([bcdB n].map byteV) := by
      refine ⟨rfl, .inr ⟨w.heap.size, 1, #[.int .u8 (bcdV n)], rfl, Nat.le_refl _, heap_alloc_new w _, Nat.le_refl _, by unfold maxLen; omega, rfl, ?_⟩⟩
      simp [byteV, HB.out]
    exact own_string _ _ _ _ Try.underlying42 Try.underlying5 Try.underlying9 hown
  go_enter Try.func53, Try.ntmps53
  go_wp2_with fail
  refine (bcd_any n _).mono ?_
  rintro e w' ⟨rfl, rfl⟩
  go_wp2_with fail
  go_ret
  exact ⟨rfl, (Below.refl _ _).alloc (Nat.le_refl _) _⟩
end Go.Proofs.Ytdjpnabkmanboaa
