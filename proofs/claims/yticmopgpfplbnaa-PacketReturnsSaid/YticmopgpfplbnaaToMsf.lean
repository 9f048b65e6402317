/-
  ToMSF of package address (out of chapter 7's texts).
-/
import Derived.Test.YticmopgpfplbnaaStep
import Derived.Test.YticmopgpfplbnaaLocate
namespace Go.Proofs.Yticmopgpfplbnaa
open Go.RowKit
set_option linter.unusedVariables false

def msfV (m s f : Int) : Value := .agg #[.int .i64 m, .int .i64 s, .int .i64 f]
theorem numbered_ok (n : Int) (w : World) (h0 : 0 ≤ n) (h1 : n ≤ 449999) :
    Calls Try.prog 51 #[.int .i64 n] w fun e w' => e = .returned (.tuple #[msfV (n / 75 / 60) (n / 75 % 60) (n % 75), .bool true]) ∧ Below w.heap.size w w' := by
  go_enter Try.func51, Try.ntmps51
  go_wp2_with fail
  exact bodyPost_ret (v := .tuple #[.agg #[.int .i64 (n / 75 / 60), .int .i64 (n / 75 % 60), .int .i64 (n % 75)], .bool true]) (by simp [results, Try.results51, go_sem]) rfl ⟨rfl, (Below.refl _ _).alloc (Nat.le_refl _) _⟩
theorem numbered_no (n : Int) (w : World) (h : n < 0 ∨ 449999 < n) :
    Calls Try.prog 51 #[.int .i64 n] w fun e w' => e = .returned (.tuple #[msfV 0 0 0, .bool false]) ∧ Below w.heap.size w w' := by
  by_cases h0 : n < 0
  all_goals
    go_enter Try.func51, Try.ntmps51
    (first | (have h1 : 449999 < n := by omega) | skip)
    clear h
    go_wp2_with fail
    exact bodyPost_ret (v := .tuple #[.agg #[.int .i64 0, .int .i64 0, .int .i64 0], .bool false]) (by simp [results, Try.results51, go_sem]) rfl ⟨rfl, (Below.refl _ _).alloc (Nat.le_refl _) _⟩

theorem keep3m {B : Nat} {W w1 : World} (hb : Below B W w1) {g : Nat} (hg : g < B) {a b c : Value} (h0 : W.cell? ⟨g, 0, none⟩ = some a) (h1 : W.cell? ⟨g, 1, none⟩ = some b) (h2 : W.cell? ⟨g, 2, none⟩ = some c) :
    w1.cell? ⟨g, 0, none⟩ = some a ∧ w1.cell? ⟨g, 1, none⟩ = some b ∧ w1.cell? ⟨g, 2, none⟩ = some c :=
  ⟨(hb.cell (p := ⟨g, 0, none⟩) hg).trans h0, (hb.cell (p := ⟨g, 1, none⟩) hg).trans h1, (hb.cell (p := ⟨g, 2, none⟩) hg).trans h2⟩
theorem free3 {B : Nat} {W w1 : World} (hb : Below B W w1) {g : Nat} (hg : g < B) (h0 : W.frozen? ⟨g, 0, none⟩ = false) (h1 : W.frozen? ⟨g, 1, none⟩ = false) (h2 : W.frozen? ⟨g, 2, none⟩ = false) :
    w1.frozen? ⟨g, 0, none⟩ = false ∧ w1.frozen? ⟨g, 1, none⟩ = false ∧ w1.frozen? ⟨g, 2, none⟩ = false :=
  ⟨(hb.frozen (p := ⟨g, 0, none⟩) hg).trans h0, (hb.frozen (p := ⟨g, 1, none⟩) hg).trans h1, (hb.frozen (p := ⟨g, 2, none⟩) hg).trans h2⟩

set_option maxHeartbeats 400000 in
theorem tomsf_ok (n : Int) (w : World) (h0 : -150 ≤ n) (h1 : n ≤ 449849) :
    Calls Try.prog 42 #[.int .i64 n] w fun e w' => e = .returned (.tuple #[msfV ((n + 150) / 75 / 60) ((n + 150) / 75 % 60) ((n + 150) % 75), .int .i64 0]) ∧ Below w.heap.size w w' := by
  obtain ⟨a, ha⟩ : ∃ a, (n + 150) / 75 / 60 = a := ⟨_, rfl⟩
  obtain ⟨b, hb⟩ : ∃ b, (n + 150) / 75 % 60 = b := ⟨_, rfl⟩
  obtain ⟨c, hc⟩ : ∃ c, (n + 150) % 75 = c := ⟨_, rfl⟩
  have C := Lib.hid (fun w => numbered_ok (n + 150) w (by omega) (by omega))
  rw [ha, hb, hc] at C ⊢
  clear ha hb hc
  go_enter Try.func42, Try.ntmps42
  go_wp2_with fail
  refine (C.out _).mono ?_
  rintro e w1 ⟨rfl, hb1⟩
  rw [msfV]
  obtain ⟨d0, d1, d2⟩ := keep3m hb1 (g := w.heap.size) (a := .int .i64 0) (b := .int .i64 0) (c := .int .i64 0) (by simp) (by simp) (by simp) (by simp)
  obtain ⟨f0, f1, f2⟩ := free3 hb1 (g := w.heap.size) (by simp) (by simp) (by simp) (by simp)
  have hs1 : w.heap.size < w1.heap.size := by have := hb1.size; simp at this; omega
  go_wp2_with fail
  refine bodyPost_ret (v := .tuple #[.agg #[.int .i64 a, .int .i64 b, .int .i64 c], .int .i64 0]) (by simp [results, Try.results42, go_sem, d0, d1, d2, hs1]) rfl ⟨rfl, ?_⟩
  have b1 : Below w.heap.size w w1 := ((Below.refl _ _).alloc (Nat.le_refl _) _).trans (hb1.mono (by simp))
  exact (((b1.setCell (p := ⟨w.heap.size, 0, none⟩) (Nat.le_refl _) _).setCell (p := ⟨w.heap.size, 1, none⟩) (Nat.le_refl _) _).setCell (p := ⟨w.heap.size, 2, none⟩) (Nat.le_refl _) _).alloc (by simp; omega) _
set_option maxHeartbeats 400000 in
theorem tomsf_no (n : Int) (w : World) (hn : -9223372036854775808 ≤ n) (h : n < -150 ∨ 449849 < n) :
    Calls Try.prog 42 #[.int .i64 n] w fun e w' => e = .returned (.tuple #[msfV 0 0 0, .int .i64 2]) ∧ Below w.heap.size w w' := by
  by_cases h1 : 449849 < n
  · clear h
    go_enter Try.func42, Try.ntmps42
    go_wp2_with fail
    exact bodyPost_ret (v := .tuple #[.agg #[.int .i64 0, .int .i64 0, .int .i64 0], .int .i64 2]) (by simp [results, Try.results42, go_sem]) rfl ⟨rfl, (Below.refl _ _).alloc (Nat.le_refl _) _⟩
  · have C := Lib.hid (fun w => numbered_no (n + 150) w (by omega))
    have h2 : n < -150 := by omega
    clear h
    go_enter Try.func42, Try.ntmps42
    go_wp2_with fail
    refine (C.out _).mono ?_
    rintro e w1 ⟨rfl, hb1⟩
    rw [msfV]
    obtain ⟨d0, d1, d2⟩ := keep3m hb1 (g := w.heap.size) (a := .int .i64 0) (b := .int .i64 0) (c := .int .i64 0) (by simp) (by simp) (by simp) (by simp)
    obtain ⟨f0, f1, f2⟩ := free3 hb1 (g := w.heap.size) (by simp) (by simp) (by simp) (by simp)
    have hs1 : w.heap.size < w1.heap.size := by have := hb1.size; simp at this; omega
    go_wp2_with fail
    refine bodyPost_ret (v := .tuple #[.agg #[.int .i64 0, .int .i64 0, .int .i64 0], .int .i64 2]) (by simp [results, Try.results42, go_sem, d0, d1, d2, hs1]) rfl ⟨rfl, ?_⟩
    have b1 : Below w.heap.size w w1 := ((Below.refl _ _).alloc (Nat.le_refl _) _).trans (hb1.mono (by simp))
    exact (((b1.setCell (p := ⟨w.heap.size, 0, none⟩) (Nat.le_refl _) _).setCell (p := ⟨w.heap.size, 1, none⟩) (Nat.le_refl _) _).setCell (p := ⟨w.heap.size, 2, none⟩) (Nat.le_refl _) _).alloc (by simp; omega) _

theorem tomsf_any (n : Int) (hn : -9223372036854775808 ≤ n) : ∃ a b c e : Int, (∀ w, Calls Try.prog 42 #[.int .i64 n] w fun r w' => r = .returned (.tuple #[.agg #[.int .i64 a, .int .i64 b, .int .i64 c], .int .i64 e]) ∧ Below w.heap.size w w') ∧ ((e = 0 ∧ -150 ≤ n ∧ n ≤ 449849) ∨ (e = 2 ∧ (n < -150 ∨ 449849 < n))) := by
  by_cases h : -150 ≤ n ∧ n ≤ 449849
  · exact ⟨_, _, _, 0, fun w => tomsf_ok n w h.1 h.2, .inl ⟨rfl, h⟩⟩
  · exact ⟨_, _, _, 2, fun w => tomsf_no n w hn (by omega), .inr ⟨rfl, by omega⟩⟩

end Go.Proofs.Yticmopgpfplbnaa
