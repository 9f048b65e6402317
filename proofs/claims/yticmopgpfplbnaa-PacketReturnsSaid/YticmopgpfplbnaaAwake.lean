/-
  The walk of awake, which checks the chapter's examples, and of the law PacketMaps.
-/
import Derived.Test.YticmopgpfplbnaaLocate
namespace Go.Proofs.Yticmopgpfplbnaa
open Go.RowKit
set_option linter.unusedVariables false

/-- The struct in block g is kept by what leaves the blocks below B alone. -/
theorem keep3 {B : Nat} {W w1 : World} (hb : Below B W w1) {g : Nat} (hg : g < B) {a b c : Value} (h0 : W.cell? ⟨g, 0, none⟩ = some a) (h1 : W.cell? ⟨g, 1, none⟩ = some b) (h2 : W.cell? ⟨g, 2, none⟩ = some c) :
    w1.cell? ⟨g, 0, none⟩ = some a ∧ w1.cell? ⟨g, 1, none⟩ = some b ∧ w1.cell? ⟨g, 2, none⟩ = some c :=
  ⟨(hb.cell (p := ⟨g, 0, none⟩) hg).trans h0, (hb.cell (p := ⟨g, 1, none⟩) hg).trans h1, (hb.cell (p := ⟨g, 2, none⟩) hg).trans h2⟩

set_option maxHeartbeats 1000000 in
theorem awake_any (w : World) : Calls Try.prog 10 #[] w fun e w' => e = .returned (.bool true) ∧ Below w.heap.size w w' := by
  have c1 : ∀ w, _ := fun w => physical_any 8 8 w
  have c2 : ∀ w, _ := fun w => locate_any 8 13 w
  have c3 : ∀ w, _ := fun w => sectors_any 8 9 w
  have c4 : ∀ w, _ := fun w => locate_any 8 15 w
  rw [show phyV 8 8 = 20 by decide, show phyE 8 8 = 0 by decide] at c1
  rw [show locV 8 13 = .agg #[.int .i64 0, .int .i64 3, .int .i64 0] by rfl, show numE 8 13 = 0 by decide] at c2
  rw [show secV 8 9 = 30 by decide, show secE 8 9 = 0 by decide] at c3
  rw [show locV 8 15 = .agg #[.int .i64 1, .int .i64 0, .int .i64 0] by rfl, show numE 8 15 = 0 by decide] at c4
  have C1 := Lib.hid c1
  have C2 := Lib.hid c2
  have C3 := Lib.hid c3
  have C4 := Lib.hid c4
  clear c1 c2 c3 c4
  go_enter Try.func10, Try.ntmps10
  go_wp2_with fail
  refine (C1.out _).mono ?_
  rintro e w' ⟨rfl, k, rfl⟩
  go_wp2_with fail
  refine (C2.out _).mono ?_
  rintro e w1 ⟨rfl, hb1⟩
  go_wp2_with fail
  refine (C3.out _).mono ?_
  rintro e w' ⟨rfl, rfl⟩
  go_wp2_with fail
  refine (C4.out _).mono ?_
  rintro e w2 ⟨rfl, hb2⟩
  obtain ⟨d0, d1, d2⟩ := keep3 hb2 (g := w1.heap.size) (a := .int .i64 0) (b := .int .i64 3) (c := .int .i64 0) (by simp) (by simp) (by simp) (by simp)
  have hs2 : w1.heap.size < w2.heap.size := by have := hb2.size; simp at this; omega
  go_wp2_with fail
  go_ret
  have b1 : Below w.heap.size w w1 := (below_drewN (Below.refl _ _) k).trans (hb1.mono (by simp))
  have b2 := (b1.alloc b1.size (.cells #[.int .i64 0, .int .i64 3, .int .i64 0] 27)).trans (hb2.mono (by have := b1.size; simp; omega))
  exact ⟨rfl, b2.alloc b2.size _⟩
end Go.Proofs.Yticmopgpfplbnaa
