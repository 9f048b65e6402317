/-
  The walk of the law PacketMaps.
-/
import Derived.Test.YticmopgpfplbnaaAwake
namespace Go.Proofs.Yticmopgpfplbnaa
open Go.RowKit
set_option linter.unusedVariables false

theorem locV_agg (size n : Int) : ∃ a b c : Int, locV size n = .agg #[.int .i64 a, .int .i64 b, .int .i64 c] := by
  unfold locV
  split
  · exact ⟨_, _, _, rfl⟩
  · exact ⟨0, 0, 0, rfl⟩

set_option maxHeartbeats 1000000 in
theorem maps_walk (size n : Int) (w : World) (_ : (Lit.int .i64 size).wf = true) (_ : (Lit.int .i64 n).wf = true) :
    Calls Try.prog 3 #[.int .i64 size, .int .i64 n] w fun e w' => e = .returned (.bool true) ∧ Below w.heap.size w w' := by
  have c1 : ∀ w, _ := fun w => locate_any size n w
  have c2 : ∀ w, _ := fun w => rlocate_any size n w
  obtain ⟨a, b, c, hl⟩ := locV_agg size n
  rw [hl] at c1 c2
  have C1 := Lib.hid c1
  have C2 := Lib.hid c2
  clear c1 c2 hl
  go_enter Try.func3, Try.ntmps3
  go_wp2_with fail
  refine (awake_any _).mono ?_
  rintro e w1 ⟨rfl, hb1⟩
  go_wp2_with fail
  refine (sectors_any _ _ _).mono ?_
  rintro e w' ⟨rfl, rfl⟩
  go_wp2_with fail
  refine (rsectors_any _ _ _).mono ?_
  rintro e w' ⟨rfl, rfl⟩
  go_wp2_with fail
  refine (physical_any _ _ _).mono ?_
  rintro e w' ⟨rfl, k1, rfl⟩
  go_wp2_with fail
  refine (rphysical_any _ _ _).mono ?_
  rintro e w' ⟨rfl, k2, rfl⟩
  go_wp2_with fail
  refine (C1.out _).mono ?_
  rintro e w2 ⟨rfl, hb2⟩
  go_wp2_with fail
  refine (C2.out _).mono ?_
  rintro e w3 ⟨rfl, hb3⟩
  obtain ⟨d0, d1, d2⟩ := keep3 hb3 (g := w2.heap.size) (a := .int .i64 a) (b := .int .i64 b) (c := .int .i64 c) (by simp) (by simp) (by simp) (by simp)
  have hs2 : w2.heap.size < w3.heap.size := by have := hb3.size; simp at this; omega
  go_wp2_with fail
  go_ret
  have b1 : Below w.heap.size w ((w1.drewN k1).drewN k2) := below_drewN (below_drewN hb1 k1) k2
  have b2 : Below w.heap.size w w2 := b1.trans (by simpa using hb2.mono (by have := hb1.size; simp; omega))
  have b3 := (b2.alloc b2.size (.cells #[.int .i64 a, .int .i64 b, .int .i64 c] 27)).trans (hb3.mono (by have := b2.size; simp; omega))
  exact ⟨rfl, b3.alloc b3.size _⟩
end Go.Proofs.Yticmopgpfplbnaa
