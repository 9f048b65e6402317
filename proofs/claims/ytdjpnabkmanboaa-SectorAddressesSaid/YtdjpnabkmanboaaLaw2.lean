/-
  The walk of the law SectorBuilds.
-/
import Derived.Test.YtdjpnabkmanboaaAwake
import Derived.Test.YtdjpnabkmanboaaOpen
import Derived.Deep.DrawnRows
namespace Go.Proofs.Ytdjpnabkmanboaa
open Go.RowKit
set_option linter.unusedVariables false

theorem buildR_form (x : Sec) : ∃ (s : ByteArray) (e : Int), buildR x = .tuple #[.string s, .int .i64 e] := by
  unfold buildR
  split
  · exact ⟨_, _, rfl⟩
  · exact ⟨_, _, rfl⟩

theorem keepR {w0 W w1 : World} {g : Nat} {t : TypeId} {cs : Array Value} (hb : Below W.heap.size W w1) (hS : RowAt W g t cs ∧ g < W.heap.size ∧ Below w0.heap.size w0 W) :
    RowAt w1 g t cs ∧ g < w1.heap.size ∧ Below w0.heap.size w0 w1 := ⟨hS.1.below hb hS.2.1, Nat.lt_of_lt_of_le hS.2.1 hb.size, belowC hb hS.2.2⟩

theorem keep7 {w0 W w1 : World} {g : Nat} {v0 v1 v2 v3 v4 v5 v6 : Value} (hb : Below W.heap.size W w1) (hS : W.cell? ⟨g, 0, none⟩ = some v0 ∧ W.cell? ⟨g, 1, none⟩ = some v1 ∧ W.cell? ⟨g, 2, none⟩ = some v2 ∧ W.cell? ⟨g, 3, none⟩ = some v3 ∧ W.cell? ⟨g, 4, none⟩ = some v4 ∧ W.cell? ⟨g, 5, none⟩ = some v5 ∧ W.cell? ⟨g, 6, none⟩ = some v6 ∧ g < W.heap.size ∧ Below w0.heap.size w0 W) :
    w1.cell? ⟨g, 0, none⟩ = some v0 ∧ w1.cell? ⟨g, 1, none⟩ = some v1 ∧ w1.cell? ⟨g, 2, none⟩ = some v2 ∧ w1.cell? ⟨g, 3, none⟩ = some v3 ∧ w1.cell? ⟨g, 4, none⟩ = some v4 ∧ w1.cell? ⟨g, 5, none⟩ = some v5 ∧ w1.cell? ⟨g, 6, none⟩ = some v6 ∧ g < w1.heap.size ∧ Below w0.heap.size w0 w1 :=
  ⟨(hb.cell (p := ⟨g, 0, none⟩) hS.2.2.2.2.2.2.2.1).trans hS.1, (hb.cell (p := ⟨g, 1, none⟩) hS.2.2.2.2.2.2.2.1).trans hS.2.1, (hb.cell (p := ⟨g, 2, none⟩) hS.2.2.2.2.2.2.2.1).trans hS.2.2.1, (hb.cell (p := ⟨g, 3, none⟩) hS.2.2.2.2.2.2.2.1).trans hS.2.2.2.1, (hb.cell (p := ⟨g, 4, none⟩) hS.2.2.2.2.2.2.2.1).trans hS.2.2.2.2.1, (hb.cell (p := ⟨g, 5, none⟩) hS.2.2.2.2.2.2.2.1).trans hS.2.2.2.2.2.1, (hb.cell (p := ⟨g, 6, none⟩) hS.2.2.2.2.2.2.2.1).trans hS.2.2.2.2.2.2.1, Nat.lt_of_lt_of_le hS.2.2.2.2.2.2.2.1 hb.size, belowC hb hS.2.2.2.2.2.2.2.2⟩

set_option maxHeartbeats 4000000 in
theorem builds_walk (x : Sec) (w : World) (hx : SecIn x) :
    Calls Try.prog 3 #[secV x] w fun e w' => e = .returned (.bool true) ∧ Below w.heap.size w w' := by
  have C0 := Lib.hid (fun w => awake_any w)
  have hd := hx.data
  have hd2 : x.data.size ≤ 140737488351232 ∨ ¬ x.data.size ≤ 2400 := by omega
  obtain ⟨n, hn⟩ : ∃ n, x.data.size = n := ⟨_, rfl⟩
  have C1 : Hid (n ≤ 2400 → ∀ w, Calls Try.prog 11 #[secV x] w fun e w' => e = .returned (buildR x) ∧ Below w.heap.size w w') := fun h w => build_any x w hx.lba.1 (by omega)
  have C2 : Hid (n ≤ 2400 → ∀ w, Calls Try.prog 12 #[secV x] w fun e w' => e = .returned (buildR x) ∧ Below w.heap.size w w') := fun h w => rbuild_any x w (by omega)
  have C3 : Hid (n ≤ 2400 → ∀ w, Calls Try.prog 13 #[secV x] w fun e w' => e = .returned (.bool (validB x)) ∧ Below w.heap.size w w') := fun h w => valid7_any x w hx.lba.1 (by omega)
  have C4 : Hid (n ≤ 2400 → ∀ w, Calls Try.prog 14 #[secV x] w fun e w' => e = .returned (.bool (validB x)) ∧ Below w.heap.size w w') := fun h w => rvalid7_any x w (by omega)
  obtain ⟨s, er, hb⟩ := buildR_form x
  rw [hb] at C1 C2
  generalize validB x = V at *
  clear hb hx hd2
  obtain ⟨lba, mode, fi, ch, su, co, data⟩ := x
  rw [secV] at *
  dsimp only at *
  subst hn
  by_cases h : data.size ≤ 2400
  · replace C1 := Lib.hid (C1.out h)
    replace C2 := Lib.hid (C2.out h)
    replace C3 := Lib.hid (C3.out h)
    replace C4 := Lib.hid (C4.out h)
    have h' : ¬ (2400 : Int) < (data.size : Int) := by omega
    clear h
    go_enter Try.func3, Try.ntmps3
    go_wp2_with fail
    refine (C0.out _).mono ?_
    rintro r w1 ⟨rfl, hb1⟩
    have hs1 : w.heap.size < w1.heap.size := by have := hb1.size; simp at this; omega
    have hr1 : RowAt w1 w.heap.size 25 _ := (RowAt.new w _ _).below hb1 (by simp)
    have q1 := hr1.cell
    have b1 : Below w.heap.size w w1 := ((Below.refl _ _).alloc (Nat.le_refl _) _).trans (hb1.mono (by simp))
    go_wp2_with fail
    refine (C1.out _).mono ?_
    rintro r w2 ⟨rfl, hb2⟩
    have hs2 : w.heap.size < w2.heap.size := by have := hb2.size; omega
    have hr2 := hr1.below hb2 hs1
    have q2 := hr2.cell
    have b2 : Below w.heap.size w w2 := b1.trans (hb2.mono b1.size)
    go_wp2_with fail
    refine (C2.out _).mono ?_
    rintro r w3 ⟨rfl, hb3⟩
    have hs3 : w.heap.size < w3.heap.size := by have := hb3.size; omega
    have hr3 := hr2.below hb3 hs2
    have q3 := hr3.cell
    have b3 : Below w.heap.size w w3 := b2.trans (hb3.mono b2.size)
    go_wp2_with fail
    have hst : w3.drew.cell? ⟨w.heap.size, 0, none⟩ = some (.int .i64 lba) ∧ w3.drew.cell? ⟨w.heap.size, 1, none⟩ = some (.int .i64 mode) ∧ w3.drew.cell? ⟨w.heap.size, 2, none⟩ = some (.int .i64 fi) ∧ w3.drew.cell? ⟨w.heap.size, 3, none⟩ = some (.int .i64 ch) ∧ w3.drew.cell? ⟨w.heap.size, 4, none⟩ = some (.int .i64 su) ∧ w3.drew.cell? ⟨w.heap.size, 5, none⟩ = some (.int .i64 co) ∧ w3.drew.cell? ⟨w.heap.size, 6, none⟩ = some (.string data) ∧ w.heap.size < w3.drew.heap.size ∧ Below w.heap.size w w3.drew :=
      ⟨q3 0, q3 1, q3 2, q3 3, q3 4, q3 5, q3 6, hs3, b3.drew⟩
    go_region_held3 (fun w' => w'.cell? ⟨w.heap.size, 0, none⟩ = some (.int .i64 lba) ∧ w'.cell? ⟨w.heap.size, 1, none⟩ = some (.int .i64 mode) ∧ w'.cell? ⟨w.heap.size, 2, none⟩ = some (.int .i64 fi) ∧ w'.cell? ⟨w.heap.size, 3, none⟩ = some (.int .i64 ch) ∧ w'.cell? ⟨w.heap.size, 4, none⟩ = some (.int .i64 su) ∧ w'.cell? ⟨w.heap.size, 5, none⟩ = some (.int .i64 co) ∧ w'.cell? ⟨w.heap.size, 6, none⟩ = some (.string data) ∧ w.heap.size < w'.heap.size ∧ Below w.heap.size w w')
      (first | exact hst | exact keep7 (by assumption) (by first | assumption | exact hst) | go_keep)
      (first
        | (go_at_call 13; refine (C3.out _).mono ?_; rintro r w4 ⟨rfl, hb4⟩)
        | (go_at_call 14; refine (C4.out _).mono ?_; rintro r w4 ⟨rfl, hb4⟩))
    all_goals
      go_split_ands
      go_wp2_with fail
      go_ret
      exact ⟨rfl, by assumption⟩
  · have h' : (2400 : Int) < (data.size : Int) := by omega
    clear h C1 C2 C3 C4
    go_enter Try.func3, Try.ntmps3
    go_wp2_with fail
    refine (C0.out _).mono ?_
    rintro r w1 ⟨rfl, hb1⟩
    have hs1 : w.heap.size < w1.heap.size := by have := hb1.size; simp at this; omega
    have hr1 : RowAt w1 w.heap.size 25 _ := (RowAt.new w _ _).below hb1 (by simp)
    have q1 := hr1.cell
    have b1 : Below w.heap.size w w1 := ((Below.refl _ _).alloc (Nat.le_refl _) _).trans (hb1.mono (by simp))
    go_wp2_with fail
    go_ret
    exact ⟨rfl, b1⟩
end Go.Proofs.Ytdjpnabkmanboaa
