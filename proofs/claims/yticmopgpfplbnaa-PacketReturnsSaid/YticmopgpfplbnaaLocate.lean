/-
  The walks of Locate, of the program and of the reference.
-/
import Derived.Test.YticmopgpfplbnaaMaps
import Derived.Deep.RegionHeld3
namespace Go.Proofs.Yticmopgpfplbnaa
open Go.RowKit
set_option linter.unusedVariables false

theorem bcell {B : Nat} {W w1 : World} (hb : Below B W w1) : (∀ b o, b < B → w1.cell? ⟨b, o, none⟩ = W.cell? ⟨b, o, none⟩) ∧ (∀ b o, b < B → w1.frozen? ⟨b, o, none⟩ = W.frozen? ⟨b, o, none⟩) :=
  ⟨fun b o h => hb.cell (p := ⟨b, o, none⟩) h, fun b o h => hb.frozen (p := ⟨b, o, none⟩) h⟩

def locV (size n : Int) : Value := if numE size n = 0 then placeV (n / (size + 7)) size (n % (size + 7)) else .agg #[.int .i64 0, .int .i64 0, .int .i64 0]
theorem loc_bd {size n : Int} (h1 : 1 ≤ size) (h2 : size ≤ 1024) (h3 : 0 ≤ n) (h4 : n ≤ 449849) : 0 ≤ n / (size + 7) ∧ n / (size + 7) ≤ 449849 ∧ 0 ≤ n % (size + 7) ∧ n % (size + 7) < size + 7 :=
  ⟨Int.ediv_nonneg (by omega) (by omega), Int.le_trans (Int.ediv_le_self _ (by omega)) (by omega), Int.emod_nonneg _ (by omega), Int.emod_lt_of_pos _ (by omega)⟩

set_option maxHeartbeats 1000000 in
theorem locate_any (size n : Int) (w : World) : Calls Try.prog 15 #[.int .i64 size, .int .i64 n] w fun e w' => e = .returned (.tuple #[locV size n, .int .i64 (numE size n)]) ∧ Below w.heap.size w w' := by
  by_cases h : numE size n = 0
  · obtain ⟨h1, h2, h3, h4⟩ := numE_zero h
    obtain ⟨b1, b2, b3, b4⟩ := loc_bd h1 h2 h3 h4
    obtain ⟨k, x, hp⟩ : ∃ k x : Int, placeV (n / (size + 7)) size (n % (size + 7)) = .agg #[.int .i64 (n / (size + 7)), .int .i64 k, .int .i64 x] := ⟨_, _, rfl⟩
    have HV := Lib.hid (show locV size n = .agg #[.int .i64 (n / (size + 7)), .int .i64 k, .int .i64 x] from (if_pos h).trans hp)
    have HN := Lib.hid h
    have hE : (numE size n != 0) = false := by rw [h]; rfl
    have HP := Lib.hid (fun w => place_any (n / (size + 7)) size (n % (size + 7)) w b3 (by omega) h1 h2)
    have HQ := Lib.hid hp
    clear h hp
    go_enter Try.func15, Try.ntmps15
    go_wp2_with (first
      | (go_at_call 29; refine (numbered_any _ _ _).mono ?_; rintro e w' ⟨rfl, rfl⟩)
      | fail)
    have z1 : ¬ (size + 7 = 0) := by omega
    have z2 : IntKind.i64.wrap (n.tdiv (size + 7)) = n / (size + 7) := by rw [Int.tdiv_eq_ediv_of_nonneg h3]; exact IntWalk.i64_in _ (by omega)
    have z3 : n.tmod (size + 7) = n % (size + 7) := Int.tmod_eq_emod_of_nonneg h3
    go_still_tail 7, (by kernel_rfl)
    change wpList _ _ _ _ _ (World.drew (w.alloc (Obj.cells #[Value.int .i64 0, Value.int .i64 0, Value.int .i64 0] 27)))
    clear z1 z2 z3
    go_wp2_with (first
      | (go_at_call 32; refine (HP.out _).mono ?_; rintro e w1 ⟨rfl, hb1⟩; rw [HQ.out]
         have c0 := hb1.cell (p := ⟨w.heap.size, 0, none⟩) (by simp); have c1 := hb1.cell (p := ⟨w.heap.size, 1, none⟩) (by simp); have c2 := hb1.cell (p := ⟨w.heap.size, 2, none⟩) (by simp)
         have f0 := hb1.frozen (p := ⟨w.heap.size, 0, none⟩) (by simp); have f1 := hb1.frozen (p := ⟨w.heap.size, 1, none⟩) (by simp); have f2 := hb1.frozen (p := ⟨w.heap.size, 2, none⟩) (by simp))
      | fail)
    refine bodyPost_ret (v := .tuple #[.agg #[.int .i64 (n / (size + 7)), .int .i64 k, .int .i64 x], .int .i64 0]) (by simp [results, Try.results15, go_sem, c0, c1, c2]) rfl ⟨by rw [HV.out, HN.out], ?_⟩
    have b0 : Below w.heap.size w w1 := ((Below.refl _ _).alloc (Nat.le_refl _) _).drew.trans (hb1.mono (by simp))
    exact ((b0.setCell (p := ⟨w.heap.size, 0, none⟩) (Nat.le_refl _) _).setCell (p := ⟨w.heap.size, 1, none⟩) (Nat.le_refl _) _).setCell (p := ⟨w.heap.size, 2, none⟩) (Nat.le_refl _) _
  · have HV := Lib.hid (show locV size n = .agg #[.int .i64 0, .int .i64 0, .int .i64 0] from if_neg h)
    have hE : (numE size n != 0) = true := by simpa using h
    clear h
    go_enter Try.func15, Try.ntmps15
    go_wp2_with (first
      | (go_at_call 29; refine (numbered_any _ _ _).mono ?_; rintro e w' ⟨rfl, rfl⟩)
      | fail)
    exact bodyPost_ret (v := .tuple #[.agg #[.int .i64 0, .int .i64 0, .int .i64 0], .int .i64 (numE size n)]) (by simp [results, Try.results15, go_sem]) rfl ⟨by rw [HV.out], (Below.refl _ _).alloc (Nat.le_refl _) _⟩
set_option maxHeartbeats 1000000 in
theorem rlocate_any (size n : Int) (w : World) : Calls Try.prog 16 #[.int .i64 size, .int .i64 n] w fun e w' => e = .returned (.tuple #[locV size n, .int .i64 (numE size n)]) ∧ Below w.heap.size w w' := by
  rcases numE_cases size n with ⟨hs, hE⟩ | ⟨hs, hn, hE⟩ | ⟨hs, hn, hE⟩ | ⟨hs, h3, h4, h⟩
  all_goals (try
    (have HV := Lib.hid (show locV size n = .agg #[.int .i64 0, .int .i64 0, .int .i64 0] from if_neg (by rw [hE]; decide))
     have HN := Lib.hid hE
     clear hE
     go_enter Try.func16, Try.ntmps16
     go_wp2_with (first
       | (go_at_call 31; refine (rsized_any _ _).mono ?_; rintro e w' ⟨rfl, rfl⟩)
       | fail)
     exact bodyPost_ret (v := .tuple #[.agg #[.int .i64 0, .int .i64 0, .int .i64 0], .int .i64 (numE size n)]) (by rw [HN.out]; simp [results, Try.results16, go_sem]) rfl ⟨by rw [HV.out], (Below.refl _ _).alloc (Nat.le_refl _) _⟩))
  · obtain ⟨h1, h2⟩ := of_decide_eq_true hs
    obtain ⟨b1, b2, b3, b4⟩ := loc_bd h1 h2 h3 h4
    obtain ⟨k, x, hp⟩ : ∃ k x : Int, placeV (n / (size + 7)) size (n % (size + 7)) = .agg #[.int .i64 (n / (size + 7)), .int .i64 k, .int .i64 x] := ⟨_, _, rfl⟩
    have HV := Lib.hid (show locV size n = .agg #[.int .i64 (n / (size + 7)), .int .i64 k, .int .i64 x] from (if_pos h).trans hp)
    have HN := Lib.hid h
    have e1 : IntKind.i64.wrap (size + 7) = size + 7 := IntWalk.i64_in _ (by omega)
    have HP := Lib.hid (fun w => rplace_any (n / (size + 7)) size (n % (size + 7)) w b3 (by omega) h1 h2)
    have HQ := Lib.hid hp
    clear h hp
    go_enter Try.func16, Try.ntmps16
    go_wp2_with (first
      | (go_at_call 31; refine (rsized_any _ _).mono ?_; rintro e w' ⟨rfl, rfl⟩)
      | fail)
    have z1 : ¬ (size + 7 = 0) := by omega
    have z2 : IntKind.i64.wrap (n.tdiv (size + 7)) = n / (size + 7) := by rw [Int.tdiv_eq_ediv_of_nonneg h3]; exact IntWalk.i64_in _ (by omega)
    have z3 : n.tmod (size + 7) = n % (size + 7) := Int.tmod_eq_emod_of_nonneg h3
    go_still_tail 9, (by kernel_rfl)
    change wpList _ _ _ _ _ (World.drew (w.alloc (Obj.cells #[Value.int .i64 0, Value.int .i64 0, Value.int .i64 0] 27)))
    clear z1 z2 z3 e1
    go_wp2_with (first
      | (go_at_call 33; refine (HP.out _).mono ?_; rintro e w1 ⟨rfl, hb1⟩; rw [HQ.out]
         have c0 := hb1.cell (p := ⟨w.heap.size, 0, none⟩) (by simp); have c1 := hb1.cell (p := ⟨w.heap.size, 1, none⟩) (by simp); have c2 := hb1.cell (p := ⟨w.heap.size, 2, none⟩) (by simp)
         have f0 := hb1.frozen (p := ⟨w.heap.size, 0, none⟩) (by simp); have f1 := hb1.frozen (p := ⟨w.heap.size, 1, none⟩) (by simp); have f2 := hb1.frozen (p := ⟨w.heap.size, 2, none⟩) (by simp))
      | fail)
    refine bodyPost_ret (v := .tuple #[.agg #[.int .i64 (n / (size + 7)), .int .i64 k, .int .i64 x], .int .i64 0]) (by simp [results, Try.results16, go_sem, c0, c1, c2]) rfl ⟨by rw [HV.out, HN.out], ?_⟩
    have b0 : Below w.heap.size w w1 := ((Below.refl _ _).alloc (Nat.le_refl _) _).drew.trans (hb1.mono (by simp))
    exact ((b0.setCell (p := ⟨w.heap.size, 0, none⟩) (Nat.le_refl _) _).setCell (p := ⟨w.heap.size, 1, none⟩) (Nat.le_refl _) _).setCell (p := ⟨w.heap.size, 2, none⟩) (Nat.le_refl _) _
end Go.Proofs.Yticmopgpfplbnaa
