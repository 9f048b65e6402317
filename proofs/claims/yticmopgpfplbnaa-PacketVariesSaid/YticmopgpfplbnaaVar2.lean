/-
  Variable, of the reference.
-/
import Derived.Test.YticmopgpfplbnaaVar
namespace Go.Proofs.Yticmopgpfplbnaa
open Go.RowKit
set_option linter.unusedVariables false

set_option maxHeartbeats 400000 in
theorem rvariable_len (A : Option Addr) (n c : Nat) (x : Int) (w : World) (h : n = 0 ∨ 1024 < n) :
    Calls Try.prog 18 #[.slice A n c, .int .i64 x] w fun e w' => e = .returned (.tuple #[zeroPS, .int .i64 1]) ∧ Below w.heap.size w w' := by
  by_cases h0 : n = 0
  · subst h0
    clear h
    go_enter Try.func18, Try.ntmps18
    go_wp2_with fail
    exact bodyPost_ret (v := .tuple #[.agg #[.int .i64 0, .int .i64 0, .int .i64 0], .int .i64 1]) (by simp [results, Try.results18, go_sem]) rfl ⟨rfl, (Below.refl _ _).alloc (Nat.le_refl _) _⟩
  · have h1 : (1024 : Int) < (n : Int) := by omega
    have h2 : ((n : Int) == 0) = false := by simp; omega
    clear h h0
    go_enter Try.func18, Try.ntmps18
    go_wp2_with fail
    exact bodyPost_ret (v := .tuple #[.agg #[.int .i64 0, .int .i64 0, .int .i64 0], .int .i64 1]) (by simp [results, Try.results18, go_sem]) rfl ⟨rfl, (Below.refl _ _).alloc (Nat.le_refl _) _⟩

set_option maxHeartbeats 2000000 in
theorem rvariable_in (A : Option Addr) (c : Nat) (zs : List Int) (x : Int) (w : World) (h1 : 0 < zs.length) (h2 : zs.length ≤ 1024) (hz : ∀ (k : Nat) z, zs[k]? = some z → -9223372036854775808 ≤ z ∧ z ≤ 9223372036854775807)
    (hx0 : -9223372036854775808 ≤ x) (hx1 : x ≤ 9223372036854775807) (hs : SlAt w w.heap.size A (zs.map (Value.int .i64))) :
    Calls Try.prog 18 #[.slice A zs.length c, .int .i64 x] w fun e w' => e = .returned (.tuple #[(varR zs x).1, .int .i64 (varR zs x).2]) ∧ Below w.heap.size w w' := by
  obtain ⟨b, off, rfl, hb, hc⟩ := hs.one (by simpa using h1)
  have hcell : ∀ (k : Nat) z, zs[k]? = some z → (w.alloc (.cells #[.int .i64 0, .int .i64 0, .int .i64 0] 27)).cell? ⟨b, off + k, none⟩ = some (.int .i64 z) := by
    intro k z hk
    rw [World.cell?_alloc_lt w _ ⟨b, off + k, none⟩ hb]
    exact hc k _ (by simp [hk])
  have HC := Lib.hid hcell
  have HZ := Lib.hid hz
  have ht0 : ((zs.length : Int) == 0) = false := by rw [beq_eq_false_iff_ne]; omega
  have ht1 : ¬ (1024 : Int) < (zs.length : Int) := by omega
  obtain ⟨n, hn⟩ : ∃ n, zs.length = n := ⟨_, rfl⟩
  have HN := Lib.hid hn
  rw [hn] at h1 h2 ht0 ht1 ⊢
  clear hc hcell hz hs hn
  go_enter Try.func18, Try.ntmps18
  go_wp2_with fail
  go_loop [6] (fun i => ∃ k : Nat, k ≤ n ∧ i = .int .i64 k ∧ Hid (∀ (j : Nat) z, j < k → zs[j]? = some z → sizedB z = true)) (fun i => n - (intOf i).toNat)
  case atStart => exact ⟨0, by omega, rfl, fun j z hj => by omega⟩
  case round =>
    obtain ⟨k, hk, rfl, HS⟩ := hrel
    by_cases hlt : k < n
    · obtain ⟨z, HKz⟩ : ∃ z, Hid (zs[k]? = some z) := ⟨zs[k]'(by rw [HN.out]; exact hlt), List.getElem?_eq_getElem _⟩
      have hlt' : (k : Int) < (n : Int) := by omega
      have h0k : (0 : Int) ≤ (k : Int) := by omega
      have hcz := HC.out k z HKz.out
      cases hsz : sizedB z with
      | true =>
        go_wp2_with fail
        refine (rsized_any z _).mono ?_
        rintro e w' ⟨rfl, rfl⟩
        go_wp2_with fail
        go_round
        case rel =>
          refine ⟨k + 1, by omega, by go_num, fun j y hj hy => ?_⟩
          by_cases hjk : j = k
          · subst hjk
            rw [HKz.out] at hy
            injection hy with hy
            subst hy
            exact hsz
          · exact HS.out j y (by omega) hy
        case measure => simp [intOf]; omega
      | false =>
        have HR := Lib.hid (varR_bad (x := x) (varBad_at HKz.out hsz))
        go_wp2_with fail
        refine (rsized_any z _).mono ?_
        rintro e w' ⟨rfl, rfl⟩
        go_wp2_with fail
        exact bodyPost_ret (v := .tuple #[.agg #[.int .i64 0, .int .i64 0, .int .i64 0], .int .i64 1]) (by simp [results, Try.results18, go_sem]) rfl ⟨by rw [HR.out]; rfl, (Below.refl _ _).alloc (Nat.le_refl _) _⟩
    · obtain rfl : k = n := by omega
      have hall : ∀ (j : Nat) z, zs[j]? = some z → sizedB z = true := fun j z hj => HS.out j z (by have := (List.getElem?_eq_some_iff.1 hj).1; rw [HN.out] at this; exact this) hj
      have hbad : varBad zs = false := varBad_no (by rw [HN.out]; exact h1) (by rw [HN.out]; exact h2) hall
      have HA := Lib.hid hall
      have HB := Lib.hid hbad
      have hge : ¬ (k : Int) < (k : Int) := by omega
      clear hall hbad
      by_cases hneg : x < 0
      · have HR := Lib.hid (varR_neg (x := x) HB.out hneg)
        go_wp2_with fail
        exact bodyPost_ret (v := .tuple #[.agg #[.int .i64 0, .int .i64 0, .int .i64 0], .int .i64 2]) (by simp [results, Try.results18, go_sem]) rfl ⟨by rw [HR.out]; rfl, (Below.refl _ _).alloc (Nat.le_refl _) _⟩
      · go_wp2_with fail
        go_loop [1, 7] (fun s i => ∃ (j : Nat) (y : Int), j ≤ k ∧ i = .int .i64 j ∧ s = .int .i64 y ∧ 0 ≤ y ∧ y ≤ 9223372036854775807 ∧ Hid (varF (zs.drop j) j y = varF zs 0 x)) (fun _ i => k - (intOf i).toNat)
        case atStart => exact ⟨0, x, by omega, rfl, rfl, by omega, by omega, rfl⟩
        case round =>
          obtain ⟨j, y, hj, rfl, rfl, hy1, hy2, HF⟩ := hrel
          by_cases hlt : j < k
          · obtain ⟨z, HKz⟩ : ∃ z, Hid (zs[j]? = some z) := ⟨zs[j]'(by rw [HN.out]; exact hlt), List.getElem?_eq_getElem _⟩
            have hlt' : (j : Int) < (k : Int) := by omega
            have h0k : (0 : Int) ≤ (j : Int) := by omega
            have hcz := HC.out j z HKz.out
            obtain ⟨z1, z2⟩ := sizedB_bd (HA.out j z HKz.out)
            by_cases hfit : y < z + 7
            · have hres : varR zs x = (placeV j z y, 0) := varR_some HB.out (by omega) (by rw [← HF.out, varF_step HKz.out, if_pos hfit])
              obtain ⟨kd, ix, hp⟩ : ∃ kd ix : Int, placeV j z y = .agg #[.int .i64 j, .int .i64 kd, .int .i64 ix] := ⟨_, _, rfl⟩
              rw [hp] at hres
              have HR := Lib.hid hres
              have HP := Lib.hid (fun w => rplace_any j z y w hy1 (by omega) z1 z2)
              rw [hp] at HP
              clear hp hres
              go_wp2_with fail
              refine (HP.out _).mono ?_
              rintro e w1 ⟨rfl, hb1⟩
              have c0 := hb1.cell (p := ⟨w.heap.size, 0, none⟩) (by simp)
              have c1 := hb1.cell (p := ⟨w.heap.size, 1, none⟩) (by simp)
              have c2 := hb1.cell (p := ⟨w.heap.size, 2, none⟩) (by simp)
              have f0 := hb1.frozen (p := ⟨w.heap.size, 0, none⟩) (by simp)
              have f1 := hb1.frozen (p := ⟨w.heap.size, 1, none⟩) (by simp)
              have f2 := hb1.frozen (p := ⟨w.heap.size, 2, none⟩) (by simp)
              go_wp2_with fail
              refine bodyPost_ret (v := .tuple #[.agg #[.int .i64 j, .int .i64 kd, .int .i64 ix], .int .i64 0]) (by simp [results, Try.results18, go_sem, c0, c1, c2]) rfl ⟨by rw [HR.out], ?_⟩
              have b0 : Below w.heap.size w w1 := ((Below.refl _ _).alloc (Nat.le_refl _) _).trans (hb1.mono (by simp))
              exact ((b0.setCell (p := ⟨w.heap.size, 0, none⟩) (Nat.le_refl _) _).setCell (p := ⟨w.heap.size, 1, none⟩) (Nat.le_refl _) _).setCell (p := ⟨w.heap.size, 2, none⟩) (Nat.le_refl _) _
            · have HF' : Hid (varF (zs.drop (j + 1)) ((j : Int) + 1) (y - z - 7) = varF zs 0 x) := by
                rw [← HF.out, varF_step HKz.out, if_neg hfit]; rfl
              go_wp2_with fail
              go_round
              case rel => exact ⟨j + 1, y - z - 7, by omega, by go_num, by go_num, by omega, by omega, by rw [show ((j + 1 : Nat) : Int) = (j : Int) + 1 by omega]; exact HF'⟩
              case measure => simp [intOf]; omega
          · obtain rfl : j = k := by omega
            have hres : varR zs x = (zeroPS, 2) := varR_none HB.out (by omega) (by rw [← HF.out, List.drop_eq_nil_of_le (by rw [HN.out]; omega)]; rfl)
            have HR := Lib.hid hres
            clear hres
            go_wp2_with fail
            exact bodyPost_ret (v := .tuple #[.agg #[.int .i64 0, .int .i64 0, .int .i64 0], .int .i64 2]) (by simp [results, Try.results18, go_sem]) rfl ⟨by rw [HR.out]; rfl, (Below.refl _ _).alloc (Nat.le_refl _) _⟩
end Go.Proofs.Yticmopgpfplbnaa
