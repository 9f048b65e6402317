/-
  packet: Sectors, Locate (chapter 11's walks).
-/
import Derived.Test.YtlnjphggfbiabaaGreatMCc
import Derived.Handy
import Derived.Deep.RegionHeld3
namespace Go.Proofs.YtlnjphggfbiabaaGreat
open Go.RowKit
set_option linter.unusedVariables false

/-- The kind and the index of the sector at_ of a packet of size user blocks. -/
def kindOf (size at_ : Int) : Int := if at_ = 0 then 0 else if at_ < 5 then 1 else if at_ < 5 + size then 2 else 3
def idxOf (size at_ : Int) : Int := if at_ = 0 then 0 else if at_ < 5 then at_ - 1 else if at_ < 5 + size then at_ - 5 else at_ - 5 - size
def placeV (p size at_ : Int) : Value := .agg #[.int .i64 p, .int .i64 (kindOf size at_), .int .i64 (idxOf size at_)]

theorem placeV0 (p size : Int) : placeV p size 0 = .agg #[.int .i64 p, .int .i64 0, .int .i64 0] := rfl
theorem placeV1 (p size at_ : Int) (h0 : at_ ≠ 0) (h : at_ < 5) : placeV p size at_ = .agg #[.int .i64 p, .int .i64 1, .int .i64 (at_ - 1)] := by
  rw [placeV, kindOf, idxOf, if_neg h0, if_pos h, if_neg h0, if_pos h]
theorem placeV2 (p size at_ : Int) (h0 : at_ ≠ 0) (h : ¬ at_ < 5) (h2 : at_ < 5 + size) : placeV p size at_ = .agg #[.int .i64 p, .int .i64 2, .int .i64 (at_ - 5)] := by
  rw [placeV, kindOf, idxOf, if_neg h0, if_neg h, if_pos h2, if_neg h0, if_neg h, if_pos h2]
theorem placeV3 (p size at_ : Int) (h0 : at_ ≠ 0) (h : ¬ at_ < 5) (h2 : ¬ at_ < 5 + size) : placeV p size at_ = .agg #[.int .i64 p, .int .i64 3, .int .i64 (at_ - 5 - size)] := by
  rw [placeV, kindOf, idxOf, if_neg h0, if_neg h, if_neg h2, if_neg h0, if_neg h, if_neg h2]

theorem place_any (p size at_ : Int) (w : World) (h0 : 0 ≤ at_) (h1 : at_ < 7 + size) (hs1 : 1 ≤ size) (hs2 : size ≤ 1024) :
    Calls Tryz.prog 28 #[.int .i64 p, .int .i64 size, .int .i64 at_] w fun e w' => e = .returned (placeV p size at_) ∧ Below w.heap.size w w' := by
  have i0 : ∀ w, (Instr.index 119 (.agg #[.int .i64 1, .int .i64 4, .int .i64 size, .int .i64 2]) (.int .i64 0)).run Tryz.prog w = .ok (.int .i64 1) w := fun _ => by kernel_rfl
  have i1 : ∀ w, (Instr.index 119 (.agg #[.int .i64 1, .int .i64 4, .int .i64 size, .int .i64 2]) (.int .i64 1)).run Tryz.prog w = .ok (.int .i64 4) w := fun _ => by kernel_rfl
  have i2 : ∀ w, (Instr.index 119 (.agg #[.int .i64 1, .int .i64 4, .int .i64 size, .int .i64 2]) (.int .i64 2)).run Tryz.prog w = .ok (.int .i64 size) w := fun _ => by kernel_rfl
  have i3 : ∀ w, (Instr.index 119 (.agg #[.int .i64 1, .int .i64 4, .int .i64 size, .int .i64 2]) (.int .i64 3)).run Tryz.prog w = .ok (.int .i64 2) w := fun _ => by kernel_rfl
  by_cases c0 : at_ = 0
  · subst c0
    rw [placeV0]
    go_enter Tryz.func28, Tryz.ntmps28
    go_wp2
    go_rounds 1
    exact bodyPost_ret (v := .agg #[.int .i64 p, .int .i64 0, .int .i64 0]) (by simp [results, Tryz.results28, go_sem]) rfl ⟨rfl, ((Below.refl _ _).alloc (Nat.le_refl _) _).alloc (by simp) _⟩
  · by_cases c1 : at_ < 5
    · rw [placeV1 p size at_ c0 c1]
      have c0' : 1 ≤ at_ := by omega
      clear c0
      go_enter Tryz.func28, Tryz.ntmps28
      go_wp2
      go_rounds 2
      exact bodyPost_ret (v := .agg #[.int .i64 p, .int .i64 1, .int .i64 (at_ - 1)]) (by simp [results, Tryz.results28, go_sem]) rfl ⟨rfl, ((Below.refl _ _).alloc (Nat.le_refl _) _).alloc (by simp) _⟩
    · have c0' : 1 ≤ at_ := by omega
      have c1' : 5 ≤ at_ := by omega
      by_cases c2 : at_ < 5 + size
      · rw [placeV2 p size at_ c0 c1 c2, show at_ - 5 = at_ - 1 - 4 by omega]
        clear c0 c1
        go_enter Tryz.func28, Tryz.ntmps28
        go_wp2
        go_rounds 3
        exact bodyPost_ret (v := .agg #[.int .i64 p, .int .i64 2, .int .i64 (at_ - 1 - 4)]) (by simp [results, Tryz.results28, go_sem]) rfl ⟨rfl, ((Below.refl _ _).alloc (Nat.le_refl _) _).alloc (by simp) _⟩
      · rw [placeV3 p size at_ c0 c1 c2, show at_ - 5 - size = at_ - 1 - 4 - size by omega]
        have c2' : 5 + size ≤ at_ := by omega
        clear c0 c1 c2
        go_enter Tryz.func28, Tryz.ntmps28
        go_wp2
        go_rounds 4
        exact bodyPost_ret (v := .agg #[.int .i64 p, .int .i64 3, .int .i64 (at_ - 1 - 4 - size)]) (by simp [results, Tryz.results28, go_sem]) rfl ⟨rfl, ((Below.refl _ _).alloc (Nat.le_refl _) _).alloc (by simp) _⟩
def sizedB (size : Int) : Bool := decide (1 ≤ size ∧ size ≤ 1024)
theorem sizedB_of {size : Int} (h1 : 1 ≤ size) (h2 : size ≤ 1024) : sizedB size = true := decide_eq_true ⟨h1, h2⟩
theorem sized_any (size : Int) (w : World) : Calls Tryz.prog 61 #[.int .i64 size] w fun e w' => e = .returned (.bool (sizedB size)) ∧ w = w' := by
  by_cases h : 1 ≤ size
  · have HS := Lib.hid (show sizedB size = decide (size ≤ 1024) by simp [sizedB, h])
    go_enter Tryz.func61, Tryz.ntmps61
    go_wp2
    go_ret
    exact ⟨ret_bool HS.out.symm, rfl⟩
  · have HS := Lib.hid (show sizedB size = false by simp [sizedB, h])
    go_enter Tryz.func61, Tryz.ntmps61
    go_wp2
    go_ret
    exact ⟨ret_bool HS.out.symm, rfl⟩
/-- The error of a size and a number. -/
def numE (size n : Int) : Int := if sizedB size then (if n < 0 ∨ 449849 < n then 2 else 0) else 1
theorem numE_size {size n : Int} (h : sizedB size = false) : numE size n = 1 := by rw [numE, h]; rfl
theorem numE_num {size n : Int} (h : sizedB size = true) (h' : n < 0 ∨ 449849 < n) : numE size n = 2 := by rw [numE, if_pos h, if_pos h']
theorem numE_ok {size n : Int} (h : sizedB size = true) (h' : ¬ (n < 0 ∨ 449849 < n)) : numE size n = 0 := by rw [numE, if_pos h, if_neg h']
theorem numE_zero {size n : Int} (h : numE size n = 0) : 1 ≤ size ∧ size ≤ 1024 ∧ 0 ≤ n ∧ n ≤ 449849 := by
  unfold numE at h
  split at h
  · rename_i hs
    have := of_decide_eq_true hs
    split at h
    · omega
    · omega
  · omega

theorem numbered_any (size n : Int) (w : World) : Calls Tryz.prog 22 #[.int .i64 size, .int .i64 n] w fun e w' => e = .returned (.int .i64 (numE size n)) ∧ w = w' := by
  by_cases hs : sizedB size = true
  · by_cases h : n < 0 ∨ 449849 < n
    · have HE := Lib.hid (numE_num hs h)
      rcases h with h | h
      · go_enter Tryz.func22, Tryz.ntmps22
        go_wp2_with (first | (go_at_call 61; refine (sized_any _ _).mono ?_; rintro e w' ⟨rfl, rfl⟩) | fail)
        go_ret
        exact ⟨ret_int HE.out.symm, rfl⟩
      · go_enter Tryz.func22, Tryz.ntmps22
        go_wp2_with (first | (go_at_call 61; refine (sized_any _ _).mono ?_; rintro e w' ⟨rfl, rfl⟩) | fail)
        go_ret
        exact ⟨ret_int HE.out.symm, rfl⟩
    · have HE := Lib.hid (numE_ok hs h)
      have h1 : 0 ≤ n := by omega
      have h2 : n ≤ 449849 := by omega
      clear h
      go_enter Tryz.func22, Tryz.ntmps22
      go_wp2_with (first | (go_at_call 61; refine (sized_any _ _).mono ?_; rintro e w' ⟨rfl, rfl⟩) | fail)
      go_ret
      exact ⟨ret_int HE.out.symm, rfl⟩
  · have hs : sizedB size = false := by simpa using hs
    have HE := Lib.hid (numE_size (n := n) hs)
    go_enter Tryz.func22, Tryz.ntmps22
    go_wp2_with (first | (go_at_call 61; refine (sized_any _ _).mono ?_; rintro e w' ⟨rfl, rfl⟩) | fail)
    go_ret
    exact ⟨ret_int HE.out.symm, rfl⟩

def bndV (n : Int) : Int := if 449849 < n then 0 else n
def bndE (n : Int) : Int := if 449849 < n then 2 else 0
theorem bounded_any (n : Int) (w : World) : Calls Tryz.prog 23 #[.int .i64 n] w fun e w' => e = .returned (.tuple #[.int .i64 (bndV n), .int .i64 (bndE n)]) ∧ w = w' := by
  by_cases h : 449849 < n
  · have HV := Lib.hid (show bndV n = 0 from if_pos h)
    have HE := Lib.hid (show bndE n = 2 from if_pos h)
    go_enter Tryz.func23, Tryz.ntmps23
    go_wp2
    go_ret2
    exact ⟨by rw [HV.out, HE.out]; rfl, rfl⟩
  · have HV := Lib.hid (show bndV n = n from if_neg h)
    have HE := Lib.hid (show bndE n = 0 from if_neg h)
    go_enter Tryz.func23, Tryz.ntmps23
    go_wp2
    go_ret2
    exact ⟨by rw [HV.out, HE.out]; rfl, rfl⟩

/-- Sectors, in plain numbers. -/
def secN (size n : Int) : Int := (n + size - 1) / size * (size + 7)
def secV (size n : Int) : Int := if numE size n = 0 then bndV (secN size n) else 0
def secE (size n : Int) : Int := if numE size n = 0 then bndE (secN size n) else numE size n
theorem secN_bd {size n : Int} (h1 : 1 ≤ size) (h2 : size ≤ 1024) (h3 : 0 ≤ n) (h4 : n ≤ 449849) : 0 ≤ (n + size - 1) / size ∧ (n + size - 1) / size ≤ 450873 ∧ 0 ≤ (n + size - 1) / size * (size + 7) ∧ (n + size - 1) / size * (size + 7) ≤ 1000000000 := by
  have a : 0 ≤ (n + size - 1) / size := Int.ediv_nonneg (by omega) (by omega)
  have b : (n + size - 1) / size ≤ 450873 := Int.le_trans (Int.ediv_le_self _ (by omega)) (by omega)
  refine ⟨a, b, Int.mul_nonneg a (by omega), ?_⟩
  have := Int.mul_le_mul b (show size + 7 ≤ 1031 by omega) (by omega) (by omega)
  omega

theorem numE_cases (size n : Int) : (sizedB size = false ∧ numE size n = 1) ∨ (sizedB size = true ∧ n < 0 ∧ numE size n = 2) ∨ (sizedB size = true ∧ 449849 < n ∧ numE size n = 2) ∨ (sizedB size = true ∧ 0 ≤ n ∧ n ≤ 449849 ∧ numE size n = 0) := by
  rcases hs : sizedB size with _ | _
  · exact .inl ⟨rfl, numE_size hs⟩
  · by_cases h : n < 0
    · exact .inr (.inl ⟨rfl, h, numE_num hs (.inl h)⟩)
    · by_cases h' : 449849 < n
      · exact .inr (.inr (.inl ⟨rfl, h', numE_num hs (.inr h')⟩))
      · exact .inr (.inr (.inr ⟨rfl, by omega, by omega, numE_ok hs (by omega)⟩))

theorem sectors_any (size n : Int) (w : World) : Calls Tryz.prog 6 #[.int .i64 size, .int .i64 n] w fun e w' => e = .returned (.tuple #[.int .i64 (secV size n), .int .i64 (secE size n)]) ∧ w = w' := by
  by_cases h : numE size n = 0
  · obtain ⟨h1, h2, h3, h4⟩ := numE_zero h
    obtain ⟨b1, b2, b3, b4⟩ := secN_bd h1 h2 h3 h4
    have HV := Lib.hid (show secV size n = bndV ((n + size - 1) / size * (size + 7)) from if_pos h)
    have HE := Lib.hid (show secE size n = bndE ((n + size - 1) / size * (size + 7)) from if_pos h)
    have hE : (numE size n != 0) = false := by rw [h]; rfl
    clear h
    go_enter Tryz.func6, Tryz.ntmps6
    go_wp2_with (first
      | (go_at_call 22; refine (numbered_any _ _ _).mono ?_; rintro e w' ⟨rfl, rfl⟩)
      | (go_at_call 23; refine (bounded_any _ _).mono ?_; rintro e w' ⟨rfl, rfl⟩)
      | fail)
    go_ret2
    exact ⟨by rw [HV.out, HE.out]; rfl, rfl⟩
  · have HV := Lib.hid (show secV size n = 0 from if_neg h)
    have HE := Lib.hid (show secE size n = numE size n from if_neg h)
    have hE : (numE size n != 0) = true := by simpa using h
    clear h
    go_enter Tryz.func6, Tryz.ntmps6
    go_wp2_with (first
      | (go_at_call 22; refine (numbered_any _ _ _).mono ?_; rintro e w' ⟨rfl, rfl⟩)
      | fail)
    go_ret2
    exact ⟨by rw [HV.out, HE.out]; rfl, rfl⟩

theorem bcell {B : Nat} {W w1 : World} (hb : Below B W w1) : (∀ b o, b < B → w1.cell? ⟨b, o, none⟩ = W.cell? ⟨b, o, none⟩) ∧ (∀ b o, b < B → w1.frozen? ⟨b, o, none⟩ = W.frozen? ⟨b, o, none⟩) :=
  ⟨fun b o h => hb.cell (p := ⟨b, o, none⟩) h, fun b o h => hb.frozen (p := ⟨b, o, none⟩) h⟩

def locV (size n : Int) : Value := if numE size n = 0 then placeV (n / (size + 7)) size (n % (size + 7)) else .agg #[.int .i64 0, .int .i64 0, .int .i64 0]
theorem loc_bd {size n : Int} (h1 : 1 ≤ size) (h2 : size ≤ 1024) (h3 : 0 ≤ n) (h4 : n ≤ 449849) : 0 ≤ n / (size + 7) ∧ n / (size + 7) ≤ 449849 ∧ 0 ≤ n % (size + 7) ∧ n % (size + 7) < size + 7 :=
  ⟨Int.ediv_nonneg (by omega) (by omega), Int.le_trans (Int.ediv_le_self _ (by omega)) (by omega), Int.emod_nonneg _ (by omega), Int.emod_lt_of_pos _ (by omega)⟩

set_option maxHeartbeats 1000000 in
theorem locate_any (size n : Int) (w : World) : Calls Tryz.prog 8 #[.int .i64 size, .int .i64 n] w fun e w' => e = .returned (.tuple #[locV size n, .int .i64 (numE size n)]) ∧ Below w.heap.size w w' := by
  by_cases h : numE size n = 0
  · obtain ⟨h1, h2, h3, h4⟩ := numE_zero h
    obtain ⟨b1, b2, b3, b4⟩ := loc_bd h1 h2 h3 h4
    obtain ⟨k, x, hp⟩ : ∃ k x : Int, placeV (n / (size + 7)) size (n % (size + 7)) = .agg #[.int .i64 (n / (size + 7)), .int .i64 k, .int .i64 x] := ⟨_, _, rfl⟩
    have HV := Lib.hid (show locV size n = .agg #[.int .i64 (n / (size + 7)), .int .i64 k, .int .i64 x] from (if_pos h).trans hp)
    have HN := Lib.hid h
    have hE : (numE size n != 0) = false := by rw [h]; rfl
    have HP := Lib.hid (fun w => place_any (n / (size + 7)) size (n % (size + 7)) w b3 (by omega) h1 h2)
    have HQ := Lib.hid hp
    clear h hp
    go_enter Tryz.func8, Tryz.ntmps8
    go_wp2_with (first
      | (go_at_call 22; refine (numbered_any _ _ _).mono ?_; rintro e w' ⟨rfl, rfl⟩)
      | fail)
    have z1 : ¬ (size + 7 = 0) := by omega
    have z2 : IntKind.i64.wrap (n.tdiv (size + 7)) = n / (size + 7) := by rw [Int.tdiv_eq_ediv_of_nonneg h3]; exact IntWalk.i64_in _ (by omega)
    have z3 : n.tmod (size + 7) = n % (size + 7) := Int.tmod_eq_emod_of_nonneg h3
    go_still_tail 7, (by kernel_rfl)
    change wpList _ _ _ _ _ (World.drew (w.alloc (Obj.cells #[Value.int .i64 0, Value.int .i64 0, Value.int .i64 0] 33)))
    clear z1 z2 z3
    go_wp2_with (first
      | (go_at_call 28; refine (HP.out _).mono ?_; rintro e w1 ⟨rfl, hb1⟩; rw [HQ.out]
         have c0 := hb1.cell (p := ⟨w.heap.size, 0, none⟩) (by simp); have c1 := hb1.cell (p := ⟨w.heap.size, 1, none⟩) (by simp); have c2 := hb1.cell (p := ⟨w.heap.size, 2, none⟩) (by simp)
         have f0 := hb1.frozen (p := ⟨w.heap.size, 0, none⟩) (by simp); have f1 := hb1.frozen (p := ⟨w.heap.size, 1, none⟩) (by simp); have f2 := hb1.frozen (p := ⟨w.heap.size, 2, none⟩) (by simp))
      | fail)
    refine bodyPost_ret (v := .tuple #[.agg #[.int .i64 (n / (size + 7)), .int .i64 k, .int .i64 x], .int .i64 0]) (by simp [results, Tryz.results8, go_sem, c0, c1, c2]) rfl ⟨by rw [HV.out, HN.out], ?_⟩
    have b0 : Below w.heap.size w w1 := ((Below.refl _ _).alloc (Nat.le_refl _) _).drew.trans (hb1.mono (by simp))
    exact ((b0.setCell (p := ⟨w.heap.size, 0, none⟩) (Nat.le_refl _) _).setCell (p := ⟨w.heap.size, 1, none⟩) (Nat.le_refl _) _).setCell (p := ⟨w.heap.size, 2, none⟩) (Nat.le_refl _) _
  · have HV := Lib.hid (show locV size n = .agg #[.int .i64 0, .int .i64 0, .int .i64 0] from if_neg h)
    have hE : (numE size n != 0) = true := by simpa using h
    clear h
    go_enter Tryz.func8, Tryz.ntmps8
    go_wp2_with (first
      | (go_at_call 22; refine (numbered_any _ _ _).mono ?_; rintro e w' ⟨rfl, rfl⟩)
      | fail)
    exact bodyPost_ret (v := .tuple #[.agg #[.int .i64 0, .int .i64 0, .int .i64 0], .int .i64 (numE size n)]) (by simp [results, Tryz.results8, go_sem]) rfl ⟨by rw [HV.out], (Below.refl _ _).alloc (Nat.le_refl _) _⟩
end Go.Proofs.YtlnjphggfbiabaaGreat
