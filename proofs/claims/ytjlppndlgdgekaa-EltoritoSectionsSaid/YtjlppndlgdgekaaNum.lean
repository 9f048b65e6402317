/-
  Numbers as little-endian bytes: Little of endian and of the reference (out of chapter 1's texts).
-/
import Derived.Test.YtjlppndlgdgekaaKit
import Derived.Test.YtjlppndlgdgekaaSpec
namespace Go.Proofs.Ytjlppndlgdgekaa
open Go.RowKit
set_option linter.unusedVariables false

theorem info_u8 : (Try.prog.info? 5).map (fun i => (i.zero, i.size, i.bytes)) = some (some (.int .u8 0), 1, 1) := by kernel_rfl

theorem bt_walk (n : Int) (k : Nat) (h : 0 ≤ n) : Value.int .u8 (n / 2 ^ (8 * k) % 256) = byteV (bt n k) := by
  obtain ⟨m, rfl⟩ := Int.eq_ofNat_of_zero_le h
  have e3 : ((2 : Int) ^ (8 * k)) = ((256 ^ k : Nat) : Int) := by rw [Int.pow_mul, Int.natCast_pow]; first | done | rfl
  rw [e3]
  unfold byteV bt
  congr 1

/-- The cells of the slice behind k rounds: the place of byte i has it if i is below k. -/
def wcells (n : Int) (size : Nat) (inv : Nat → Nat) (k : Nat) : List Value := (List.range size).map fun j => if inv j < k then byteV (bt n (inv j)) else .int .u8 0
theorem wcells_get (n : Int) (size : Nat) (inv : Nat → Nat) (k j : Nat) (h : j < size) : (wcells n size inv k)[j]? = some (if inv j < k then byteV (bt n (inv j)) else .int .u8 0) := by
  simp [wcells, h]
theorem wcells_set (n : Int) (size : Nat) (inv : Nat → Nat) (k j : Nat) (hj : inv j = k) (hinj : ∀ i, i < size → inv i = k → i = j) : (wcells n size inv k).set j (byteV (bt n k)) = wcells n size inv (k + 1) := by
  apply List.ext_getElem
  · simp [wcells]
  · intro i h1 h2
    have hi : i < size := by simpa [wcells] using h2
    rw [List.getElem_set]
    simp only [wcells, List.getElem_map, List.getElem_range]
    by_cases e : j = i
    · subst e
      simp [hj]
    · rw [if_neg e]
      have hne : inv i ≠ k := fun h => e (hinj i hi h).symm
      by_cases hlt : inv i < k
      · rw [if_pos hlt, if_pos (by omega)]
      · rw [if_neg hlt, if_neg (by omega)]
theorem wcells_zero (n : Int) (size : Nat) (inv : Nat → Nat) : (madeCells (Value.int .u8 0).cells (size * 1)).toList = wcells n size inv 0 := by
  apply List.ext_getElem
  · simp [wcells, size_madeCells]
  · intro i h1 h2
    simp [madeCells, wcells, Value.cells, Nat.mod_one]
theorem wcells_all (n : Int) (size : Nat) (inv : Nat → Nat) (h : ∀ j, j < size → inv j < size) : wcells n size inv size = ((List.range size).map fun j => bt n (inv j)).map byteV := by
  apply List.ext_getElem
  · simp [wcells]
  · intro i h1 h2
    have hi : i < size := by simpa [wcells] using h1
    simp [wcells, h i hi]

theorem up_any (size : Int) (w : World) : Calls Try.prog 61 #[.int .i64 size] w fun e w' => e = .returned (.func (.func 68) #[] #[]) ∧ w = w' := by
  go_enter Try.func61, Try.ntmps61
  go_wp2
  go_ret
  exact ⟨rfl, rfl⟩
theorem up1 (i : Int) (w : World) : Calls Try.prog 68 #[.int .i64 i] w fun e w' => e = .returned (.int .i64 i) ∧ w' = w := by
  go_enter Try.func68, Try.ntmps68
  go_wp2
  go_ret
  exact ⟨rfl, rfl⟩
set_option maxHeartbeats 400000 in
theorem write_up (n : Int) (size : Nat) (w : World) (h1 : 1 ≤ size) (h2 : size ≤ 8) (hn : 0 ≤ n) :
    Calls Try.prog 60 #[.int .i64 n, .int .i64 size, .func (.func 68) #[] #[]] w fun e w' => e = .returned (.string ⟨(leB n size).toArray⟩) ∧ Below w.heap.size w w' := by
  obtain ⟨i0, hi, hz0, hz1, hz2⟩ := info_parts info_u8
  go_enter Try.func60, Try.ntmps60
  go_wp2_with (at_make; refine wpList_make_full _ rfl _ _ _ rfl w.heap.size 5 i0 _ 1 Try.underlying35 hi hz0 hz1 _ _ _ _ size rfl rfl rfl rfl (by rw [hz2]; omega) (by unfold maxLen; omega) (Nat.le_refl _) ?_; intro w1 hown1 hg1)
  go_loopw [12] (fun i wr => ∃ k : Nat, k ≤ size ∧ i = .int .i64 k ∧ wr.ownsRow w.heap.size 5 1 (.slice (some ⟨w.heap.size, 0, none⟩) size size) size (wcells n size (fun j => j) k) ∧ Below w.heap.size w wr) (fun i _ => size - (intOf i).toNat)
  case atStart => exact ⟨0, by omega, rfl, by rw [← wcells_zero]; exact hown1, (Below.refl _ _).grown hg1 (Nat.le_refl _) (fun k hk => by cases hk)⟩
  case round =>
    obtain ⟨k, hk, rfl, hown, hb⟩ := hrel
    by_cases hlt : k < size
    · have e1 : IntKind.i64.wrap (8 * (k:Int)) = 8 * (k:Int) := IntWalk.i64_in _ (by omega)
      have e2 : (0:Int) ≤ 8 * (k:Int) := by omega
      have e3 : 8 * (k:Int) ≤ 64 := by omega
      obtain ⟨j, hj⟩ : ∃ j : Nat, j = k := ⟨_, rfl⟩
      have hjs : j < size := by omega
      have HJ := Lib.hid hj
      have e4 : (0:Int) ≤ (j:Int) := by omega
      have e5 : (j:Int) < (size:Int) := by omega
      have hcell := (hown.cellAt j (by omega)).trans (wcells_get n size (fun j => j) k j hjs)
      obtain ⟨x, hx⟩ : ∃ x, (if (fun j => j) j < k then byteV (bt n ((fun j => j) j)) else .int .u8 0) = x := ⟨_, rfl⟩
      rw [hx] at hcell
      have hfr := hown.frozenAt j
      have hj := hj.symm; subst hj
      clear hx
      go_wp2
      go_still_tail 10, (by kernel_rfl)
      still_call (up1 _ _)
      repeat still_step
      refine wpStill_nil ?_
      clear e1
      go_wp2
      go_roundw
      case rel =>
        have hst := hown.stored k (byteV (bt n k))
        rw [wcells_set n size _ k k (by have := HJ.out; omega) (by intro i hi hh; have := HJ.out; omega)] at hst
        refine ⟨k + 1, by omega, by go_num, ?_, ?_⟩
        · rw [bt_walk n k hn]
          exact hst.1
        · exact (hb.setCell (p := ⟨w.heap.size, _, none⟩) (Nat.le_refl _) _).drew
      case measure => simp [intOf]; omega
    · obtain rfl : k = size := by omega
      rw [wcells_all n k _ (by intro j hj; omega)] at hown
      have hcv := fun wx (hx : wx = wr) => hx ▸ own_string (P := Try.prog) wr 35 9 5 Try.underlying35 Try.underlying5 Try.underlying9 hown
      have hcv := hcv wr rfl
      go_wp2
      go_ret
      exact ⟨rfl, hb⟩

theorem fits_lemma (n : Int) (size : Nat) (h1 : 1 ≤ size) (h2 : size ≤ 8) (hn2 : n < 9223372036854775808) (h0 : 0 ≤ n) :
    ((size : Int) == 8 || decide (n < wrap64 (2 ^ (8 * size)))) = fitsB n size := by
  have : size = 1 ∨ size = 2 ∨ size = 3 ∨ size = 4 ∨ size = 5 ∨ size = 6 ∨ size = 7 ∨ size = 8 := by omega
  rcases this with rfl | rfl | rfl | rfl | rfl | rfl | rfl | rfl <;> simp [fitsB, wrap64, h0] <;> omega

set_option maxHeartbeats 400000 in
theorem fits_any (n : Int) (size : Nat) (w : World) (h1 : 1 ≤ size) (h2 : size ≤ 8) (hn2 : n < 9223372036854775808) :
    Calls Try.prog 67 #[.int .i64 n, .int .i64 size] w fun e w' => e = .returned (.bool (fitsB n size)) ∧ w = w' := by
  by_cases h0 : 0 ≤ n
  · have HF := Lib.hid (fits_lemma n size h1 h2 hn2 h0)
    by_cases h8 : (size : Int) = 8
    · have h8' : size = 8 := by omega
      subst h8'
      go_enter Try.func67, Try.ntmps67
      go_wp2
      go_ret
      exact ⟨ret_bool (by rw [← HF.out]; simp), rfl⟩
    · go_enter Try.func67, Try.ntmps67
      go_wp2
      go_ret
      exact ⟨ret_bool HF.out, rfl⟩
  · have HF := Lib.hid (show fitsB n size = false by simp [fitsB, h0])
    go_enter Try.func67, Try.ntmps67
    go_wp2
    go_ret
    exact ⟨ret_bool HF.out.symm, rfl⟩

/-- The error of a number and a size. -/
def errB (n size : Int) : Int := if size < 1 ∨ 8 < size then 1 else if fitsB n size.toNat then 0 else 2

set_option maxHeartbeats 400000 in
theorem check_any (n size : Int) (w : World) (hn2 : n < 9223372036854775808) :
    Calls Try.prog 59 #[.int .i64 n, .int .i64 size] w fun e w' => e = .returned (.int .i64 (errB n size)) ∧ w = w' := by
  by_cases h : size < 1 ∨ 8 < size
  · have HF := Lib.hid (show errB n size = 1 by simp [errB, h])
    rcases h with h | h
    · go_enter Try.func59, Try.ntmps59
      go_wp2
      go_ret
      exact ⟨ret_int HF.out.symm, rfl⟩
    · go_enter Try.func59, Try.ntmps59
      go_wp2
      go_ret
      exact ⟨ret_int HF.out.symm, rfl⟩
  · obtain ⟨s, rfl⟩ : ∃ s : Nat, size = s := ⟨size.toNat, by omega⟩
    by_cases hf : fitsB n s = true
    · have HF := Lib.hid (show errB n s = 0 by simp [errB, h, hf])
      have hs1 : 1 ≤ s := by omega
      have hs2 : s ≤ 8 := by omega
      clear h
      go_enter Try.func59, Try.ntmps59
      go_wp2_with (go_at_call 67; refine (fits_any _ _ _ hs1 hs2 hn2).mono ?_; rintro e w' ⟨rfl, rfl⟩)
      go_ret
      exact ⟨ret_int HF.out.symm, rfl⟩
    · have hf : fitsB n s = false := by simpa using hf
      have HF := Lib.hid (show errB n s = 2 by simp [errB, h, hf])
      have hs1 : 1 ≤ s := by omega
      have hs2 : s ≤ 8 := by omega
      clear h
      go_enter Try.func59, Try.ntmps59
      go_wp2_with (go_at_call 67; refine (fits_any _ _ _ hs1 hs2 hn2).mono ?_; rintro e w' ⟨rfl, rfl⟩)
      go_ret
      exact ⟨ret_int HF.out.symm, rfl⟩

theorem errB_ok (n size : Int) (h : errB n size = 0) : ∃ s : Nat, size = s ∧ 1 ≤ s ∧ s ≤ 8 ∧ fitsB n s = true ∧ 0 ≤ n := by
  unfold errB at h
  split at h
  · omega
  · rename_i h'
    split at h
    · rename_i hf
      refine ⟨size.toNat, by omega, by omega, by omega, hf, ?_⟩
      simp [fitsB] at hf
      exact hf.1
    · omega

/-- What Little and Big return. -/
def strLe (n size : Int) : ByteArray := if errB n size = 0 then ⟨(leB n size.toNat).toArray⟩ else ByteArray.empty
set_option maxHeartbeats 400000 in
theorem little_any (n size : Int) (w : World) (hn2 : n < 9223372036854775808) :
    Calls Try.prog 47 #[.int .i64 n, .int .i64 size] w fun e w' => e = .returned (.tuple #[.string (strLe n size), .int .i64 (errB n size)]) ∧ Below w.heap.size w w' := by
  by_cases h : errB n size = 0
  · obtain ⟨s, rfl, hs1, hs2, hf, hn⟩ := errB_ok n size h
    have HF := Lib.hid (show strLe n s = ⟨(leB n s).toArray⟩ by simp [strLe, h])
    have HE := Lib.hid h
    clear h
    have hE : (errB n s != 0) = false := by rw [HE.out]; rfl
    go_enter Try.func47, Try.ntmps47
    go_wp2_with (first
      | (go_at_call 59; refine (check_any _ _ _ hn2).mono ?_; rintro e w' ⟨rfl, rfl⟩)
      | (go_at_call 61; refine (up_any _ _).mono ?_; rintro e w' ⟨rfl, rfl⟩)
      | (go_at_call 60; refine (write_up _ _ _ hs1 hs2 hn).mono ?_; rintro e w1 ⟨rfl, hb⟩))
    go_ret2
    exact ⟨by rw [HF.out, HE.out]; rfl, hb⟩
  · have HF := Lib.hid (show strLe n size = ByteArray.empty by simp [strLe, h])
    have hE : (errB n size != 0) = true := by simpa using h
    clear h
    go_enter Try.func47, Try.ntmps47
    go_wp2_with (first
      | (go_at_call 59; refine (check_any _ _ _ hn2).mono ?_; rintro e w' ⟨rfl, rfl⟩))
    go_ret2
    exact ⟨by rw [HF.out]; rfl, Below.refl _ _⟩

theorem div_step (n : Int) (k : Nat) : n / 256 ^ k / 256 = n / 256 ^ (k + 1) := by
  rw [Int.pow_succ, Int.ediv_ediv_of_nonneg (Int.pow_nonneg (by omega))]
theorem div_nonneg (n : Int) (k : Nat) (h : 0 ≤ n) : 0 ≤ n / 256 ^ k := Int.ediv_nonneg h (Int.pow_nonneg (by omega))
theorem div_le (n : Int) (k : Nat) (h : 0 ≤ n) : n / 256 ^ k ≤ n := Int.ediv_le_self _ h
theorem div_zero_iff (n : Int) (k : Nat) (h : 0 ≤ n) : (n / 256 ^ k == 0) = fitsB n k := by
  have hp : (0 : Int) < 256 ^ k := Int.pow_pos (by omega)
  rw [Bool.eq_iff_iff]
  simp only [beq_iff_eq, fitsB, Bool.and_eq_true, decide_eq_true_eq]
  constructor
  · intro hq
    refine ⟨h, ?_⟩
    have := Int.lt_mul_ediv_self_add (x := n) (k := 256 ^ k) hp
    rw [hq] at this
    omega
  · rintro ⟨_, hlt⟩
    exact Int.ediv_eq_zero_of_lt h hlt

set_option maxHeartbeats 400000 in
theorem rfits_any (n : Int) (size : Nat) (w : World) (h2 : size ≤ 8) (hn2 : n < 9223372036854775808) :
    Calls Try.prog 62 #[.int .i64 n, .int .i64 size] w fun e w' => e = .returned (.bool (fitsB n size)) ∧ w = w' := by
  by_cases h0 : 0 ≤ n
  · have HF := Lib.hid (div_zero_iff n size h0)
    go_enter Try.func62, Try.ntmps62
    go_wp2
    go_loop [0, 5] (fun m i => ∃ k : Nat, k ≤ size ∧ i = .int .i64 k ∧ m = .int .i64 (n / 256 ^ k)) (fun _ i => size - (intOf i).toNat)
    case atStart => exact ⟨0, by omega, rfl, by simp⟩
    case round =>
      obtain ⟨k, hk, rfl, rfl⟩ := hrel
      have hq0 := div_nonneg n k h0
      have hq1 := div_le n k h0
      by_cases hlt : k < size
      · have HS := Lib.hid (div_step n k)
        generalize n / 256 ^ k = q at *
        go_wp2
        go_round
        case rel => exact ⟨k + 1, by omega, by go_num, by rw [← HS.out]⟩
        case measure => simp [intOf]; omega
      · obtain rfl : k = size := by omega
        generalize n / 256 ^ k = q at *
        go_wp2
        go_ret
        exact ⟨ret_bool HF.out, rfl⟩
  · have HF := Lib.hid (show fitsB n size = false by simp [fitsB, h0])
    go_enter Try.func62, Try.ntmps62
    go_wp2
    go_ret
    exact ⟨ret_bool HF.out.symm, rfl⟩

theorem leB_snoc (n : Int) (k : Nat) : leB n (k + 1) = leB n k ++ [bt n k] := by simp [leB, List.range_succ]
theorem bt_div (n : Int) (k : Nat) (h : 0 ≤ n) : Value.int .u8 (n / 256 ^ k % 256) = byteV (bt n k) := by
  obtain ⟨m, rfl⟩ := Int.eq_ofNat_of_zero_le h
  have e3 : ((256 : Int) ^ k) = ((256 ^ k : Nat) : Int) := by rw [Int.natCast_pow]; rfl
  rw [e3]
  unfold byteV bt
  congr 1

set_option maxHeartbeats 400000 in
theorem bytes_any (n : Int) (size : Nat) (w : World) (h2 : size ≤ 8) (h0 : 0 ≤ n) (hn2 : n < 9223372036854775808) :
    Calls Try.prog 63 #[.int .i64 n, .int .i64 size] w fun e w' => e = .returned (.string ⟨(leB n size).toArray⟩) ∧ Below w.heap.size w w' := by
  go_enter Try.func63, Try.ntmps63
  go_wp2
  go_loopw [0, 5, 6] (fun m v i wr => ∃ k : Nat, k ≤ size ∧ i = .int .i64 k ∧ m = .int .i64 (n / 256 ^ k) ∧ wr.ownsRow w.heap.size 5 1 v k ((leB n k).map byteV) ∧ Below w.heap.size w wr) (fun _ _ i _ => size - (intOf i).toNat)
  case atStart => exact ⟨0, by omega, rfl, by simp, World.ownsRow_made _ _ _ (Nat.le_refl _) (by decide) rfl, (Below.refl _ _).alloc (Nat.le_refl _) _⟩
  case round =>
    obtain ⟨k, hk, rfl, rfl, hown, hb⟩ := hrel
    have hq0 := div_nonneg n k h0
    have hq1 := div_le n k h0
    by_cases hlt : k < size
    · have HS := Lib.hid (div_step n k)
      have HB := Lib.hid (bt_div n k h0)
      generalize n / 256 ^ k = q at *
      go_wp2_with (at_builtin; refine wpList_app1 hown info_u8 Try.underlying35 rfl (by unfold maxLen; omega) (by omega) hb.size rfl rfl rfl (by rfl) (by rfl) ?_; intro v1 w1 hown1 hb1 _)
      go_roundw
      case rel => exact ⟨k + 1, by omega, by go_num, by rw [← HS.out], by rw [leB_snoc, List.map_append, List.map_singleton, ← HB.out]; exact hown1, hb.trans hb1⟩
      case measure => simp [intOf]; omega
    · obtain rfl : k = size := by omega
      have hcv := own_string (P := Try.prog) wr 35 9 5 Try.underlying35 Try.underlying5 Try.underlying9 hown
      go_wp2
      go_ret
      exact ⟨rfl, hb⟩

theorem size_mk (l : List UInt8) : (⟨l.toArray⟩ : ByteArray).size = l.length := rfl
theorem strLe_ok {n : Int} {s : Nat} (h : errB n s = 0) : strLe n s = ⟨(leB n s).toArray⟩ := by simp [strLe, h]
theorem strLe_bad {n s : Int} (h : errB n s ≠ 0) : strLe n s = ByteArray.empty := by simp [strLe, h]
theorem strLe_size (n s : Int) : (strLe n s).size ≤ 8 := by
  by_cases h : errB n s = 0
  · obtain ⟨s, rfl, hs1, hs2, hf, hn⟩ := errB_ok n s h
    rw [strLe_ok h, size_mk, leB_length]
    omega
  · rw [strLe_bad h]; simp
set_option maxHeartbeats 400000 in
theorem rlittle_any (n size : Int) (w : World) (hn2 : n < 9223372036854775808) :
    Calls Try.prog 48 #[.int .i64 n, .int .i64 size] w fun e w' => e = .returned (.tuple #[.string (strLe n size), .int .i64 (errB n size)]) ∧ Below w.heap.size w w' := by
  by_cases h : size < 1 ∨ 8 < size
  · have HE := Lib.hid (show errB n size = 1 by simp [errB, h])
    have HF := Lib.hid (show strLe n size = ByteArray.empty from strLe_bad (by rw [HE.out]; decide))
    rcases h with h | h
    · go_enter Try.func48, Try.ntmps48
      go_wp2
      go_ret2
      exact ⟨by rw [HF.out, HE.out]; rfl, Below.refl _ _⟩
    · go_enter Try.func48, Try.ntmps48
      go_wp2
      go_ret2
      exact ⟨by rw [HF.out, HE.out]; rfl, Below.refl _ _⟩
  · obtain ⟨s, rfl⟩ : ∃ s : Nat, size = s := ⟨size.toNat, by omega⟩
    have hs1 : 1 ≤ s := by omega
    have hs2 : s ≤ 8 := by omega
    by_cases hf : fitsB n s = true
    · have h0 : 0 ≤ n := by simp [fitsB] at hf; exact hf.1
      have HE := Lib.hid (show errB n s = 0 by simp [errB, h, hf])
      have HF := Lib.hid (strLe_ok HE.out)
      clear h
      go_enter Try.func48, Try.ntmps48
      go_wp2_with (first
        | (go_at_call 62; refine (rfits_any _ _ _ hs2 hn2).mono ?_; rintro e w' ⟨rfl, rfl⟩)
        | (go_at_call 63; refine (bytes_any _ _ _ hs2 h0 hn2).mono ?_; rintro e w1 ⟨rfl, hb⟩))
      go_ret2
      exact ⟨by rw [HF.out, HE.out]; rfl, hb⟩
    · have hf : fitsB n s = false := by simpa using hf
      have HE := Lib.hid (show errB n s = 2 by simp [errB, h, hf])
      have HF := Lib.hid (show strLe n s = ByteArray.empty from strLe_bad (by rw [HE.out]; decide))
      clear h
      go_enter Try.func48, Try.ntmps48
      go_wp2_with (first
        | (go_at_call 62; refine (rfits_any _ _ _ hs2 hn2).mono ?_; rintro e w' ⟨rfl, rfl⟩))
      go_ret2
      exact ⟨by rw [HF.out, HE.out]; rfl, Below.refl _ _⟩

end Go.Proofs.Ytjlppndlgdgekaa
