/-
  Numbers in both byte orders: Both of endian and of the reference (out of chapter 1's texts).
-/
import Derived.Test.YtnomodbcpndocaaKit
import Derived.Test.YtnomodbcpndocaaSpec
namespace Go.Proofs.Ytnomodbcpndocaa
open Go.RowKit
set_option linter.unusedVariables false

theorem info_u8 : (Try.prog.info? 5).map (fun i => (i.zero, i.size, i.bytes)) = some (some (.int .u8 0), 1, 1) := by kernel_rfl

theorem bt_walk (n : Int) (k : Nat) (h : 0 ≤ n) : Value.int .u8 (n / 2 ^ (8 * k) % 256) = byteV (bt n k) := by
  obtain ⟨m, rfl⟩ := Int.eq_ofNat_of_zero_le h
  have e3 : ((2 : Int) ^ (8 * k)) = ((256 ^ k : Nat) : Int) := by rw [Int.pow_mul, Int.natCast_pow]; first | done | rfl
  rw [e3]
  unfold byteV bt
  congr 1

/-- The cells of the slice behind k rounds: the place of byte i has it if i is below k. -/
def wcells (n : Int) (size : Nat) (inv : Nat → Nat) (k : Nat) : List Value := (List.range size).map fun j => if inv j < k then byteV (bt n (inv j)) else .int .u8 0
theorem wcells_get (n : Int) (size : Nat) (inv : Nat → Nat) (k j : Nat) (h : j < size) : (wcells n size inv k)[j]? = some (if inv j < k then byteV (bt n (inv j)) else .int .u8 0) := by
  simp [wcells, h]
theorem wcells_set (n : Int) (size : Nat) (inv : Nat → Nat) (k j : Nat) (hj : inv j = k) (hinj : ∀ i, i < size → inv i = k → i = j) : (wcells n size inv k).set j (byteV (bt n k)) = wcells n size inv (k + 1) := by
  apply List.ext_getElem
  · simp [wcells]
  · intro i h1 h2
    have hi : i < size := by simpa [wcells] using h2
    rw [List.getElem_set]
    simp only [wcells, List.getElem_map, List.getElem_range]
    by_cases e : j = i
    · subst e
      simp [hj]
    · rw [if_neg e]
      have hne : inv i ≠ k := fun h => e (hinj i hi h).symm
      by_cases hlt : inv i < k
      · rw [if_pos hlt, if_pos (by omega)]
      · rw [if_neg hlt, if_neg (by omega)]
theorem wcells_zero (n : Int) (size : Nat) (inv : Nat → Nat) : (madeCells (Value.int .u8 0).cells (size * 1)).toList = wcells n size inv 0 := by
  apply List.ext_getElem
  · simp [wcells, size_madeCells]
  · intro i h1 h2
    simp [madeCells, wcells, Value.cells, Nat.mod_one]
theorem wcells_all (n : Int) (size : Nat) (inv : Nat → Nat) (h : ∀ j, j < size → inv j < size) : wcells n size inv size = ((List.range size).map fun j => bt n (inv j)).map byteV := by
  apply List.ext_getElem
  · simp [wcells]
  · intro i h1 h2
    have hi : i < size := by simpa [wcells] using h1
    simp [wcells, h i hi]

theorem up_any (size : Int) (w : World) : Calls Try.prog 72 #[.int .i64 size] w fun e w' => e = .returned (.func (.func 78) #[] #[]) ∧ w = w' := by
  go_enter Try.func72, Try.ntmps72
  go_wp2
  go_ret
  exact ⟨rfl, rfl⟩
theorem down_any (size : Int) (w : World) : Calls Try.prog 73 #[.int .i64 size] w fun e w' => e = .returned (.func (.func 79) #[] #[.pointer (some ⟨w.heap.size, 0, none⟩)]) ∧ w.alloc (.cells #[.int .i64 size] 3) = w' := by
  go_enter Try.func73, Try.ntmps73
  go_wp2
  go_ret
  exact ⟨rfl, rfl⟩
theorem up1 (i : Int) (w : World) : Calls Try.prog 78 #[.int .i64 i] w fun e w' => e = .returned (.int .i64 i) ∧ w' = w := by
  go_enter Try.func78, Try.ntmps78
  go_wp2
  go_ret
  exact ⟨rfl, rfl⟩
theorem down1 (i size j : Int) (w : World) (p : Addr) (hc : w.cell? p = some (.int .i64 size)) (h0 : 0 ≤ i) (h1 : i < size) (h2 : size ≤ 8) (hj : size - 1 - i = j) : Calls Try.prog 79 #[.int .i64 i, .pointer (some p)] w fun e w' => e = .returned (.int .i64 j) ∧ w' = w := by
  have HJ := Lib.hid hj
  clear hj
  go_enter Try.func79, Try.ntmps79
  go_wp2
  go_ret
  exact ⟨ret_int HJ.out, rfl⟩

set_option maxRecDepth 100000 in
set_option maxHeartbeats 400000 in
theorem write_up (n : Int) (size : Nat) (w : World) (h1 : 1 ≤ size) (h2 : size ≤ 8) (hn : 0 ≤ n) :
    Calls Try.prog 71 #[.int .i64 n, .int .i64 size, .func (.func 78) #[] #[]] w fun e w' => e = .returned (.string ⟨(leB n size).toArray⟩) ∧ Below w.heap.size w w' := by
  obtain ⟨i0, hi, hz0, hz1, hz2⟩ := info_parts info_u8
  go_enter Try.func71, Try.ntmps71
  go_wp2_with (at_make; refine wpList_make_full _ rfl _ _ _ rfl w.heap.size 5 i0 _ 1 Try.underlying70 hi hz0 hz1 _ _ _ _ size rfl rfl rfl rfl (by rw [hz2]; omega) (by unfold maxLen; omega) (Nat.le_refl _) ?_; intro w1 hown1 hg1)
  go_loopw [12] (fun i wr => ∃ k : Nat, k ≤ size ∧ i = .int .i64 k ∧ wr.ownsRow w.heap.size 5 1 (.slice (some ⟨w.heap.size, 0, none⟩) size size) size (wcells n size (fun j => j) k) ∧ Below w.heap.size w wr) (fun i _ => size - (intOf i).toNat)
  case atStart => exact ⟨0, by omega, rfl, by rw [← wcells_zero]; exact hown1, (Below.refl _ _).grown hg1 (Nat.le_refl _) (fun k hk => by cases hk)⟩
  case round =>
    obtain ⟨k, hk, rfl, hown, hb⟩ := hrel
    by_cases hlt : k < size
    · have e1 : IntKind.i64.wrap (8 * (k:Int)) = 8 * (k:Int) := IntWalk.i64_in _ (by omega)
      have e2 : (0:Int) ≤ 8 * (k:Int) := by omega
      have e3 : 8 * (k:Int) ≤ 64 := by omega
      obtain ⟨j, hj⟩ : ∃ j : Nat, j = k := ⟨_, rfl⟩
      have hjs : j < size := by omega
      have HJ := Lib.hid hj
      have e4 : (0:Int) ≤ (j:Int) := by omega
      have e5 : (j:Int) < (size:Int) := by omega
      have hcell := (hown.cellAt j (by omega)).trans (wcells_get n size (fun j => j) k j hjs)
      obtain ⟨x, hx⟩ : ∃ x, (if (fun j => j) j < k then byteV (bt n ((fun j => j) j)) else .int .u8 0) = x := ⟨_, rfl⟩
      rw [hx] at hcell
      have hfr := hown.frozenAt j
      have hj := hj.symm; subst hj
      clear hx
      go_wp2
      go_still_tail 10, (by kernel_rfl)
      still_call (up1 _ _)
      repeat still_step
      refine wpStill_nil ?_
      clear e1
      go_wp2
      go_roundw
      case rel =>
        have hst := hown.stored k (byteV (bt n k))
        rw [wcells_set n size _ k k (by have := HJ.out; omega) (by intro i hi hh; have := HJ.out; omega)] at hst
        refine ⟨k + 1, by omega, by go_num, ?_, ?_⟩
        · rw [bt_walk n k hn]
          exact hst.1
        · exact (hb.setCell (p := ⟨w.heap.size, _, none⟩) (Nat.le_refl _) _).drew
      case measure => simp [intOf]; omega
    · obtain rfl : k = size := by omega
      rw [wcells_all n k _ (by intro j hj; omega)] at hown
      have hcv := fun wx (hx : wx = wr) => hx ▸ own_string (P := Try.prog) wr 70 9 5 Try.underlying70 Try.underlying5 Try.underlying9 hown
      have hcv := hcv wr rfl
      go_wp2
      go_ret
      exact ⟨rfl, hb⟩

set_option maxRecDepth 100000 in
set_option maxHeartbeats 400000 in
theorem write_down (n : Int) (size : Nat) (w : World) (h1 : 1 ≤ size) (h2 : size ≤ 8) (hn : 0 ≤ n) (p : Addr) (hp : p.block < w.heap.size) (hc : w.cell? p = some (.int .i64 size)) :
    Calls Try.prog 71 #[.int .i64 n, .int .i64 size, .func (.func 79) #[] #[.pointer (some p)]] w fun e w' => e = .returned (.string ⟨(beB n size).toArray⟩) ∧ Below w.heap.size w w' := by
  obtain ⟨i0, hi, hz0, hz1, hz2⟩ := info_parts info_u8
  go_enter Try.func71, Try.ntmps71
  go_wp2_with (at_make; refine wpList_make_full _ rfl _ _ _ rfl w.heap.size 5 i0 _ 1 Try.underlying70 hi hz0 hz1 _ _ _ _ size rfl rfl rfl rfl (by rw [hz2]; omega) (by unfold maxLen; omega) (Nat.le_refl _) ?_; intro w1 hown1 hg1)
  go_loopw [12] (fun i wr => ∃ k : Nat, k ≤ size ∧ i = .int .i64 k ∧ wr.ownsRow w.heap.size 5 1 (.slice (some ⟨w.heap.size, 0, none⟩) size size) size (wcells n size (fun j => size - 1 - j) k) ∧ Below w.heap.size w wr) (fun i _ => size - (intOf i).toNat)
  case atStart => exact ⟨0, by omega, rfl, by rw [← wcells_zero]; exact hown1, (Below.refl _ _).grown hg1 (Nat.le_refl _) (fun k hk => by cases hk)⟩
  case round =>
    obtain ⟨k, hk, rfl, hown, hb⟩ := hrel
    by_cases hlt : k < size
    · have e1 : IntKind.i64.wrap (8 * (k:Int)) = 8 * (k:Int) := IntWalk.i64_in _ (by omega)
      have e2 : (0:Int) ≤ 8 * (k:Int) := by omega
      have e3 : 8 * (k:Int) ≤ 64 := by omega
      obtain ⟨j, hj⟩ : ∃ j : Nat, j = size - 1 - k := ⟨_, rfl⟩
      have hjs : j < size := by omega
      have HJ := Lib.hid hj
      have e4 : (0:Int) ≤ (j:Int) := by omega
      have e5 : (j:Int) < (size:Int) := by omega
      have hcell := (hown.cellAt j (by omega)).trans (wcells_get n size (fun j => size - 1 - j) k j hjs)
      obtain ⟨x, hx⟩ : ∃ x, (if (fun j => size - 1 - j) j < k then byteV (bt n ((fun j => size - 1 - j) j)) else .int .u8 0) = x := ⟨_, rfl⟩
      rw [hx] at hcell
      have hfr := hown.frozenAt j
      have hcr : wr.cell? p = some (.int .i64 size) := (hb.cell hp).trans hc
      clear hx hj
      go_wp2
      go_still_tail 10, (by kernel_rfl)
      still_call (down1 _ _ (j : Int) _ p hcr (by omega) (by omega) (by omega) (by have := HJ.out; omega))
      repeat still_step
      refine wpStill_nil ?_
      clear e1
      go_wp2
      go_roundw
      case rel =>
        have hst := hown.stored j (byteV (bt n k))
        rw [wcells_set n size _ k j (by have := HJ.out; omega) (by intro i hi hh; have := HJ.out; omega)] at hst
        refine ⟨k + 1, by omega, by go_num, ?_, ?_⟩
        · rw [bt_walk n k hn]
          exact hst.1
        · exact (hb.setCell (p := ⟨w.heap.size, _, none⟩) (Nat.le_refl _) _).drew
      case measure => simp [intOf]; omega
    · obtain rfl : k = size := by omega
      rw [wcells_all n k _ (by intro j hj; omega)] at hown
      have hcv := fun wx (hx : wx = wr) => hx ▸ own_string (P := Try.prog) wr 70 9 5 Try.underlying70 Try.underlying5 Try.underlying9 hown
      have hcv := hcv wr rfl
      go_wp2
      go_ret
      exact ⟨rfl, hb⟩
theorem fits_lemma (n : Int) (size : Nat) (h1 : 1 ≤ size) (h2 : size ≤ 8) (hn2 : n < 9223372036854775808) (h0 : 0 ≤ n) :
    ((size : Int) == 8 || decide (n < wrap64 (2 ^ (8 * size)))) = fitsB n size := by
  have : size = 1 ∨ size = 2 ∨ size = 3 ∨ size = 4 ∨ size = 5 ∨ size = 6 ∨ size = 7 ∨ size = 8 := by omega
  rcases this with rfl | rfl | rfl | rfl | rfl | rfl | rfl | rfl <;> simp [fitsB, wrap64, h0] <;> omega

set_option maxHeartbeats 400000 in
theorem fits_any (n : Int) (size : Nat) (w : World) (h1 : 1 ≤ size) (h2 : size ≤ 8) (hn2 : n < 9223372036854775808) :
    Calls Try.prog 70 #[.int .i64 n, .int .i64 size] w fun e w' => e = .returned (.bool (fitsB n size)) ∧ w = w' := by
  by_cases h0 : 0 ≤ n
  · have HF := Lib.hid (fits_lemma n size h1 h2 hn2 h0)
    by_cases h8 : (size : Int) = 8
    · have h8' : size = 8 := by omega
      subst h8'
      go_enter Try.func70, Try.ntmps70
      go_wp2
      go_ret
      exact ⟨ret_bool (by rw [← HF.out]; simp), rfl⟩
    · go_enter Try.func70, Try.ntmps70
      go_wp2
      go_ret
      exact ⟨ret_bool HF.out, rfl⟩
  · have HF := Lib.hid (show fitsB n size = false by simp [fitsB, h0])
    go_enter Try.func70, Try.ntmps70
    go_wp2
    go_ret
    exact ⟨ret_bool HF.out.symm, rfl⟩

/-- The error of a number and a size. -/
def errB (n size : Int) : Int := if size < 1 ∨ 8 < size then 1 else if fitsB n size.toNat then 0 else 2

theorem errB_ok (n size : Int) (h : errB n size = 0) : ∃ s : Nat, size = s ∧ 1 ≤ s ∧ s ≤ 8 ∧ fitsB n s = true ∧ 0 ≤ n := by
  unfold errB at h
  split at h
  · omega
  · rename_i h'
    split at h
    · rename_i hf
      refine ⟨size.toNat, by omega, by omega, by omega, hf, ?_⟩
      simp [fitsB] at hf
      exact hf.1
    · omega

/-- What Little and Big return. -/
def strLe (n size : Int) : ByteArray := if errB n size = 0 then ⟨(leB n size.toNat).toArray⟩ else ByteArray.empty
def strBe (n size : Int) : ByteArray := if errB n size = 0 then ⟨(beB n size.toNat).toArray⟩ else ByteArray.empty

theorem div_step (n : Int) (k : Nat) : n / 256 ^ k / 256 = n / 256 ^ (k + 1) := by
  rw [Int.pow_succ, Int.ediv_ediv_of_nonneg (Int.pow_nonneg (by omega))]
theorem div_nonneg (n : Int) (k : Nat) (h : 0 ≤ n) : 0 ≤ n / 256 ^ k := Int.ediv_nonneg h (Int.pow_nonneg (by omega))
theorem div_le (n : Int) (k : Nat) (h : 0 ≤ n) : n / 256 ^ k ≤ n := Int.ediv_le_self _ h
theorem div_zero_iff (n : Int) (k : Nat) (h : 0 ≤ n) : (n / 256 ^ k == 0) = fitsB n k := by
  have hp : (0 : Int) < 256 ^ k := Int.pow_pos (by omega)
  rw [Bool.eq_iff_iff]
  simp only [beq_iff_eq, fitsB, Bool.and_eq_true, decide_eq_true_eq]
  constructor
  · intro hq
    refine ⟨h, ?_⟩
    have := Int.lt_mul_ediv_self_add (x := n) (k := 256 ^ k) hp
    rw [hq] at this
    omega
  · rintro ⟨_, hlt⟩
    exact Int.ediv_eq_zero_of_lt h hlt

set_option maxHeartbeats 400000 in
theorem rfits_any (n : Int) (size : Nat) (w : World) (h2 : size ≤ 8) (hn2 : n < 9223372036854775808) :
    Calls Try.prog 83 #[.int .i64 n, .int .i64 size] w fun e w' => e = .returned (.bool (fitsB n size)) ∧ w = w' := by
  by_cases h0 : 0 ≤ n
  · have HF := Lib.hid (div_zero_iff n size h0)
    go_enter Try.func83, Try.ntmps83
    go_wp2
    go_loop [0, 5] (fun m i => ∃ k : Nat, k ≤ size ∧ i = .int .i64 k ∧ m = .int .i64 (n / 256 ^ k)) (fun _ i => size - (intOf i).toNat)
    case atStart => exact ⟨0, by omega, rfl, by simp⟩
    case round =>
      obtain ⟨k, hk, rfl, rfl⟩ := hrel
      have hq0 := div_nonneg n k h0
      have hq1 := div_le n k h0
      by_cases hlt : k < size
      · have HS := Lib.hid (div_step n k)
        generalize n / 256 ^ k = q at *
        go_wp2
        go_round
        case rel => exact ⟨k + 1, by omega, by go_num, by rw [← HS.out]⟩
        case measure => simp [intOf]; omega
      · obtain rfl : k = size := by omega
        generalize n / 256 ^ k = q at *
        go_wp2
        go_ret
        exact ⟨ret_bool HF.out, rfl⟩
  · have HF := Lib.hid (show fitsB n size = false by simp [fitsB, h0])
    go_enter Try.func83, Try.ntmps83
    go_wp2
    go_ret
    exact ⟨ret_bool HF.out.symm, rfl⟩

theorem leB_snoc (n : Int) (k : Nat) : leB n (k + 1) = leB n k ++ [bt n k] := by simp [leB, List.range_succ]
theorem bt_div (n : Int) (k : Nat) (h : 0 ≤ n) : Value.int .u8 (n / 256 ^ k % 256) = byteV (bt n k) := by
  obtain ⟨m, rfl⟩ := Int.eq_ofNat_of_zero_le h
  have e3 : ((256 : Int) ^ k) = ((256 ^ k : Nat) : Int) := by rw [Int.natCast_pow]; rfl
  rw [e3]
  unfold byteV bt
  congr 1

set_option maxHeartbeats 400000 in
theorem bytes_any (n : Int) (size : Nat) (w : World) (h2 : size ≤ 8) (h0 : 0 ≤ n) (hn2 : n < 9223372036854775808) :
    Calls Try.prog 84 #[.int .i64 n, .int .i64 size] w fun e w' => e = .returned (.string ⟨(leB n size).toArray⟩) ∧ Below w.heap.size w w' := by
  go_enter Try.func84, Try.ntmps84
  go_wp2
  go_loopw [0, 5, 6] (fun m v i wr => ∃ k : Nat, k ≤ size ∧ i = .int .i64 k ∧ m = .int .i64 (n / 256 ^ k) ∧ wr.ownsRow w.heap.size 5 1 v k ((leB n k).map byteV) ∧ Below w.heap.size w wr) (fun _ _ i _ => size - (intOf i).toNat)
  case atStart => exact ⟨0, by omega, rfl, by simp, World.ownsRow_made _ _ _ (Nat.le_refl _) (by decide) rfl, (Below.refl _ _).alloc (Nat.le_refl _) _⟩
  case round =>
    obtain ⟨k, hk, rfl, rfl, hown, hb⟩ := hrel
    have hq0 := div_nonneg n k h0
    have hq1 := div_le n k h0
    by_cases hlt : k < size
    · have HS := Lib.hid (div_step n k)
      have HB := Lib.hid (bt_div n k h0)
      generalize n / 256 ^ k = q at *
      go_wp2_with (at_builtin; refine wpList_app1 hown info_u8 Try.underlying70 rfl (by unfold maxLen; omega) (by omega) hb.size rfl rfl rfl (by rfl) (by rfl) ?_; intro v1 w1 hown1 hb1 _)
      go_roundw
      case rel => exact ⟨k + 1, by omega, by go_num, by rw [← HS.out], by rw [leB_snoc, List.map_append, List.map_singleton, ← HB.out]; exact hown1, hb.trans hb1⟩
      case measure => simp [intOf]; omega
    · obtain rfl : k = size := by omega
      have hcv := own_string (P := Try.prog) wr 70 9 5 Try.underlying70 Try.underlying5 Try.underlying9 hown
      go_wp2
      go_ret
      exact ⟨rfl, hb⟩

theorem take_rev (l : List UInt8) (k : Nat) (h : k < l.length) : (l.drop k).reverse = (l.drop (k + 1)).reverse ++ [l[k]] := by
  rw [List.drop_eq_getElem_cons h, List.reverse_cons]

set_option maxHeartbeats 400000 in
theorem reverse_any (s : ByteArray) (w : World) (hs : s.size ≤ 140737488351232) :
    Calls Try.prog 81 #[.string s] w fun e w' => e = .returned (.string ⟨s.data.toList.reverse.toArray⟩) ∧ Below w.heap.size w w' := by
  have hsz : s.data.toList.length = s.size := by simp
  have HZ := Lib.hid hsz
  clear hsz
  go_enter Try.func81, Try.ntmps81
  go_wp2
  go_loopw [3, 4] (fun v i wr => ∃ k : Nat, k ≤ s.size ∧ i = .int .i64 ((k : Int) - 1) ∧ wr.ownsRow w.heap.size 5 1 v (s.size - k) ((s.data.toList.drop k).reverse.map byteV) ∧ Below w.heap.size w wr) (fun _ i _ => (intOf i + 1).toNat)
  case atStart => exact ⟨s.size, by omega, rfl, by rw [List.drop_of_length_le (Nat.le_of_eq HZ.out), Nat.sub_self]; exact World.ownsRow_made _ _ _ (Nat.le_refl _) (by decide) rfl, (Below.refl _ _).alloc (Nat.le_refl _) _⟩
  case round =>
    obtain ⟨k, hk, rfl, hown, hb⟩ := hrel
    by_cases hlt : 0 < k
    · obtain ⟨j, rfl⟩ : ∃ j, k = j + 1 := ⟨k - 1, by omega⟩
      have hj : j < s.size := by omega
      have HS := Lib.hid (take_rev s.data.toList j (by rw [HZ.out]; exact hj))
      have ej : (((j + 1 : Nat) : Int) - 1) = (j : Int) := by omega
      rw [ej]
      clear ej
      go_wp2_with (at_builtin; refine wpList_app1 hown info_u8 Try.underlying70 rfl (by unfold maxLen; omega) (by omega) hb.size rfl rfl rfl (by rfl) (by rfl) ?_; intro v1 w1 hown1 hb1 _)
      go_roundw
      case rel => exact ⟨j, by omega, rfl, by rw [HS.out, List.map_append, List.map_singleton, show s.size - j = s.size - (j + 1) + 1 by omega]; exact hown1, hb.trans hb1⟩
      case measure => simp [intOf]
    · obtain rfl : k = 0 := by omega
      rw [List.drop_zero, Nat.sub_zero] at hown
      have hcv := own_string (P := Try.prog) wr 70 9 5 Try.underlying70 Try.underlying5 Try.underlying9 hown
      go_wp2
      go_ret
      exact ⟨rfl, hb⟩

theorem size_mk (l : List UInt8) : (⟨l.toArray⟩ : ByteArray).size = l.length := rfl
theorem strLe_ok {n : Int} {s : Nat} (h : errB n s = 0) : strLe n s = ⟨(leB n s).toArray⟩ := by simp [strLe, h]
theorem strBe_ok {n : Int} {s : Nat} (h : errB n s = 0) : strBe n s = ⟨(beB n s).toArray⟩ := by simp [strBe, h]
theorem strLe_bad {n s : Int} (h : errB n s ≠ 0) : strLe n s = ByteArray.empty := by simp [strLe, h]
theorem strBe_bad {n s : Int} (h : errB n s ≠ 0) : strBe n s = ByteArray.empty := by simp [strBe, h]
theorem strLe_size (n s : Int) : (strLe n s).size ≤ 8 := by
  by_cases h : errB n s = 0
  · obtain ⟨s, rfl, hs1, hs2, hf, hn⟩ := errB_ok n s h
    rw [strLe_ok h, size_mk, leB_length]
    omega
  · rw [strLe_bad h]; simp
theorem strBe_rev (n s : Int) : strBe n s = ⟨(strLe n s).data.toList.reverse.toArray⟩ := by
  by_cases h : errB n s = 0
  · obtain ⟨s, rfl, hs1, hs2, hf, hn⟩ := errB_ok n s h
    rw [strLe_ok h, strBe_ok h, beB_eq]
  · rw [strLe_bad h, strBe_bad h]
    rfl

set_option maxHeartbeats 400000 in
theorem rlittle_any (n size : Int) (w : World) (hn2 : n < 9223372036854775808) :
    Calls Try.prog 80 #[.int .i64 n, .int .i64 size] w fun e w' => e = .returned (.tuple #[.string (strLe n size), .int .i64 (errB n size)]) ∧ Below w.heap.size w w' := by
  by_cases h : size < 1 ∨ 8 < size
  · have HE := Lib.hid (show errB n size = 1 by simp [errB, h])
    have HF := Lib.hid (show strLe n size = ByteArray.empty from strLe_bad (by rw [HE.out]; decide))
    rcases h with h | h
    · go_enter Try.func80, Try.ntmps80
      go_wp2
      go_ret2
      exact ⟨by rw [HF.out, HE.out]; rfl, Below.refl _ _⟩
    · go_enter Try.func80, Try.ntmps80
      go_wp2
      go_ret2
      exact ⟨by rw [HF.out, HE.out]; rfl, Below.refl _ _⟩
  · obtain ⟨s, rfl⟩ : ∃ s : Nat, size = s := ⟨size.toNat, by omega⟩
    have hs1 : 1 ≤ s := by omega
    have hs2 : s ≤ 8 := by omega
    by_cases hf : fitsB n s = true
    · have h0 : 0 ≤ n := by simp [fitsB] at hf; exact hf.1
      have HE := Lib.hid (show errB n s = 0 by simp [errB, h, hf])
      have HF := Lib.hid (strLe_ok HE.out)
      clear h
      go_enter Try.func80, Try.ntmps80
      go_wp2_with (first
        | (go_at_call 83; refine (rfits_any _ _ _ hs2 hn2).mono ?_; rintro e w' ⟨rfl, rfl⟩)
        | (go_at_call 84; refine (bytes_any _ _ _ hs2 h0 hn2).mono ?_; rintro e w1 ⟨rfl, hb⟩))
      go_ret2
      exact ⟨by rw [HF.out, HE.out]; rfl, hb⟩
    · have hf : fitsB n s = false := by simpa using hf
      have HE := Lib.hid (show errB n s = 2 by simp [errB, h, hf])
      have HF := Lib.hid (show strLe n s = ByteArray.empty from strLe_bad (by rw [HE.out]; decide))
      clear h
      go_enter Try.func80, Try.ntmps80
      go_wp2_with (first
        | (go_at_call 83; refine (rfits_any _ _ _ hs2 hn2).mono ?_; rintro e w' ⟨rfl, rfl⟩))
      go_ret2
      exact ⟨by rw [HF.out, HE.out]; rfl, Below.refl _ _⟩

/-- The sizes that Both takes. -/
def doubleB (size : Int) : Bool := decide (size = 1 ∨ size = 2 ∨ size = 4)
def errBoth (n size : Int) : Int := if doubleB size then (if fitsB n size.toNat then 0 else 2) else 1
def strBoth (n size : Int) : ByteArray := if errBoth n size = 0 then strLe n size ++ strBe n size else ByteArray.empty
theorem errB_double {n size : Int} (h : doubleB size = true) : errB n size = errBoth n size := by
  have h' := of_decide_eq_true h
  rw [errB, if_neg (by omega), errBoth, if_pos h]
theorem double_any (size : Int) (w : World) :
    Calls Try.prog 69 #[.int .i64 size] w fun e w' => e = .returned (.bool (doubleB size)) ∧ w = w' := by
  by_cases h1 : size = 1
  · have HD := Lib.hid (show doubleB size = true by simp [doubleB, h1])
    go_enter Try.func69, Try.ntmps69
    go_wp2
    go_ret
    exact ⟨ret_bool HD.out.symm, rfl⟩
  · by_cases h2 : size = 2
    · have HD := Lib.hid (show doubleB size = true by simp [doubleB, h2])
      go_enter Try.func69, Try.ntmps69
      go_wp2
      go_ret
      exact ⟨ret_bool HD.out.symm, rfl⟩
    · have HD := Lib.hid (show doubleB size = (size == 4) by simp [doubleB, h1, h2]; rfl)
      have h1' : (size == 1) = false := by simpa using h1
      have h2' : (size == 2) = false := by simpa using h2
      go_enter Try.func69, Try.ntmps69
      go_wp2
      go_ret
      exact ⟨ret_bool HD.out.symm, rfl⟩

set_option maxHeartbeats 400000 in
theorem both_any (n size : Int) (w : World) (hn2 : n < 9223372036854775808) :
    Calls Try.prog 58 #[.int .i64 n, .int .i64 size] w fun e w' => e = .returned (.tuple #[.string (strBoth n size), .int .i64 (errBoth n size)]) ∧ Below w.heap.size w w' := by
  by_cases hd : doubleB size = true
  · have HB := Lib.hid (errB_double (n := n) hd)
    by_cases h : errBoth n size = 0
    · obtain ⟨s, rfl, hs1, hs2, hf, hn⟩ := errB_ok n size (HB.out.trans h)
      have HE := Lib.hid h
      have HF := Lib.hid (show strBoth n s = ⟨(leB n s).toArray⟩ ++ ⟨(beB n s).toArray⟩ by rw [strBoth, if_pos h, strLe_ok (HB.out.trans h), strBe_ok (HB.out.trans h)])
      have l1 : (⟨(leB n s).toArray⟩ : ByteArray).size ≤ 8 := by rw [size_mk, leB_length]; exact hs2
      have l2 : (⟨(beB n s).toArray⟩ : ByteArray).size ≤ 8 := by rw [size_mk, beB_length]; exact hs2
      clear h
      generalize hx : (⟨(leB n s).toArray⟩ : ByteArray) = X at *
      generalize hy : (⟨(beB n s).toArray⟩ : ByteArray) = Y at *
      have HX := Lib.hid hx
      have HY := Lib.hid hy
      clear hx hy
      go_enter Try.func58, Try.ntmps58
      go_wp2_with (first
        | (go_at_call 69; refine (double_any _ _).mono ?_; rintro e w' ⟨rfl, rfl⟩)
        | (go_at_call 70; refine (fits_any _ _ _ hs1 hs2 hn2).mono ?_; rintro e w' ⟨rfl, rfl⟩)
        | (go_at_call 72; refine (up_any _ _).mono ?_; rintro e w' ⟨rfl, rfl⟩)
        | (go_at_call 73; refine (down_any _ _).mono ?_; rintro e w' ⟨rfl, rfl⟩)
        | fail)
      have Hw1 := write_up n s w hs1 hs2 hn
      rw [HX.out] at Hw1
      refine Hw1.mono ?_
      rintro e w1 ⟨rfl, hb1⟩
      go_wp2_with (first
        | (go_at_call 73; refine (down_any _ _).mono ?_; rintro e w' ⟨rfl, rfl⟩)
        | fail)
      have Hw2 := write_down n s (w1.alloc (.cells #[.int .i64 s] 3)) hs1 hs2 hn ⟨w1.heap.size, 0, none⟩ (by simp) (by simp)
      rw [HY.out] at Hw2
      refine Hw2.mono ?_
      rintro e w2 ⟨rfl, hb2⟩
      go_wp2
      go_ret2
      exact ⟨by rw [HF.out, HE.out]; rfl, (hb1.alloc hb1.size _).trans (hb2.mono (by have := hb1.size; simp; omega))⟩
    · have hE := h
      have HF := Lib.hid (show strBoth n size = ByteArray.empty by simp [strBoth, h])
      have hsz : 1 ≤ size ∧ size ≤ 8 := by have := of_decide_eq_true hd; omega
      obtain ⟨s, rfl⟩ : ∃ s : Nat, size = s := ⟨size.toNat, by omega⟩
      have hf : fitsB n s = false := by
        rcases hfb : fitsB n s with _ | _
        · rfl
        · exact absurd (show errBoth n s = 0 by simp [errBoth, hd, hfb]) h
      have HE := Lib.hid (show errBoth n s = 2 by simp [errBoth, hd, hf])
      have hs1 : 1 ≤ s := by omega
      have hs2 : s ≤ 8 := by omega
      clear h hE hsz
      go_enter Try.func58, Try.ntmps58
      go_wp2_with (first
        | (go_at_call 69; refine (double_any _ _).mono ?_; rintro e w' ⟨rfl, rfl⟩)
        | (go_at_call 70; refine (fits_any _ _ _ hs1 hs2 hn2).mono ?_; rintro e w' ⟨rfl, rfl⟩)
        | fail)
      go_ret2
      exact ⟨by rw [HF.out, HE.out]; rfl, Below.refl _ _⟩
  · have hd : doubleB size = false := by simpa using hd
    have HE := Lib.hid (show errBoth n size = 1 by simp [errBoth, hd])
    have HF := Lib.hid (show strBoth n size = ByteArray.empty by rw [strBoth, HE.out]; rfl)
    go_enter Try.func58, Try.ntmps58
    go_wp2_with (first
      | (go_at_call 69; refine (double_any _ _).mono ?_; rintro e w' ⟨rfl, rfl⟩)
      | fail)
    go_ret2
    exact ⟨by rw [HF.out, HE.out]; rfl, Below.refl _ _⟩

set_option maxHeartbeats 400000 in
theorem rboth_any (n size : Int) (w : World) (hn2 : n < 9223372036854775808) :
    Calls Try.prog 74 #[.int .i64 n, .int .i64 size] w fun e w' => e = .returned (.tuple #[.string (strBoth n size), .int .i64 (errBoth n size)]) ∧ Below w.heap.size w w' := by
  have hz := strLe_size n size
  by_cases hd : doubleB size = true
  · have HB := Lib.hid (errB_double (n := n) hd)
    have HF := Lib.hid (show strBoth n size = strLe n size ++ ⟨(strLe n size).data.toList.reverse.toArray⟩ by
      by_cases h : errBoth n size = 0
      · rw [strBoth, if_pos h, strBe_rev]
      · rw [strBoth, if_neg h, strLe_bad (by rw [HB.out]; exact h)]; rfl)
    have hz2 : (⟨(strLe n size).data.toList.reverse.toArray⟩ : ByteArray).size ≤ 8 := by rw [size_mk]; simpa using hz
    have hdd := of_decide_eq_true hd
    rcases hdd with rfl | rfl | rfl
    all_goals
      go_enter Try.func74, Try.ntmps74
      go_wp2_with (first
        | (go_at_call 80; refine (rlittle_any _ _ _ hn2).mono ?_; rintro e w1 ⟨rfl, hb1⟩)
        | (go_at_call 81; refine (reverse_any _ _ (by omega)).mono ?_; rintro e w2 ⟨rfl, hb2⟩)
        | fail)
      go_ret2
      exact ⟨by rw [HF.out, ← HB.out]; rfl, hb1.trans (hb2.mono hb1.size)⟩
  · have hd : doubleB size = false := by simpa using hd
    have HE := Lib.hid (show errBoth n size = 1 by simp [errBoth, hd])
    have HF := Lib.hid (show strBoth n size = ByteArray.empty by rw [strBoth, HE.out]; rfl)
    have hdd : ¬ (size = 1 ∨ size = 2 ∨ size = 4) := of_decide_eq_false hd
    have h1' : (size == 1) = false := by simp; omega
    have h2' : (size == 2) = false := by simp; omega
    have h4' : (size == 4) = false := by simp; omega
    have h1 : (size != 1) = true := by simp; omega
    have h2 : (size != 2) = true := by simp; omega
    have h4 : (size != 4) = true := by simp; omega
    clear hdd
    go_enter Try.func74, Try.ntmps74
    go_wp2_with fail
    go_ret2
    exact ⟨by rw [HF.out, HE.out]; rfl, Below.refl _ _⟩
end Go.Proofs.Ytnomodbcpndocaa
