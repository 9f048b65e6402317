/-
  The walks of endian.up, endian.down and endian.write: the bytes that write returns for either order of places.
-/
import Derived.Test.YtlllcnbaebfbiaaKit
import Derived.Test.YtlllcnbaebfbiaaSpec
namespace Go.Proofs.Ytlllcnbaebfbiaa
open Go.RowKit
theorem info_u8 : (Try.prog.info? 5).map (fun i => (i.zero, i.size, i.bytes)) = some (some (.int .u8 0), 1, 1) := by kernel_rfl

theorem bt_walk (n : Int) (k : Nat) (h : 0 ≤ n) : Value.int .u8 (n / 2 ^ (8 * k) % 256) = byteV (bt n k) := by
  obtain ⟨m, rfl⟩ := Int.eq_ofNat_of_zero_le h
  have e3 : ((2 : Int) ^ (8 * k)) = ((256 ^ k : Nat) : Int) := by rw [Int.pow_mul, Int.natCast_pow]; first | done | rfl
  rw [e3]
  unfold byteV bt
  congr 1

/-- The cells of the slice behind k rounds: the place of byte i has it if i is below k. -/
def wcells (n : Int) (size : Nat) (inv : Nat → Nat) (k : Nat) : List Value := (List.range size).map fun j => if inv j < k then byteV (bt n (inv j)) else .int .u8 0
theorem wcells_get (n : Int) (size : Nat) (inv : Nat → Nat) (k j : Nat) (h : j < size) : (wcells n size inv k)[j]? = some (if inv j < k then byteV (bt n (inv j)) else .int .u8 0) := by
  simp [wcells, h]
theorem wcells_set (n : Int) (size : Nat) (inv : Nat → Nat) (k j : Nat) (hj : inv j = k) (hinj : ∀ i, i < size → inv i = k → i = j) : (wcells n size inv k).set j (byteV (bt n k)) = wcells n size inv (k + 1) := by
  apply List.ext_getElem
  · simp [wcells]
  · intro i h1 h2
    have hi : i < size := by simpa [wcells] using h2
    rw [List.getElem_set]
    simp only [wcells, List.getElem_map, List.getElem_range]
    by_cases e : j = i
    · subst e
      simp [hj]
    · rw [if_neg e]
      have hne : inv i ≠ k := fun h => e (hinj i hi h).symm
      by_cases hlt : inv i < k
      · rw [if_pos hlt, if_pos (by omega)]
      · rw [if_neg hlt, if_neg (by omega)]
theorem wcells_zero (n : Int) (size : Nat) (inv : Nat → Nat) : (madeCells (Value.int .u8 0).cells (size * 1)).toList = wcells n size inv 0 := by
  apply List.ext_getElem
  · simp [wcells, size_madeCells]
  · intro i h1 h2
    simp [madeCells, wcells, Value.cells, Nat.mod_one]
theorem wcells_all (n : Int) (size : Nat) (inv : Nat → Nat) (h : ∀ j, j < size → inv j < size) : wcells n size inv size = ((List.range size).map fun j => bt n (inv j)).map byteV := by
  apply List.ext_getElem
  · simp [wcells]
  · intro i h1 h2
    have hi : i < size := by simpa [wcells] using h1
    simp [wcells, h i hi]

theorem up_any (size : Int) (w : World) : Calls Try.prog 30 #[.int .i64 size] w fun e w' => e = .returned (.func (.func 41) #[] #[]) ∧ w = w' := by
  go_enter Try.func30, Try.ntmps30
  go_wp2
  go_ret
  exact ⟨rfl, rfl⟩
theorem down_any (size : Int) (w : World) : Calls Try.prog 33 #[.int .i64 size] w fun e w' => e = .returned (.func (.func 42) #[] #[.pointer (some ⟨w.heap.size, 0, none⟩)]) ∧ w.alloc (.cells #[.int .i64 size] 3) = w' := by
  go_enter Try.func33, Try.ntmps33
  go_wp2
  go_ret
  exact ⟨rfl, rfl⟩
theorem up1 (i : Int) (w : World) : Calls Try.prog 41 #[.int .i64 i] w fun e w' => e = .returned (.int .i64 i) ∧ w' = w := by
  go_enter Try.func41, Try.ntmps41
  go_wp2
  go_ret
  exact ⟨rfl, rfl⟩
theorem down1 (i size j : Int) (w : World) (p : Addr) (hc : w.cell? p = some (.int .i64 size)) (h0 : 0 ≤ i) (h1 : i < size) (h2 : size ≤ 8) (hj : size - 1 - i = j) : Calls Try.prog 42 #[.int .i64 i, .pointer (some p)] w fun e w' => e = .returned (.int .i64 j) ∧ w' = w := by
  have HJ := Lib.hid hj
  clear hj
  go_enter Try.func42, Try.ntmps42
  go_wp2
  go_ret
  exact ⟨ret_int HJ.out, rfl⟩

set_option maxHeartbeats 400000 in
theorem write_up (n : Int) (size : Nat) (w : World) (h1 : 1 ≤ size) (h2 : size ≤ 8) (hn : 0 ≤ n) :
    Calls Try.prog 29 #[.int .i64 n, .int .i64 size, .func (.func 41) #[] #[]] w fun e w' => e = .returned (.string ⟨(leB n size).toArray⟩) ∧ Below w.heap.size w w' := by
  obtain ⟨i0, hi, hz0, hz1, hz2⟩ := info_parts info_u8
  go_enter Try.func29, Try.ntmps29
  go_wp2_with (at_make; refine wpList_make_full _ rfl _ _ _ rfl w.heap.size 5 i0 _ 1 Try.underlying52 hi hz0 hz1 _ _ _ _ size rfl rfl rfl rfl (by rw [hz2]; omega) (by unfold maxLen; omega) (Nat.le_refl _) ?_; intro w1 hown1 hg1)
  go_loopw [12] (fun i wr => ∃ k : Nat, k ≤ size ∧ i = .int .i64 k ∧ wr.ownsRow w.heap.size 5 1 (.slice (some ⟨w.heap.size, 0, none⟩) size size) size (wcells n size (fun j => j) k) ∧ Below w.heap.size w wr) (fun i _ => size - (intOf i).toNat)
  case atStart => exact ⟨0, by omega, rfl, by rw [← wcells_zero]; exact hown1, (Below.refl _ _).grown hg1 (Nat.le_refl _) (fun k hk => by cases hk)⟩
  case round =>
    obtain ⟨k, hk, rfl, hown, hb⟩ := hrel
    by_cases hlt : k < size
    · have e1 : IntKind.i64.wrap (8 * (k:Int)) = 8 * (k:Int) := IntWalk.i64_in _ (by omega)
      have e2 : (0:Int) ≤ 8 * (k:Int) := by omega
      have e3 : 8 * (k:Int) ≤ 64 := by omega
      obtain ⟨j, hj⟩ : ∃ j : Nat, j = k := ⟨_, rfl⟩
      have hjs : j < size := by omega
      have HJ := Lib.hid hj
      have e4 : (0:Int) ≤ (j:Int) := by omega
      have e5 : (j:Int) < (size:Int) := by omega
      have hcell := (hown.cellAt j (by omega)).trans (wcells_get n size (fun j => j) k j hjs)
      obtain ⟨x, hx⟩ : ∃ x, (if (fun j => j) j < k then byteV (bt n ((fun j => j) j)) else .int .u8 0) = x := ⟨_, rfl⟩
      rw [hx] at hcell
      have hfr := hown.frozenAt j
      have hj := hj.symm; subst hj
      clear hx
      go_wp2
      go_still_tail 10, (by kernel_rfl)
      still_call (up1 _ _)
      repeat still_step
      refine wpStill_nil ?_
      clear e1
      go_wp2
      go_roundw
      case rel =>
        have hst := hown.stored k (byteV (bt n k))
        rw [wcells_set n size _ k k (by have := HJ.out; omega) (by intro i hi hh; have := HJ.out; omega)] at hst
        refine ⟨k + 1, by omega, by go_num, ?_, ?_⟩
        · rw [bt_walk n k hn]
          exact hst.1
        · exact (hb.setCell (p := ⟨w.heap.size, _, none⟩) (Nat.le_refl _) _).drew
      case measure => simp [intOf]; omega
    · obtain rfl : k = size := by omega
      rw [wcells_all n k _ (by intro j hj; omega)] at hown
      have hcv := fun wx (hx : wx = wr) => hx ▸ own_string (P := Try.prog) wr 52 9 5 Try.underlying52 Try.underlying5 Try.underlying9 hown
      have hcv := hcv wr rfl
      go_wp2
      go_ret
      exact ⟨rfl, hb⟩

set_option maxHeartbeats 400000 in
theorem write_down (n : Int) (size : Nat) (w : World) (h1 : 1 ≤ size) (h2 : size ≤ 8) (hn : 0 ≤ n) (p : Addr) (hp : p.block < w.heap.size) (hc : w.cell? p = some (.int .i64 size)) :
    Calls Try.prog 29 #[.int .i64 n, .int .i64 size, .func (.func 42) #[] #[.pointer (some p)]] w fun e w' => e = .returned (.string ⟨(beB n size).toArray⟩) ∧ Below w.heap.size w w' := by
  obtain ⟨i0, hi, hz0, hz1, hz2⟩ := info_parts info_u8
  go_enter Try.func29, Try.ntmps29
  go_wp2_with (at_make; refine wpList_make_full _ rfl _ _ _ rfl w.heap.size 5 i0 _ 1 Try.underlying52 hi hz0 hz1 _ _ _ _ size rfl rfl rfl rfl (by rw [hz2]; omega) (by unfold maxLen; omega) (Nat.le_refl _) ?_; intro w1 hown1 hg1)
  go_loopw [12] (fun i wr => ∃ k : Nat, k ≤ size ∧ i = .int .i64 k ∧ wr.ownsRow w.heap.size 5 1 (.slice (some ⟨w.heap.size, 0, none⟩) size size) size (wcells n size (fun j => size - 1 - j) k) ∧ Below w.heap.size w wr) (fun i _ => size - (intOf i).toNat)
  case atStart => exact ⟨0, by omega, rfl, by rw [← wcells_zero]; exact hown1, (Below.refl _ _).grown hg1 (Nat.le_refl _) (fun k hk => by cases hk)⟩
  case round =>
    obtain ⟨k, hk, rfl, hown, hb⟩ := hrel
    by_cases hlt : k < size
    · have e1 : IntKind.i64.wrap (8 * (k:Int)) = 8 * (k:Int) := IntWalk.i64_in _ (by omega)
      have e2 : (0:Int) ≤ 8 * (k:Int) := by omega
      have e3 : 8 * (k:Int) ≤ 64 := by omega
      obtain ⟨j, hj⟩ : ∃ j : Nat, j = size - 1 - k := ⟨_, rfl⟩
      have hjs : j < size := by omega
      have HJ := Lib.hid hj
      have e4 : (0:Int) ≤ (j:Int) := by omega
      have e5 : (j:Int) < (size:Int) := by omega
      have hcell := (hown.cellAt j (by omega)).trans (wcells_get n size (fun j => size - 1 - j) k j hjs)
      obtain ⟨x, hx⟩ : ∃ x, (if (fun j => size - 1 - j) j < k then byteV (bt n ((fun j => size - 1 - j) j)) else .int .u8 0) = x := ⟨_, rfl⟩
      rw [hx] at hcell
      have hfr := hown.frozenAt j
      have hcr : wr.cell? p = some (.int .i64 size) := (hb.cell hp).trans hc
      clear hx hj
      go_wp2
      go_still_tail 10, (by kernel_rfl)
      still_call (down1 _ _ (j : Int) _ p hcr (by omega) (by omega) (by omega) (by have := HJ.out; omega))
      repeat still_step
      refine wpStill_nil ?_
      clear e1
      go_wp2
      go_roundw
      case rel =>
        have hst := hown.stored j (byteV (bt n k))
        rw [wcells_set n size _ k j (by have := HJ.out; omega) (by intro i hi hh; have := HJ.out; omega)] at hst
        refine ⟨k + 1, by omega, by go_num, ?_, ?_⟩
        · rw [bt_walk n k hn]
          exact hst.1
        · exact (hb.setCell (p := ⟨w.heap.size, _, none⟩) (Nat.le_refl _) _).drew
      case measure => simp [intOf]; omega
    · obtain rfl : k = size := by omega
      rw [wcells_all n k _ (by intro j hj; omega)] at hown
      have hcv := fun wx (hx : wx = wr) => hx ▸ own_string (P := Try.prog) wr 52 9 5 Try.underlying52 Try.underlying5 Try.underlying9 hown
      have hcv := hcv wr rfl
      go_wp2
      go_ret
      exact ⟨rfl, hb⟩
end Go.Proofs.Ytlllcnbaebfbiaa
