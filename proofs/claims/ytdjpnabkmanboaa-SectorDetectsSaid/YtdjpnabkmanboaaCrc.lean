/-
  The walks of the checksums' tables: reflected, direct.
-/
import Derived.Test.YtdjpnabkmanboaaArr
import Derived.Test.YtdjpnabkmanboaaCrcSpec
namespace Go.Proofs.Ytdjpnabkmanboaa
open Go.RowKit
set_option linter.unusedVariables false

theorem and1_u32 {N : Nat} (h : N < 4294967296) : bits .and .u32 (N : Int) 1 = ((N % 2 : Nat) : Int) := by
  have := u32_and_nat N 1 h (by omega)
  rw [Nat.and_one_is_mod] at this
  exact this
theorem and1_yes {N : Nat} (h : N < 4294967296) (h1 : N % 2 = 1) : (bits .and .u32 (N : Int) 1 == 1) = true := by rw [and1_u32 h, h1]; rfl
theorem and1_no {N : Nat} (h : N < 4294967296) (h1 : ¬ N % 2 = 1) : (bits .and .u32 (N : Int) 1 == 1) = false := by rw [and1_u32 h, show N % 2 = 0 by omega]; rfl
theorem xorE {N : Nat} (h : N < 4294967296) : bits .xor .u32 ((N : Int) / 2) 3623976961 = ((N / 2 ^^^ edcP : Nat) : Int) := by
  have := u32_xor_nat (N / 2) 3623976961 (by omega) (by omega)
  rw [Int.natCast_ediv] at this
  exact this

set_option maxHeartbeats 400000 in
theorem refl1 (b : Nat) (w : World) (hb : b < 256) : Calls Try.prog 79 #[.int .u8 b] w fun e w' => e = .returned (.int .u32 (eN 8 b : Nat)) ∧ w = w' := by
  go_enter Try.func79, Try.ntmps79
  go_wp2
  go_loop [3, 6] (fun n i => ∃ k : Nat, k ≤ 8 ∧ i = .int .i64 k ∧ n = .int .u32 (eN k b : Nat)) (fun _ i => 8 - (intOf i).toNat)
  case atStart => exact ⟨0, by omega, rfl, rfl⟩
  case round =>
    obtain ⟨k, hk, rfl, rfl⟩ := hrel
    have hlt := eN_lt (n := b) (by omega) k
    have HS := Lib.hid (show eN (k + 1) b = e1 (eN k b) from rfl)
    by_cases hlt2 : k < 8
    · generalize eN k b = N at *
      have HX := Lib.hid (xorE hlt)
      by_cases h1 : N % 2 = 1
      · have ha := and1_yes hlt h1
        have HE := Lib.hid (show e1 N = N / 2 ^^^ edcP from if_pos h1)
        clear h1
        go_wp2
        go_round
        case rel => exact ⟨k + 1, by omega, by go_num, by rw [HS.out, HE.out, HX.out]⟩
        case measure => simp [intOf]; omega
      · have ha := and1_no hlt h1
        have HE := Lib.hid (show e1 N = N / 2 from if_neg h1)
        clear h1
        go_wp2
        go_round
        case rel => exact ⟨k + 1, by omega, by go_num, by rw [HS.out, HE.out]; rfl⟩
        case measure => simp [intOf]; omega
    · obtain rfl : k = 8 := by omega
      go_wp2
      go_ret
      exact ⟨rfl, rfl⟩

/-- The table after k entries. -/
def tab32 (k : Nat) : Array Value := ((List.range 256).map fun j => if j < k then Value.int .u32 (eN 8 j : Nat) else .int .u32 0).toArray
theorem tab32_size (k : Nat) : (tab32 k).size = 256 := by simp [tab32]
theorem tab32_get (k j : Nat) (h : j < 256) : (tab32 k)[j]? = some (if j < k then Value.int .u32 (eN 8 j : Nat) else .int .u32 0) := by simp [tab32, h]
theorem tab32_set (k : Nat) : (tab32 k).setIfInBounds k (.int .u32 (eN 8 k : Nat)) = tab32 (k + 1) := by
  apply Array.ext_getElem?
  intro i
  rw [Array.getElem?_setIfInBounds]
  by_cases hi : i < 256
  · rw [tab32_get (k + 1) i hi, tab32_get k i hi, tab32_size]
    by_cases e : k = i
    · subst e
      rw [if_pos rfl, if_pos hi, if_pos (by omega)]
    · rw [if_neg e]
      by_cases h2 : i < k
      · rw [if_pos h2, if_pos (by omega)]
      · rw [if_neg h2, if_neg (by omega)]
  · rw [Array.getElem?_eq_none (by rw [tab32_size]; omega), Array.getElem?_eq_none (by rw [tab32_size]; omega)]
    rw [tab32_size]
    split
    · split
      · omega
      · rfl
    · rfl
theorem tab32_one (k : Nat) : (tab32 k).all (·.oneCell') = true := by
  simp only [tab32, List.all_toArray, List.all_map, List.all_eq_true]
  intro j _
  show Value.oneCell' (if j < k then _ else _) = true
  split <;> rfl
theorem info_t32 : (Try.prog.info? 104).map (fun i => (i.zero, i.size)) = some (some (.agg (tab32 0)), 256) := by kernel_rfl
theorem size_t32 (k : Nat) : (Try.prog.info? 104).map (·.size) = some (tab32 k).size := by
  rw [tab32_size]
  kernel_rfl

set_option maxHeartbeats 400000 in
theorem table32 (w : World) : Calls Try.prog 78 #[.func (.func 79) #[] #[]] w fun e w' => e = .returned (.agg (tab32 256)) ∧ Below w.heap.size w w' := by
  go_enter Try.func78, Try.ntmps78
  go_wp2_with (first
    | (refine wpList_alloc_abs (t := 104) info_t32 rfl rfl ?_)
    | fail)
  have hr1 : RowAt ((w.alloc (.cells (tab32 0) 104)).alloc (.cells (tab32 0) 104)) w.heap.size 104 (tab32 0) := (RowAt.new _ _ _).alloc _
  have hr2 : RowAt ((w.alloc (.cells (tab32 0) 104)).alloc (.cells (tab32 0) 104)) (w.heap.size + 1) 104 (tab32 0) := by simpa using RowAt.new (w.alloc (.cells (tab32 0) 104)) 104 (tab32 0)
  have hb : Below w.heap.size w ((w.alloc (.cells (tab32 0) 104)).alloc (.cells (tab32 0) 104)) := ((Below.refl _ _).alloc (Nat.le_refl _) _).alloc (by simp) _
  go_loopw [5] (fun i wr => ∃ k : Nat, k ≤ 256 ∧ i = .int .i64 k ∧ RowAt wr w.heap.size 104 (tab32 0) ∧ RowAt wr (w.heap.size + 1) 104 (tab32 k) ∧ Below w.heap.size w wr) (fun i _ => 256 - (intOf i).toNat)
  case atStart => exact ⟨0, by omega, rfl, hr1, hr2, hb⟩
  case round =>
    clear hr1 hr2 hb
    obtain ⟨k, hk, rfl, hr1, hr2, hb⟩ := hrel
    by_cases hlt : k < 256
    · have hc := (hr2.cell k).trans (tab32_get k k hlt)
      rw [if_neg (by omega)] at hc
      have hf := hr2.frozen k
      have hlt' : (k : Int) < 256 := by omega
      go_wp2_with (first
        | (go_at_call 79; refine (refl1 k _ hlt).mono ?_; rintro e w' ⟨rfl, rfl⟩)
        | fail)
      go_roundw
      case rel => exact ⟨k + 1, by omega, by go_num, hr1.far (by show w.heap.size ≠ w.heap.size + 1; omega) _, by rw [← tab32_set]; exact hr2.set_ _ _, hb.setCell (p := ⟨w.heap.size + 1, k, none⟩) (by simp) _⟩
      case measure => simp [intOf]; omega
    · obtain rfl : k = 256 := by omega
      go_wp2_with (first
        | (refine wpList_load_abs hr2 Try.underlying104 rfl (size_t32 256) rfl rfl (by rfl) ?_)
        | (refine wpList_store_abs hr1 (size_t32 256) (by rw [tab32_size, tab32_size]) (tab32_one 256) rfl rfl (by rfl) (by rfl) ?_; intro w2 hw2)
        | fail)
      have hr3 : RowAt w2 w.heap.size 104 (tab32 256) := by rw [hw2.out]; exact hr1.setRow _
      refine bodyPost_ret (results_cell_row rfl _ _ w.heap.size 104 (tab32 256) (0, 0) _ rfl hr3 Try.underlying104 rfl (size_t32 256)) rfl ⟨rfl, ?_⟩
      rw [hw2.out]
      exact Below.setRow hb (Nat.le_refl _) _

set_option maxHeartbeats 400000 in
theorem reflected_any (w : World) : Calls Try.prog 77 #[] w fun e w' => e = .returned (.agg (tab32 256)) ∧ Below w.heap.size w w' := by
  go_enter Try.func77, Try.ntmps77
  go_wp2_with (first
    | (refine wpList_alloc_abs (t := 104) info_t32 rfl rfl ?_)
    | fail)
  refine (table32 _).mono ?_
  rintro e w1 ⟨rfl, hb1⟩
  have hr1 : RowAt w1 w.heap.size 104 (tab32 0) := (RowAt.new _ _ _).below hb1 (by simp)
  go_wp2_with (first
    | (refine wpList_store_abs hr1 (size_t32 256) (by rw [tab32_size, tab32_size]) (tab32_one 256) rfl rfl (by rfl) (by rfl) ?_; intro w2 hw2)
    | fail)
  have hr3 : RowAt w2 w.heap.size 104 (tab32 256) := by rw [hw2.out]; exact hr1.setRow _
  refine bodyPost_ret (results_cell_row rfl _ _ w.heap.size 104 (tab32 256) (0, 0) _ rfl hr3 Try.underlying104 rfl (size_t32 256)) rfl ⟨rfl, ?_⟩
  rw [hw2.out]
  exact Below.setRow (((Below.refl _ _).alloc (Nat.le_refl _) _).trans (hb1.mono (by simp))) (Nat.le_refl _) _

theorem ext_step (c : Nat) (b : UInt8) (hc : c < 4294967296) : bits .xor .u32 ((c : Int) / 256) ((eN 8 (c % 256 ^^^ b.toNat) : Nat) : Int) = ((eB c b.toNat : Nat) : Int) := by
  have h1 : c % 256 ^^^ b.toNat < 256 := xor_lt (k := 8) (by omega) b.toNat_lt
  have := u32_xor_nat (c / 256) (eN 8 (c % 256 ^^^ b.toNat)) (by omega) (eN_lt (by omega) 8)
  rw [Int.natCast_ediv] at this
  rw [eB_table]
  exact this
theorem idx_step (c : Nat) (b : UInt8) : bits .xor .u8 ((c : Int) % 256) (b.toNat : Int) = ((c % 256 ^^^ b.toNat : Nat) : Int) := by
  have := u8_xor_nat (c % 256) b.toNat (by omega) b.toNat_lt
  rw [Int.natCast_emod] at this
  exact this

set_option maxHeartbeats 400000 in
theorem extendedc_any (c : Nat) (s : ByteArray) (w : World) (hc : c < 4294967296) (hs : s.size ≤ 140737488351232) :
    Calls Try.prog 73 #[.int .u32 c, .string s] w fun e w' => e = .returned (.int .u32 (edcL c s.data.toList : Nat)) ∧ Below w.heap.size w w' := by
  have hsz : s.data.toList.length = s.size := by simp
  have HZ := Lib.hid hsz
  clear hsz
  go_enter Try.func73, Try.ntmps73
  go_wp2_with (first
    | (refine wpList_alloc_abs (t := 104) info_t32 rfl rfl ?_)
    | fail)
  refine (reflected_any _).mono ?_
  rintro e w1 ⟨rfl, hb1⟩
  go_wp2_with (first
    | (refine wpList_alloc_abs (t := 104) info_t32 rfl rfl ?_)
    | (refine wpList_store_abs (RowAt.new _ _ _) (size_t32 256) (by rw [tab32_size, tab32_size]) (tab32_one 256) rfl rfl (by rfl) (by rfl) ?_; intro w2 hw2)
    | fail)
  have hr : RowAt w2 w1.heap.size 104 (tab32 256) := by rw [hw2.out]; exact (RowAt.new _ _ _).setRow _
  have hb : Below w.heap.size w w2 := by rw [hw2.out]; exact Below.setRow (hb1.alloc hb1.size _) hb1.size _
  clear hw2
  go_loop [0, 10] (fun n i => ∃ k : Nat, k ≤ s.size ∧ i = .int .i64 k ∧ n = .int .u32 (edcL c (s.data.toList.take k) : Nat)) (fun _ i => s.size - (intOf i).toNat)
  case atStart => exact ⟨0, by omega, rfl, rfl⟩
  case round =>
    obtain ⟨k, hk, rfl, rfl⟩ := hrel
    by_cases hlt : k < s.size
    · have hN := edcL_lt (c := c) (s.data.toList.take k) hc
      have HS := Lib.hid (show edcL c (s.data.toList.take (k + 1)) = eB (edcL c (s.data.toList.take k)) s[k].toNat by
        rw [List.take_add_one, bytes_get s k hlt, Option.toList_some, edcL_snoc])
      generalize edcL c (s.data.toList.take k) = N at *
      have HX := Lib.hid (ext_step N s[k] hN)
      have hi := idx_step N s[k]
      have h8 : N % 256 ^^^ s[k].toNat < 256 := xor_lt (k := 8) (by omega) s[k].toNat_lt
      have hcell := (hr.cell (N % 256 ^^^ s[k].toNat)).trans (tab32_get 256 _ h8)
      rw [if_pos h8] at hcell
      generalize N % 256 ^^^ s[k].toNat = J at *
      go_wp2_with fail
      go_round
      case rel => exact ⟨k + 1, by omega, by go_num, by rw [HS.out, ← HX.out]⟩
      case measure => simp [intOf]; omega
    · obtain rfl : k = s.size := by omega
      rw [List.take_of_length_le (Nat.le_of_eq HZ.out)]
      go_wp2
      go_ret
      exact ⟨rfl, hb⟩
end Go.Proofs.Ytdjpnabkmanboaa
