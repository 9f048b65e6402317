/-
  The walks of the CRC's table and of ExtendCRC16.
-/
import Derived.Test.YtcbkcdhhigobpaaCrc
namespace Go.Proofs.Ytcbkcdhhigobpaa
open Go.RowKit
set_option linter.unusedVariables false

theorem top_yes {N : Nat} (h1 : N / 32768 = 1) : ((N : Int) / 32768 == 1) = true := by simp; omega
theorem top_no {N : Nat} (h : N < 65536) (h1 : ¬ N / 32768 = 1) : ((N : Int) / 32768 == 1) = false := by simp; omega
theorem xorC {N : Nat} (h : N < 65536) : bits .xor .u16 (IntKind.u16.wrap ((N : Int) * 2)) 4129 = ((N % 32768 * 2 ^^^ crcP : Nat) : Int) := by
  rw [IntKind.wrap_u16]
  have := u16_xor_nat (N % 32768 * 2) 4129 (by omega) (by omega)
  have e : ((N : Int) * 2 % 65536) = ((N % 32768 * 2 : Nat) : Int) := by omega
  rw [e]
  exact this
theorem shlC {N : Nat} (h : N < 65536) : IntKind.u16.wrap ((N : Int) * 2) = ((N % 32768 * 2 : Nat) : Int) := by rw [IntKind.wrap_u16]; omega

set_option maxHeartbeats 400000 in
theorem dir1 (b : Nat) (w : World) (hb : b < 256) : Calls Try.prog 41 #[.int .u8 b] w fun e w' => e = .returned (.int .u16 (cN 8 (b * 256) : Nat)) ∧ w = w' := by
  go_enter Try.func41, Try.ntmps41
  go_wp2
  go_loop [3, 7] (fun n i => ∃ k : Nat, k ≤ 8 ∧ i = .int .i64 k ∧ n = .int .u16 (cN k (b * 256) : Nat)) (fun _ i => 8 - (intOf i).toNat)
  case atStart => exact ⟨0, by omega, rfl, by show _ = Value.int .u16 ((b * 256 : Nat) : Int); congr 1⟩
  case round =>
    obtain ⟨k, hk, rfl, rfl⟩ := hrel
    have hlt := cN_lt (n := b * 256) (by omega) k
    have HS := Lib.hid (show cN (k + 1) (b * 256) = c1 (cN k (b * 256)) from rfl)
    by_cases hlt2 : k < 8
    · generalize cN k (b * 256) = N at *
      have HX := Lib.hid (xorC hlt)
      have HY := Lib.hid (shlC hlt)
      by_cases h1 : N / 32768 = 1
      · have ha := top_yes h1
        have HE := Lib.hid (show c1 N = N % 32768 * 2 ^^^ crcP from if_pos h1)
        clear h1
        go_wp2
        go_round
        case rel => exact ⟨k + 1, by omega, by go_num, by rw [HS.out, HE.out, ← HX.out]⟩
        case measure => simp [intOf]; omega
      · have ha := top_no hlt h1
        have HE := Lib.hid (show c1 N = N % 32768 * 2 from if_neg h1)
        clear h1
        go_wp2
        go_round
        case rel => exact ⟨k + 1, by omega, by go_num, by rw [HS.out, HE.out, ← HY.out]⟩
        case measure => simp [intOf]; omega
    · obtain rfl : k = 8 := by omega
      go_wp2
      go_ret
      exact ⟨rfl, rfl⟩

/-- The table after k entries. -/
def tab16 (k : Nat) : Array Value := ((List.range 256).map fun j => if j < k then Value.int .u16 (cN 8 (j * 256) : Nat) else .int .u16 0).toArray
theorem tab16_size (k : Nat) : (tab16 k).size = 256 := by simp [tab16]
theorem tab16_get (k j : Nat) (h : j < 256) : (tab16 k)[j]? = some (if j < k then Value.int .u16 (cN 8 (j * 256) : Nat) else .int .u16 0) := by simp [tab16, h]
theorem tab16_set (k : Nat) : (tab16 k).setIfInBounds k (.int .u16 (cN 8 (k * 256) : Nat)) = tab16 (k + 1) := by
  apply Array.ext_getElem?
  intro i
  rw [Array.getElem?_setIfInBounds]
  by_cases hi : i < 256
  · rw [tab16_get (k + 1) i hi, tab16_get k i hi, tab16_size]
    by_cases e : k = i
    · subst e
      rw [if_pos rfl, if_pos hi, if_pos (by omega)]
    · rw [if_neg e]
      by_cases h2 : i < k
      · rw [if_pos h2, if_pos (by omega)]
      · rw [if_neg h2, if_neg (by omega)]
  · rw [Array.getElem?_eq_none (by rw [tab16_size]; omega), Array.getElem?_eq_none (by rw [tab16_size]; omega)]
    rw [tab16_size]
    split
    · split
      · omega
      · rfl
    · rfl
theorem tab16_one (k : Nat) : (tab16 k).all (·.oneCell') = true := by
  simp only [tab16, List.all_toArray, List.all_map, List.all_eq_true]
  intro j _
  show Value.oneCell' (if j < k then _ else _) = true
  split <;> rfl
theorem info_t16 : (Try.prog.info? 47).map (fun i => (i.zero, i.size)) = some (some (.agg (tab16 0)), 256) := by kernel_rfl
theorem size_t16 (k : Nat) : (Try.prog.info? 47).map (·.size) = some (tab16 k).size := by
  rw [tab16_size]
  kernel_rfl

set_option maxHeartbeats 400000 in
theorem table16 (w : World) : Calls Try.prog 40 #[.func (.func 41) #[] #[]] w fun e w' => e = .returned (.agg (tab16 256)) ∧ Below w.heap.size w w' := by
  go_enter Try.func40, Try.ntmps40
  go_wp2_with (first
    | (refine wpList_alloc_abs (t := 47) info_t16 rfl rfl ?_)
    | fail)
  have hr1 : RowAt ((w.alloc (.cells (tab16 0) 47)).alloc (.cells (tab16 0) 47)) w.heap.size 47 (tab16 0) := (RowAt.new _ _ _).alloc _
  have hr2 : RowAt ((w.alloc (.cells (tab16 0) 47)).alloc (.cells (tab16 0) 47)) (w.heap.size + 1) 47 (tab16 0) := by simpa using RowAt.new (w.alloc (.cells (tab16 0) 47)) 47 (tab16 0)
  have hb : Below w.heap.size w ((w.alloc (.cells (tab16 0) 47)).alloc (.cells (tab16 0) 47)) := ((Below.refl _ _).alloc (Nat.le_refl _) _).alloc (by simp) _
  go_loopw [5] (fun i wr => ∃ k : Nat, k ≤ 256 ∧ i = .int .i64 k ∧ RowAt wr w.heap.size 47 (tab16 0) ∧ RowAt wr (w.heap.size + 1) 47 (tab16 k) ∧ Below w.heap.size w wr) (fun i _ => 256 - (intOf i).toNat)
  case atStart => exact ⟨0, by omega, rfl, hr1, hr2, hb⟩
  case round =>
    clear hr1 hr2 hb
    obtain ⟨k, hk, rfl, hr1, hr2, hb⟩ := hrel
    by_cases hlt : k < 256
    · have hc := (hr2.cell k).trans (tab16_get k k hlt)
      rw [if_neg (by omega)] at hc
      have hf := hr2.frozen k
      have hlt' : (k : Int) < 256 := by omega
      go_wp2_with (first
        | (go_at_call 41; refine (dir1 k _ hlt).mono ?_; rintro e w' ⟨rfl, rfl⟩)
        | fail)
      go_roundw
      case rel => exact ⟨k + 1, by omega, by go_num, hr1.far (by show w.heap.size ≠ w.heap.size + 1; omega) _, by rw [← tab16_set]; exact hr2.set_ _ _, hb.setCell (p := ⟨w.heap.size + 1, k, none⟩) (by simp) _⟩
      case measure => simp [intOf]; omega
    · obtain rfl : k = 256 := by omega
      go_wp2_with (first
        | (refine wpList_load_abs hr2 Try.underlying47 rfl (size_t16 256) rfl rfl (by rfl) ?_)
        | (refine wpList_store_abs hr1 (size_t16 256) (by rw [tab16_size, tab16_size]) (tab16_one 256) rfl rfl (by rfl) (by rfl) ?_; intro w2 hw2)
        | fail)
      have hr3 : RowAt w2 w.heap.size 47 (tab16 256) := by rw [hw2.out]; exact hr1.setRow _
      refine bodyPost_ret (results_cell_row rfl _ _ w.heap.size 47 (tab16 256) (0, 0) _ rfl hr3 Try.underlying47 rfl (size_t16 256)) rfl ⟨rfl, ?_⟩
      rw [hw2.out]
      exact Below.setRow hb (Nat.le_refl _) _

set_option maxHeartbeats 400000 in
theorem direct_any (w : World) : Calls Try.prog 31 #[] w fun e w' => e = .returned (.agg (tab16 256)) ∧ Below w.heap.size w w' := by
  go_enter Try.func31, Try.ntmps31
  go_wp2_with (first
    | (refine wpList_alloc_abs (t := 47) info_t16 rfl rfl ?_)
    | fail)
  refine (table16 _).mono ?_
  rintro e w1 ⟨rfl, hb1⟩
  have hr1 : RowAt w1 w.heap.size 47 (tab16 0) := (RowAt.new _ _ _).below hb1 (by simp)
  go_wp2_with (first
    | (refine wpList_store_abs hr1 (size_t16 256) (by rw [tab16_size, tab16_size]) (tab16_one 256) rfl rfl (by rfl) (by rfl) ?_; intro w2 hw2)
    | fail)
  have hr3 : RowAt w2 w.heap.size 47 (tab16 256) := by rw [hw2.out]; exact hr1.setRow _
  refine bodyPost_ret (results_cell_row rfl _ _ w.heap.size 47 (tab16 256) (0, 0) _ rfl hr3 Try.underlying47 rfl (size_t16 256)) rfl ⟨rfl, ?_⟩
  rw [hw2.out]
  exact Below.setRow (((Below.refl _ _).alloc (Nat.le_refl _) _).trans (hb1.mono (by simp))) (Nat.le_refl _) _

theorem ext_step16 (c : Nat) (b : UInt8) (hc : c < 65536) : bits .xor .u16 (IntKind.u16.wrap ((c : Int) * 256)) ((cN 8 ((c / 256 ^^^ b.toNat) * 256) : Nat) : Int) = ((cB c b.toNat : Nat) : Int) := by
  have h1 : c / 256 ^^^ b.toNat < 256 := xor_lt (k := 8) (by omega) b.toNat_lt
  have := u16_xor_nat (c % 256 * 256) (cN 8 ((c / 256 ^^^ b.toNat) * 256)) (by omega) (cN_lt (by omega) 8)
  rw [cB_table hc b.toNat_lt, ← this, IntKind.wrap_u16]
  congr 1
  omega
theorem idx_step16 (c : Nat) (b : UInt8) (hc : c < 65536) : bits .xor .u8 ((c : Int) / 256) (b.toNat : Int) = ((c / 256 ^^^ b.toNat : Nat) : Int) := by
  have := u8_xor_nat (c / 256) b.toNat (by omega) b.toNat_lt
  rw [Int.natCast_ediv] at this
  exact this

set_option maxHeartbeats 400000 in
theorem extendcrc_any (c : Nat) (s : ByteArray) (w : World) (hc : c < 65536) (hs : s.size ≤ 140737488351232) :
    Calls Try.prog 19 #[.int .u16 c, .string s] w fun e w' => e = .returned (.int .u16 (crcL c s.data.toList : Nat)) ∧ Below w.heap.size w w' := by
  have hsz : s.data.toList.length = s.size := by simp
  have HZ := Lib.hid hsz
  clear hsz
  go_enter Try.func19, Try.ntmps19
  go_wp2_with (first
    | (refine wpList_alloc_abs (t := 47) info_t16 rfl rfl ?_)
    | fail)
  refine (direct_any _).mono ?_
  rintro e w1 ⟨rfl, hb1⟩
  go_wp2_with (first
    | (refine wpList_alloc_abs (t := 47) info_t16 rfl rfl ?_)
    | (refine wpList_store_abs (RowAt.new _ _ _) (size_t16 256) (by rw [tab16_size, tab16_size]) (tab16_one 256) rfl rfl (by rfl) (by rfl) ?_; intro w2 hw2)
    | fail)
  have hr : RowAt w2 w1.heap.size 47 (tab16 256) := by rw [hw2.out]; exact (RowAt.new _ _ _).setRow _
  have hb : Below w.heap.size w w2 := by rw [hw2.out]; exact Below.setRow (hb1.alloc hb1.size _) hb1.size _
  clear hw2
  go_loop [0, 10] (fun n i => ∃ k : Nat, k ≤ s.size ∧ i = .int .i64 k ∧ n = .int .u16 (crcL c (s.data.toList.take k) : Nat)) (fun _ i => s.size - (intOf i).toNat)
  case atStart => exact ⟨0, by omega, rfl, rfl⟩
  case round =>
    obtain ⟨k, hk, rfl, rfl⟩ := hrel
    by_cases hlt : k < s.size
    · have hN := crcL_lt (c := c) (s.data.toList.take k) hc
      have HS := Lib.hid (show crcL c (s.data.toList.take (k + 1)) = cB (crcL c (s.data.toList.take k)) s[k].toNat by
        rw [List.take_add_one, bytes_get s k hlt, Option.toList_some, crcL_snoc])
      generalize crcL c (s.data.toList.take k) = N at *
      have HX := Lib.hid (ext_step16 N s[k] hN)
      have hi := idx_step16 N s[k] hN
      have h8 : N / 256 ^^^ s[k].toNat < 256 := xor_lt (k := 8) (by omega) s[k].toNat_lt
      have hcell := (hr.cell (N / 256 ^^^ s[k].toNat)).trans (tab16_get 256 _ h8)
      rw [if_pos h8] at hcell
      generalize N / 256 ^^^ s[k].toNat = J at *
      go_wp2_with fail
      go_round
      case rel => exact ⟨k + 1, by omega, by go_num, by rw [HS.out, ← HX.out]⟩
      case measure => simp [intOf]; omega
    · obtain rfl : k = s.size := by omega
      rw [List.take_of_length_le (Nat.le_of_eq HZ.out)]
      go_wp2
      go_ret
      exact ⟨rfl, hb⟩
end Go.Proofs.Ytcbkcdhhigobpaa
