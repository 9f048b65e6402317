/-
  sector: chapters 2 and 7, the program alone (gen_sec.py).
-/
import Derived.Test.YtlnjphggfbiabaaGreatArr
import Derived.Test.YtlnjphggfbiabaaGreatMem
import Derived.Test.YtlnjphggfbiabaaGreatStep
import Derived.Test.YtlnjphggfbiabaaGreatBytesAt
import Derived.Test.YtlnjphggfbiabaaGreatSt
import Derived.Test.YtlnjphggfbiabaaGreatShelf
namespace Go.Proofs.YtlnjphggfbiabaaGreat
open Go.RowKit
set_option linter.unusedVariables false

def edcP : Nat := 3623976961
def e1 (n : Nat) : Nat := if n % 2 = 1 then n / 2 ^^^ edcP else n / 2
def eN : Nat → Nat → Nat
  | 0, n => n
  | k + 1, n => e1 (eN k n)
def eB (c b : Nat) : Nat := eN 8 (c ^^^ b)
def edcL (c : Nat) (l : List UInt8) : Nat := l.foldl (fun c b => eB c b.toNat) c

def crcP : Nat := 4129
def c1 (n : Nat) : Nat := if n / 32768 = 1 then n % 32768 * 2 ^^^ crcP else n % 32768 * 2
theorem xor_lt {a b : Nat} {k : Nat} (ha : a < 2 ^ k) (hb : b < 2 ^ k) : a ^^^ b < 2 ^ k := Nat.xor_lt_two_pow ha hb
theorem e1_lt {n : Nat} (h : n < 4294967296) : e1 n < 4294967296 := by
  unfold e1
  split
  · exact xor_lt (k := 32) (by omega) (by unfold edcP; omega)
  · omega
theorem eN_lt {n : Nat} (h : n < 4294967296) (k : Nat) : eN k n < 4294967296 := by
  induction k with
  | zero => exact h
  | succ k ih => exact e1_lt ih
theorem eB_lt {c b : Nat} (hc : c < 4294967296) (hb : b < 256) : eB c b < 4294967296 := eN_lt (xor_lt (k := 32) hc (by omega)) 8
theorem edcL_lt {c : Nat} (l : List UInt8) (hc : c < 4294967296) : edcL c l < 4294967296 := by
  induction l generalizing c with
  | nil => exact hc
  | cons b t ih => exact ih (eB_lt hc b.toNat_lt)
theorem edcL_snoc (c : Nat) (l : List UInt8) (b : UInt8) : edcL c (l ++ [b]) = eB (edcL c l) b.toNat := by simp [edcL]
theorem xor_mod2 (a b : Nat) : (a ^^^ b) % 2 = (a % 2 + b % 2) % 2 := by
  have := Nat.xor_mod_two_pow (a := a) (b := b) (n := 1)
  rw [Nat.pow_one] at this
  rw [this]
  have h1 : a % 2 = 0 ∨ a % 2 = 1 := by omega
  have h2 : b % 2 = 0 ∨ b % 2 = 1 := by omega
  rcases h1 with h1 | h1 <;> rcases h2 with h2 | h2 <;> rw [h1, h2] <;> rfl
theorem xor_div2 (a b : Nat) : (a ^^^ b) / 2 = a / 2 ^^^ b / 2 := by
  have := Nat.shiftRight_xor_distrib (a := a) (b := b) (i := 1)
  simpa [Nat.shiftRight_eq_div_pow] using this
theorem xor4 (a b p : Nat) : (a ^^^ p) ^^^ (b ^^^ p) = a ^^^ b := by
  rw [Nat.xor_assoc, Nat.xor_comm b p, ← Nat.xor_assoc p p b, Nat.xor_self, Nat.zero_xor]
theorem e1_xor (a b : Nat) : e1 (a ^^^ b) = e1 a ^^^ e1 b := by
  unfold e1
  rw [xor_mod2, xor_div2]
  have h1 : a % 2 = 0 ∨ a % 2 = 1 := by omega
  have h2 : b % 2 = 0 ∨ b % 2 = 1 := by omega
  rcases h1 with h1 | h1 <;> rcases h2 with h2 | h2 <;> rw [h1, h2]
  · simp
  · simp [Nat.xor_assoc]
  · simp [Nat.xor_assoc, Nat.xor_comm edcP]
  · simp [xor4]
theorem eN_xor (k a b : Nat) : eN k (a ^^^ b) = eN k a ^^^ eN k b := by
  induction k with
  | zero => rfl
  | succ k ih => rw [eN, ih, e1_xor, eN, eN]
theorem e1_even (m : Nat) : e1 (2 * m) = m := by
  unfold e1
  rw [if_neg (by omega)]
  omega
theorem eN_shift (m : Nat) : eN 8 (256 * m) = m := by
  show e1 (e1 (e1 (e1 (e1 (e1 (e1 (e1 (256 * m)))))))) = m
  rw [show 256 * m = 2 * (128 * m) by omega, e1_even, show 128 * m = 2 * (64 * m) by omega, e1_even, show 64 * m = 2 * (32 * m) by omega, e1_even, show 32 * m = 2 * (16 * m) by omega, e1_even, show 16 * m = 2 * (8 * m) by omega, e1_even, show 8 * m = 2 * (4 * m) by omega, e1_even, show 4 * m = 2 * (2 * m) by omega, e1_even, e1_even]
theorem split_xor (k c : Nat) : c = 2 ^ k * (c / 2 ^ k) ^^^ c % 2 ^ k := by
  apply Nat.eq_of_testBit_eq
  intro i
  rw [Nat.testBit_xor, Nat.testBit_two_pow_mul, Nat.testBit_mod_two_pow, Nat.testBit_div_two_pow]
  by_cases h : i < k
  · rw [decide_eq_true h, decide_eq_false (by omega)]; simp
  · rw [decide_eq_false h, decide_eq_true (by omega)]
    simp
    rw [show i - k + k = i by omega]
/-- The table's step is the eight steps of the register. -/
theorem eB_table (c b : Nat) : eB c b = c / 256 ^^^ eN 8 (c % 256 ^^^ b) := by
  unfold eB
  have h := split_xor 8 c
  rw [show (2 : Nat) ^ 8 = 256 from rfl] at h
  have h2 : c ^^^ b = 256 * (c / 256) ^^^ (c % 256 ^^^ b) := by
    rw [← Nat.xor_assoc, ← h]
  rw [h2, eN_xor, eN_shift]

theorem and1_u32 {N : Nat} (h : N < 4294967296) : bits .and .u32 (N : Int) 1 = ((N % 2 : Nat) : Int) := by
  have := u32_and_nat N 1 h (by omega)
  rw [Nat.and_one_is_mod] at this
  exact this
theorem and1_yes {N : Nat} (h : N < 4294967296) (h1 : N % 2 = 1) : (bits .and .u32 (N : Int) 1 == 1) = true := by rw [and1_u32 h, h1]; rfl
theorem and1_no {N : Nat} (h : N < 4294967296) (h1 : ¬ N % 2 = 1) : (bits .and .u32 (N : Int) 1 == 1) = false := by rw [and1_u32 h, show N % 2 = 0 by omega]; rfl
theorem xorE {N : Nat} (h : N < 4294967296) : bits .xor .u32 ((N : Int) / 2) 3623976961 = ((N / 2 ^^^ edcP : Nat) : Int) := by
  have := u32_xor_nat (N / 2) 3623976961 (by omega) (by omega)
  rw [Int.natCast_ediv] at this
  exact this

set_option maxHeartbeats 400000 in
theorem refl1 (b : Nat) (w : World) (hb : b < 256) : Calls Tryz.prog 139 #[.int .u8 b] w fun e w' => e = .returned (.int .u32 (eN 8 b : Nat)) ∧ w = w' := by
  go_enter Tryz.func139, Tryz.ntmps139
  go_wp2
  go_loop [3, 6] (fun n i => ∃ k : Nat, k ≤ 8 ∧ i = .int .i64 k ∧ n = .int .u32 (eN k b : Nat)) (fun _ i => 8 - (intOf i).toNat)
  case atStart => exact ⟨0, by omega, rfl, rfl⟩
  case round =>
    obtain ⟨k, hk, rfl, rfl⟩ := hrel
    have hlt := eN_lt (n := b) (by omega) k
    have HS := Lib.hid (show eN (k + 1) b = e1 (eN k b) from rfl)
    by_cases hlt2 : k < 8
    · generalize eN k b = N at *
      have HX := Lib.hid (xorE hlt)
      by_cases h1 : N % 2 = 1
      · have ha := and1_yes hlt h1
        have HE := Lib.hid (show e1 N = N / 2 ^^^ edcP from if_pos h1)
        clear h1
        go_wp2
        go_round
        case rel => exact ⟨k + 1, by omega, by go_num, by rw [HS.out, HE.out, HX.out]⟩
        case measure => simp [intOf]; omega
      · have ha := and1_no hlt h1
        have HE := Lib.hid (show e1 N = N / 2 from if_neg h1)
        clear h1
        go_wp2
        go_round
        case rel => exact ⟨k + 1, by omega, by go_num, by rw [HS.out, HE.out]; rfl⟩
        case measure => simp [intOf]; omega
    · obtain rfl : k = 8 := by omega
      go_wp2
      go_ret
      exact ⟨rfl, rfl⟩

/-- The table after k entries. -/
def tab32 (k : Nat) : Array Value := ((List.range 256).map fun j => if j < k then Value.int .u32 (eN 8 j : Nat) else .int .u32 0).toArray
theorem tab32_size (k : Nat) : (tab32 k).size = 256 := by simp [tab32]
theorem tab32_get (k j : Nat) (h : j < 256) : (tab32 k)[j]? = some (if j < k then Value.int .u32 (eN 8 j : Nat) else .int .u32 0) := by simp [tab32, h]
theorem tab32_set (k : Nat) : (tab32 k).setIfInBounds k (.int .u32 (eN 8 k : Nat)) = tab32 (k + 1) := by
  apply Array.ext_getElem?
  intro i
  rw [Array.getElem?_setIfInBounds]
  by_cases hi : i < 256
  · rw [tab32_get (k + 1) i hi, tab32_get k i hi, tab32_size]
    by_cases e : k = i
    · subst e
      rw [if_pos rfl, if_pos hi, if_pos (by omega)]
    · rw [if_neg e]
      by_cases h2 : i < k
      · rw [if_pos h2, if_pos (by omega)]
      · rw [if_neg h2, if_neg (by omega)]
  · rw [Array.getElem?_eq_none (by rw [tab32_size]; omega), Array.getElem?_eq_none (by rw [tab32_size]; omega)]
    rw [tab32_size]
    split
    · split
      · omega
      · rfl
    · rfl
theorem tab32_one (k : Nat) : (tab32 k).all (·.oneCell') = true := by
  simp only [tab32, List.all_toArray, List.all_map, List.all_eq_true]
  intro j _
  show Value.oneCell' (if j < k then _ else _) = true
  split <;> rfl
theorem info_t32 : (Tryz.prog.info? 195).map (fun i => (i.zero, i.size)) = some (some (.agg (tab32 0)), 256) := by kernel_rfl
theorem size_t32 (k : Nat) : (Tryz.prog.info? 195).map (·.size) = some (tab32 k).size := by
  rw [tab32_size]
  kernel_rfl

set_option maxHeartbeats 400000 in
theorem table32 (w : World) : Calls Tryz.prog 138 #[.func (.func 139) #[] #[]] w fun e w' => e = .returned (.agg (tab32 256)) ∧ Below w.heap.size w w' := by
  go_enter Tryz.func138, Tryz.ntmps138
  go_wp2_with (first
    | (refine wpList_alloc_abs (t := 195) info_t32 rfl rfl ?_)
    | fail)
  have hr1 : RowAt ((w.alloc (.cells (tab32 0) 195)).alloc (.cells (tab32 0) 195)) w.heap.size 195 (tab32 0) := (RowAt.new _ _ _).alloc _
  have hr2 : RowAt ((w.alloc (.cells (tab32 0) 195)).alloc (.cells (tab32 0) 195)) (w.heap.size + 1) 195 (tab32 0) := by simpa using RowAt.new (w.alloc (.cells (tab32 0) 195)) 195 (tab32 0)
  have hb : Below w.heap.size w ((w.alloc (.cells (tab32 0) 195)).alloc (.cells (tab32 0) 195)) := ((Below.refl _ _).alloc (Nat.le_refl _) _).alloc (by simp) _
  go_loopw [5] (fun i wr => ∃ k : Nat, k ≤ 256 ∧ i = .int .i64 k ∧ RowAt wr w.heap.size 195 (tab32 0) ∧ RowAt wr (w.heap.size + 1) 195 (tab32 k) ∧ Below w.heap.size w wr) (fun i _ => 256 - (intOf i).toNat)
  case atStart => exact ⟨0, by omega, rfl, hr1, hr2, hb⟩
  case round =>
    clear hr1 hr2 hb
    obtain ⟨k, hk, rfl, hr1, hr2, hb⟩ := hrel
    by_cases hlt : k < 256
    · have hc := (hr2.cell k).trans (tab32_get k k hlt)
      rw [if_neg (by omega)] at hc
      have hf := hr2.frozen k
      have hlt' : (k : Int) < 256 := by omega
      go_wp2_with (first
        | (go_at_call 139; refine (refl1 k _ hlt).mono ?_; rintro e w' ⟨rfl, rfl⟩)
        | fail)
      go_roundw
      case rel => exact ⟨k + 1, by omega, by go_num, hr1.far (by show w.heap.size ≠ w.heap.size + 1; omega) _, by rw [← tab32_set]; exact hr2.set_ _ _, hb.setCell (p := ⟨w.heap.size + 1, k, none⟩) (by simp) _⟩
      case measure => simp [intOf]; omega
    · obtain rfl : k = 256 := by omega
      go_wp2_with (first
        | (refine wpList_load_abs hr2 Tryz.underlying195 rfl (size_t32 256) rfl rfl (by rfl) ?_)
        | (refine wpList_store_abs hr1 (size_t32 256) (by rw [tab32_size, tab32_size]) (tab32_one 256) rfl rfl (by rfl) (by rfl) ?_; intro w2 hw2)
        | fail)
      have hr3 : RowAt w2 w.heap.size 195 (tab32 256) := by rw [hw2.out]; exact hr1.setRow _
      refine bodyPost_ret (results_cell_row rfl _ _ w.heap.size 195 (tab32 256) (0, 0) _ rfl hr3 Tryz.underlying195 rfl (size_t32 256)) rfl ⟨rfl, ?_⟩
      rw [hw2.out]
      exact Below.setRow hb (Nat.le_refl _) _

set_option maxHeartbeats 400000 in
theorem reflected_any (w : World) : Calls Tryz.prog 133 #[] w fun e w' => e = .returned (.agg (tab32 256)) ∧ Below w.heap.size w w' := by
  go_enter Tryz.func133, Tryz.ntmps133
  go_wp2_with (first
    | (refine wpList_alloc_abs (t := 195) info_t32 rfl rfl ?_)
    | fail)
  refine (table32 _).mono ?_
  rintro e w1 ⟨rfl, hb1⟩
  have hr1 : RowAt w1 w.heap.size 195 (tab32 0) := (RowAt.new _ _ _).below hb1 (by simp)
  go_wp2_with (first
    | (refine wpList_store_abs hr1 (size_t32 256) (by rw [tab32_size, tab32_size]) (tab32_one 256) rfl rfl (by rfl) (by rfl) ?_; intro w2 hw2)
    | fail)
  have hr3 : RowAt w2 w.heap.size 195 (tab32 256) := by rw [hw2.out]; exact hr1.setRow _
  refine bodyPost_ret (results_cell_row rfl _ _ w.heap.size 195 (tab32 256) (0, 0) _ rfl hr3 Tryz.underlying195 rfl (size_t32 256)) rfl ⟨rfl, ?_⟩
  rw [hw2.out]
  exact Below.setRow (((Below.refl _ _).alloc (Nat.le_refl _) _).trans (hb1.mono (by simp))) (Nat.le_refl _) _

theorem ext_step (c : Nat) (b : UInt8) (hc : c < 4294967296) : bits .xor .u32 ((c : Int) / 256) ((eN 8 (c % 256 ^^^ b.toNat) : Nat) : Int) = ((eB c b.toNat : Nat) : Int) := by
  have h1 : c % 256 ^^^ b.toNat < 256 := xor_lt (k := 8) (by omega) b.toNat_lt
  have := u32_xor_nat (c / 256) (eN 8 (c % 256 ^^^ b.toNat)) (by omega) (eN_lt (by omega) 8)
  rw [Int.natCast_ediv] at this
  rw [eB_table]
  exact this
theorem idx_step (c : Nat) (b : UInt8) : bits .xor .u8 ((c : Int) % 256) (b.toNat : Int) = ((c % 256 ^^^ b.toNat : Nat) : Int) := by
  have := u8_xor_nat (c % 256) b.toNat (by omega) b.toNat_lt
  rw [Int.natCast_emod] at this
  exact this

set_option maxHeartbeats 400000 in
theorem extendedc_any (c : Nat) (s : ByteArray) (w : World) (hc : c < 4294967296) (hs : s.size ≤ 140737488351232) :
    Calls Tryz.prog 123 #[.int .u32 c, .string s] w fun e w' => e = .returned (.int .u32 (edcL c s.data.toList : Nat)) ∧ Below w.heap.size w w' := by
  have hsz : s.data.toList.length = s.size := by simp
  have HZ := Lib.hid hsz
  clear hsz
  go_enter Tryz.func123, Tryz.ntmps123
  go_wp2_with (first
    | (refine wpList_alloc_abs (t := 195) info_t32 rfl rfl ?_)
    | fail)
  refine (reflected_any _).mono ?_
  rintro e w1 ⟨rfl, hb1⟩
  go_wp2_with (first
    | (refine wpList_alloc_abs (t := 195) info_t32 rfl rfl ?_)
    | (refine wpList_store_abs (RowAt.new _ _ _) (size_t32 256) (by rw [tab32_size, tab32_size]) (tab32_one 256) rfl rfl (by rfl) (by rfl) ?_; intro w2 hw2)
    | fail)
  have hr : RowAt w2 w1.heap.size 195 (tab32 256) := by rw [hw2.out]; exact (RowAt.new _ _ _).setRow _
  have hb : Below w.heap.size w w2 := by rw [hw2.out]; exact Below.setRow (hb1.alloc hb1.size _) hb1.size _
  clear hw2
  go_loop [0, 10] (fun n i => ∃ k : Nat, k ≤ s.size ∧ i = .int .i64 k ∧ n = .int .u32 (edcL c (s.data.toList.take k) : Nat)) (fun _ i => s.size - (intOf i).toNat)
  case atStart => exact ⟨0, by omega, rfl, rfl⟩
  case round =>
    obtain ⟨k, hk, rfl, rfl⟩ := hrel
    by_cases hlt : k < s.size
    · have hN := edcL_lt (c := c) (s.data.toList.take k) hc
      have HS := Lib.hid (show edcL c (s.data.toList.take (k + 1)) = eB (edcL c (s.data.toList.take k)) s[k].toNat by
        rw [List.take_add_one, bytes_get s k hlt, Option.toList_some, edcL_snoc])
      generalize edcL c (s.data.toList.take k) = N at *
      have HX := Lib.hid (ext_step N s[k] hN)
      have hi := idx_step N s[k]
      have h8 : N % 256 ^^^ s[k].toNat < 256 := xor_lt (k := 8) (by omega) s[k].toNat_lt
      have hcell := (hr.cell (N % 256 ^^^ s[k].toNat)).trans (tab32_get 256 _ h8)
      rw [if_pos h8] at hcell
      generalize N % 256 ^^^ s[k].toNat = J at *
      go_wp2_with fail
      go_round
      case rel => exact ⟨k + 1, by omega, by go_num, by rw [HS.out, ← HX.out]⟩
      case measure => simp [intOf]; omega
    · obtain rfl : k = s.size := by omega
      rw [List.take_of_length_le (Nat.le_of_eq HZ.out)]
      go_wp2
      go_ret
      exact ⟨rfl, hb⟩
theorem or_bcd_fin : ∀ k : Fin 100, bits BinOp.or IntKind.i64 ((k.val : Int) / 10 * 16) ((k.val : Int) % 10) % 256 = (k.val : Int) / 10 * 16 + (k.val : Int) % 10 := by decide +kernel
theorem or_bcd (n : Int) (h0 : 0 ≤ n) (h1 : n ≤ 99) : bits BinOp.or IntKind.i64 (n / 10 * 16) (n % 10) % 256 = n / 10 * 16 + n % 10 := by
  have := or_bcd_fin ⟨n.toNat, by omega⟩
  simpa [Int.toNat_of_nonneg h0] using this

def bcdOk (n : Int) : Prop := 0 ≤ n ∧ n ≤ 99
instance (n : Int) : Decidable (bcdOk n) := by unfold bcdOk; infer_instance
def bcdV (n : Int) : Int := if bcdOk n then n / 10 * 16 + n % 10 else 0
def bcdE (n : Int) : Int := if bcdOk n then 0 else 2
def unOk (b : Int) : Prop := b / 16 ≤ 9 ∧ b % 16 ≤ 9
instance (n : Int) : Decidable (unOk n) := by unfold unOk; infer_instance
def unV (b : Int) : Int := if unOk b then b / 16 * 10 + b % 16 else 0
def unE (b : Int) : Int := if unOk b then 0 else 2
theorem bcdV_ok {n : Int} (h0 : 0 ≤ n) (h1 : n ≤ 99) : bcdV n = n / 10 * 16 + n % 10 := if_pos ⟨h0, h1⟩
theorem bcdE_ok {n : Int} (h0 : 0 ≤ n) (h1 : n ≤ 99) : bcdE n = 0 := if_pos ⟨h0, h1⟩
theorem bcdV_no {n : Int} (h : ¬ bcdOk n) : bcdV n = 0 := if_neg h
theorem bcdE_no {n : Int} (h : ¬ bcdOk n) : bcdE n = 2 := if_neg h

theorem bcd_any (n : Int) (w : World) :
    Calls Tryz.prog 101 #[.int .i64 n] w fun e w' => e = .returned (.tuple #[.int .u8 (bcdV n), .int .i64 (bcdE n)]) ∧ w = w' := by
  by_cases h0 : 0 ≤ n
  · by_cases h1 : n ≤ 99
    · have HV := Lib.hid (bcdV_ok h0 h1)
      have HE := Lib.hid (bcdE_ok h0 h1)
      go_enter Tryz.func101, Tryz.ntmps101
      go_wp2
      go_ret2
      exact ⟨by rw [HV.out, HE.out, ← or_bcd n h0 h1]; rfl, rfl⟩
    · have HV := Lib.hid (bcdV_no (n := n) (fun h => h1 h.2))
      have HE := Lib.hid (bcdE_no (n := n) (fun h => h1 h.2))
      go_enter Tryz.func101, Tryz.ntmps101
      go_wp2
      go_ret2
      exact ⟨by rw [HV.out, HE.out]; rfl, rfl⟩
  · have HV := Lib.hid (bcdV_no (n := n) (fun h => h0 h.1))
    have HE := Lib.hid (bcdE_no (n := n) (fun h => h0 h.1))
    go_enter Tryz.func101, Tryz.ntmps101
    go_wp2
    go_ret2
    exact ⟨by rw [HV.out, HE.out]; rfl, rfl⟩
theorem frombcd_any (b : Int) (w : World) (h0 : 0 ≤ b) (h1 : b ≤ 255) :
    Calls Tryz.prog 88 #[.int .u8 b] w fun e w' => e = .returned (.tuple #[.int .i64 (unV b), .int .i64 (unE b)]) ∧ w = w' := by
  by_cases h2 : b / 16 ≤ 9
  · by_cases h3 : b % 16 ≤ 9
    · have HV := Lib.hid (show unV b = 10 * (b / 16) + b % 16 by rw [unV, if_pos ⟨h2, h3⟩]; omega)
      have HE := Lib.hid (show unE b = 0 from if_pos ⟨h2, h3⟩)
      go_enter Tryz.func88, Tryz.ntmps88
      go_wp2
      go_ret2
      exact ⟨by rw [HV.out, HE.out]; rfl, rfl⟩
    · have HV := Lib.hid (show unV b = 0 from if_neg (fun h => h3 h.2))
      have HE := Lib.hid (show unE b = 2 from if_neg (fun h => h3 h.2))
      go_enter Tryz.func88, Tryz.ntmps88
      go_wp2
      go_ret2
      exact ⟨by rw [HV.out, HE.out]; rfl, rfl⟩
  · have HV := Lib.hid (show unV b = 0 from if_neg (fun h => h2 h.1))
    have HE := Lib.hid (show unE b = 2 from if_neg (fun h => h2 h.1))
    go_enter Tryz.func88, Tryz.ntmps88
    go_wp2
    go_ret2
    exact ⟨by rw [HV.out, HE.out]; rfl, rfl⟩
theorem un_bcd {n : Int} (h : bcdOk n) : unV (bcdV n) = n ∧ unE (bcdV n) = 0 ∧ 0 ≤ bcdV n ∧ bcdV n ≤ 255 := by
  obtain ⟨h0, h1⟩ := h
  rw [bcdV_ok h0 h1]
  have hu : unOk (n / 10 * 16 + n % 10) := by constructor <;> omega
  refine ⟨?_, if_pos hu, by omega, by omega⟩
  rw [unV, if_pos hu]
  omega
def edcS (s : ByteArray) : Nat := edcL 0 s.data.toList
theorem edc_any (s : ByteArray) (w : World) (hs : s.size ≤ 140737488351232) : Calls Tryz.prog 103 #[.string s] w fun e w' => e = .returned (.int .u32 (edcS s : Nat)) ∧ Below w.heap.size w w' := by
  go_enter Tryz.func103, Tryz.ntmps103
  go_wp2_with (first | (go_at_call 123; refine (extendedc_any 0 _ _ (by omega) hs).mono ?_; rintro e w1 ⟨rfl, hb1⟩) | fail)
  go_ret
  exact ⟨rfl, hb1⟩

/-- A slice literal of bytes, made into a string. -/
theorem lit_string (w : World) (bs : List UInt8) (cells : Array Value) (n : Nat) (hn : bs.length = n) (hc : cells.toList = bs.map byteV) (hm : n ≤ maxLen) :
    (convert 75 9 (.slice (some ⟨w.heap.size, 0, none⟩) n n)).run Tryz.prog (w.alloc (.cells cells 5)) = .ok (.string ⟨bs.toArray⟩) (w.alloc (.cells cells 5)) := by
  have hown : (w.alloc (.cells cells 5)).ownsRow w.heap.size 5 1 (.slice (some ⟨w.heap.size, 0, none⟩) n n) n (bs.map byteV) := by
    have hs : cells.size = n := by rw [← hn, ← Array.length_toList, hc, List.length_map]
    refine ⟨by rw [List.length_map, hn, Nat.mul_one], .inr ⟨w.heap.size, n, cells, rfl, Nat.le_refl _, heap_alloc_new w _, Nat.le_refl _, hm, by rw [hs, Nat.mul_one], ?_⟩⟩
    rw [Nat.mul_one, ← hs, ← Array.length_toList, List.take_length, hc]
  exact own_string _ _ _ _ Tryz.underlying75 Tryz.underlying5 Tryz.underlying9 hown

def edcBs (c : Nat) : List UInt8 := [UInt8.ofNat c, UInt8.ofNat (c / 256), UInt8.ofNat (c / 65536), UInt8.ofNat (c / 16777216)]
theorem bv (n : Nat) (m : Int) (h : m = ((n % 256 : Nat) : Int)) : Value.int .u8 m = byteV (UInt8.ofNat n) := by
  rw [h]
  rfl

theorem edcBs_cells (c : Nat) (hc : c < 4294967296) : (#[Value.int .u8 ((c : Int) % 256), Value.int .u8 ((c : Int) / 256 % 256), Value.int .u8 ((c : Int) / 65536 % 256), Value.int .u8 ((c : Int) / 16777216)] : Array Value).toList = (edcBs c).map byteV := by
  rw [bv c ((c : Int) % 256) (by omega), bv (c / 256) ((c : Int) / 256 % 256) (by omega), bv (c / 65536) ((c : Int) / 65536 % 256) (by omega), bv (c / 16777216) ((c : Int) / 16777216) (by omega)]
  rfl
theorem edcbytes_any (c : Nat) (w : World) (hc : c < 4294967296) : Calls Tryz.prog 102 #[.int .u32 c] w fun e w' => e = .returned (.string ⟨(edcBs c).toArray⟩) ∧ Below w.heap.size w w' := by
  have hcv := lit_string w (edcBs c) _ 4 rfl (edcBs_cells c hc) (by decide)
  go_enter Tryz.func102, Tryz.ntmps102
  go_wp2
  go_ret
  exact ⟨rfl, (Below.refl _ _).alloc (Nat.le_refl _) _⟩
/-- In block b lies a builder that holds the bytes l. -/
def Bld (w : World) (b : Nat) (l : List UInt8) : Prop := Lib.IsBuilder 112 5 b b (Lib.byteCells l) w
theorem Bld.new (w : World) : Bld (w.alloc (.cells #[.pointer none, .slice none 0 0] 112)) w.heap.size [] := Lib.fresh_isBuilder _ _ w
theorem Bld.drew {w : World} {b : Nat} {l : List UInt8} (h : Bld w b l) : Bld w.drew b l := h
theorem Bld.drewN {w : World} {b : Nat} {l : List UInt8} (h : Bld w b l) (k : Nat) : Bld (w.drewN k) b l := h
theorem Bld.below {w w' : World} {b : Nat} {l : List UInt8} (h : Bld w b l) (hb : Below w.heap.size w w') : Bld w' b l := by
  have one : ∀ p, Lib.BuilderAt 112 5 b b p (Lib.byteCells l) w → Lib.BuilderAt 112 5 b b p (Lib.byteCells l) w' := by
    intro p hp
    have hlt := hp.lt
    obtain ⟨h1, v, h2, h3, h4⟩ := hp
    exact ⟨h1, v, (hb.block b hlt).trans h2, own_all h3 hb, h4⟩
  rcases h with h | h
  · exact .inl (one _ h)
  · exact .inr (one _ h)
theorem Bld.lt {w : World} {b : Nat} {l : List UInt8} (h : Bld w b l) : b < w.heap.size := by
  rcases h with h | h
  · exact h.lt
  · exact h.lt
theorem strCells_bytes (s : ByteArray) : Lib.strCells s = Lib.byteCells s.data.toList := rfl
theorem byteCells_append (l r : List UInt8) : Lib.byteCells l ++ Lib.byteCells r = Lib.byteCells (l ++ r) := by simp [Lib.byteCells]

theorem bwrite_any (b : Nat) (l : List UInt8) (s : ByteArray) (w : World) (h : Bld w b l) (hlen : l.length + s.size ≤ 140737488355328) :
    Calls Tryz.prog 58 #[.pointer (some ⟨b, 0, none⟩), .string s] w fun e w' => e = .returned (.tuple #[.int .i64 s.size, .nilIface]) ∧ Bld w' b (l ++ s.data.toList) ∧ Below b w w' := by
  have hc : Calls Tryz.prog 58 #[.pointer (some ⟨b, 0, none⟩), .string s] w fun e w' => e = .returned (.tuple #[.int .i64 s.size, .nilIface]) ∧ (Lib.BuilderAt 112 5 b b (.pointer (some ⟨b, 0, none⟩)) (Lib.byteCells l ++ Lib.strCells s) w' ∧ Below b w w') :=
    Any.Builder_WriteString { Tryz.lays105 with } Tryz.Builder_Extra_105 b b (Lib.byteCells l) s w h (by rw [Lib.byteCells_length]; exact hlen) (Nat.le_of_lt h.lt)
  refine hc.mono fun e w' hh => ⟨hh.1, ?_, hh.2.2⟩
  have := hh.2.1
  rw [strCells_bytes, byteCells_append] at this
  exact .inr this
theorem bstring_any (b : Nat) (l : List UInt8) (w : World) (h : Bld w b l) :
    Calls Tryz.prog 60 #[.pointer (some ⟨b, 0, none⟩)] w fun e w' => e = .returned (.string ⟨l.toArray⟩) ∧ Below b w w' :=
  Any.Builder_String_any { Tryz.lays105 with } Tryz.Builder_Extra_105 b b l w h (Nat.le_of_lt h.lt)
end Go.Proofs.YtlnjphggfbiabaaGreat
