/-
  The field with 256 elements: double, Mul, Exp, powers, Log, Inv. Elements are natural numbers below 256.
-/
import Derived.Test.YtlnjphggfbiabaaGreatKit
import Derived.Test.YtlnjphggfbiabaaGreatMem
import Derived.Test.YtlnjphggfbiabaaGreatArr
import Derived.Test.YtlnjphggfbiabaaGreatSt
import Derived.Deep.Cut
import Derived.Lib.VarintBits
namespace Go.Proofs.YtlnjphggfbiabaaGreat
open Go.RowKit
set_option linter.unusedVariables false

def dblN (a : Nat) : Nat := if 128 ≤ a then (a % 128 * 2) ^^^ 29 else a * 2
theorem dblN_lt {a : Nat} (h : a < 256) : dblN a < 256 := by
  unfold dblN
  split
  · exact Nat.xor_lt_two_pow (n := 8) (by omega) (by omega)
  · omega
def mulK : Nat → Nat → Nat → Nat → Nat
  | 0, _, _, o => o
  | f + 1, a, b, o => if b = 0 then o else mulK f (dblN a) (b / 2) (if b % 2 = 1 then o ^^^ a else o)
def mulN (a b : Nat) : Nat := mulK 8 a b 0
theorem mulK_lt : ∀ (f : Nat) {a b o : Nat}, a < 256 → o < 256 → mulK f a b o < 256
  | 0, _, _, _, _, h => h
  | f + 1, a, b, o, ha, ho => by
    rw [mulK]
    split
    · exact ho
    · refine mulK_lt f (dblN_lt ha) ?_
      split
      · exact Nat.xor_lt_two_pow (n := 8) ho ha
      · exact ho
theorem mulN_lt {a b : Nat} (ha : a < 256) : mulN a b < 256 := mulK_lt 8 ha (by decide)
def powN : Nat → Nat
  | 0 => 1
  | k + 1 => dblN (powN k)
theorem powN_lt : ∀ k, powN k < 256
  | 0 => by decide
  | k + 1 => dblN_lt (powN_lt k)
def expN (n : Int) : Nat := powN (n % 255).toNat
def logF (a : Nat) : Option Nat := (List.range 255).find? fun i => powN i == a
def logN (a : Nat) : Nat := (logF a).getD 0
def invN (a : Nat) : Nat := if logF a = none then 0 else expN (-(logN a : Int))

theorem and_one {b : Nat} (h : b < 256) : bits .and .u8 (b : Int) 1 = (b : Int) % 2 := bits_mask .u8 8 (by decide) wraps_u8 1 (by decide) _ (by omega) (by omega)
theorem dbl_hi {a : Nat} (h : a < 256) (h2 : 128 ≤ a) : bits .xor .u8 (IntKind.u8.wrap ((a : Int) * 2)) 29 = ((dblN a : Nat) : Int) := by
  rw [IntKind.wrap_u8]
  have := u8_xor_nat (a % 128 * 2) 29 (by omega) (by omega)
  have e : ((a : Int) * 2 % 256) = ((a % 128 * 2 : Nat) : Int) := by omega
  rw [e]
  unfold dblN
  rw [if_pos h2]
  exact this
theorem dbl_lo {a : Nat} (h2 : ¬ 128 ≤ a) : (a : Int) * 2 = ((dblN a : Nat) : Int) := by
  unfold dblN
  rw [if_neg h2]
  omega
theorem double_any (a : Nat) (w : World) (ha : a < 256) : Calls Tryz.prog 124 #[.int .u8 (a : Int)] w fun e w' => e = .returned (.int .u8 ((dblN a : Nat) : Int)) ∧ w = w' := by
  by_cases h : 128 ≤ a
  · have hI : (128 : Int) ≤ (a : Int) := by omega
    have H := Lib.hid (dbl_hi ha h)
    clear h
    go_enter Tryz.func124, Tryz.ntmps124
    go_wp2_with fail
    go_ret
    exact ⟨ret_int H.out, rfl⟩
  · have hI : ¬ (128 : Int) ≤ (a : Int) := by omega
    have H := Lib.hid (dbl_lo h)
    clear h
    go_enter Tryz.func124, Tryz.ntmps124
    go_wp2_with fail
    go_ret
    exact ⟨ret_int H.out, rfl⟩
set_option maxHeartbeats 1000000 in
theorem mul_any (a b : Nat) (w : World) (ha : a < 256) (hb : b < 256) : Calls Tryz.prog 108 #[.int .u8 (a : Int), .int .u8 (b : Int)] w fun e w' => e = .returned (.int .u8 ((mulN a b : Nat) : Int)) ∧ w = w' := by
  obtain ⟨M, hM⟩ : ∃ M, mulN a b = M := ⟨_, rfl⟩
  have HM : Hid (mulK 8 a b 0 = M) := Lib.hid hM
  rw [hM]
  clear hM
  go_enter Tryz.func108, Tryz.ntmps108
  go_wp2_with fail
  go_loop [0, 1, 5] (fun x y z => ∃ f a' b' o' : Nat, x = .int .u8 (a' : Int) ∧ y = .int .u8 (b' : Int) ∧ z = .int .u8 (o' : Int) ∧ a' < 256 ∧ b' < 256 ∧ o' < 256 ∧ Hid (b' < 2 ^ f) ∧ Hid (mulK f a' b' o' = M)) (fun _ y _ => (intOf y).toNat)
  case atStart => exact ⟨8, a, b, 0, rfl, rfl, rfl, ha, hb, by decide, Lib.hid (by omega), HM⟩
  case round =>
    clear HM
    obtain ⟨f, a', b', o', rfl, rfl, rfl, ha', hb', ho', HF, HM⟩ := hrel
    have C := Lib.hid (double_any a' w ha')
    have hd := dblN_lt ha'
    by_cases h0 : b' = 0
    · subst h0
      have HE : Hid (o' = M) := Lib.hid (by have := HM.out; cases f with | zero => exact this | succ f => rwa [mulK, if_pos rfl] at this)
      go_wp2_with fail
      go_ret
      exact ⟨ret_int (by rw [HE.out]), rfl⟩
    · have h0B : ((b' : Int) != 0) = true := by rw [bne_iff_ne]; omega
      obtain ⟨g, rfl⟩ : ∃ g, f = g + 1 := by
        cases f with
        | zero => exact absurd HF.out (by omega)
        | succ g => exact ⟨g, rfl⟩
      have HM1 : Hid (mulK g (dblN a') (b' / 2) (if b' % 2 = 1 then o' ^^^ a' else o') = M) := Lib.hid (by have := HM.out; rwa [mulK, if_neg h0] at this)
      have HF1 : Hid (b' / 2 < 2 ^ g) := Lib.hid (by have := HF.out; rw [Nat.pow_succ] at this; omega)
      have hbd : b' / 2 < b' := by omega
      clear HM HF
      by_cases h1 : b' % 2 = 1
      · rw [if_pos h1] at HM1
        have h1B : (bits .and .u8 (b' : Int) 1 == 1) = true := by rw [and_one hb']; simp; omega
        have hx := u8_xor_nat o' a' ho' ha'
        have hox := Nat.xor_lt_two_pow (n := 8) ho' ha'
        clear h1 h0
        go_wp2_with fail
        refine C.out.mono ?_
        rintro e w1 ⟨rfl, rfl⟩
        go_wp2_with fail
        go_round
        case rel => exact ⟨g, dblN a', b' / 2, o' ^^^ a', rfl, by simp, by first | rfl | rw [hx], hd, by omega, hox, HF1, HM1⟩
        case measure => simp [intOf]; omega
      · rw [if_neg h1] at HM1
        have h1B : (bits .and .u8 (b' : Int) 1 == 1) = false := by rw [and_one hb']; simp; omega
        clear h1 h0
        go_wp2_with fail
        refine C.out.mono ?_
        rintro e w1 ⟨rfl, rfl⟩
        go_wp2_with fail
        go_round
        case rel => exact ⟨g, dblN a', b' / 2, o', rfl, by simp, rfl, hd, by omega, ho', HF1, HM1⟩
        case measure => simp [intOf]; omega
set_option maxHeartbeats 1000000 in
theorem exp_any (n : Int) (w : World) (hn : -9223372036854775808 ≤ n ∧ n ≤ 9223372036854775807) : Calls Tryz.prog 105 #[.int .i64 n] w fun e w' => e = .returned (.int .u8 ((expN n : Nat) : Int)) ∧ w = w' := by
  obtain ⟨m, hm⟩ : ∃ m : Nat, (n % 255).toNat = m := ⟨_, rfl⟩
  have hm2 : (m : Int) = n % 255 := by omega
  have hml : m < 255 := by omega
  have HE : Hid (expN n = powN m) := Lib.hid (by unfold expN; rw [hm])
  rw [HE.out]
  have hcase : (0 ≤ n.tmod 255 ∧ n.tmod 255 = (m : Int)) ∨ (n.tmod 255 < 0 ∧ n.tmod 255 + 255 = (m : Int)) := by
    by_cases h : 0 ≤ n
    · left
      rw [Int.tmod_eq_emod_of_nonneg h]
      omega
    · have e : n.tmod 255 = -((-n) % 255) := by
        have : n = -(-n) := by omega
        conv => lhs; rw [this, Int.neg_tmod, Int.tmod_eq_emod_of_nonneg (by omega)]
      rw [e]
      omega
  obtain ⟨q, hq⟩ : ∃ q, n.tmod 255 = q := ⟨_, rfl⟩
  rw [hq] at hcase
  have CD := Lib.hid (fun (a : Nat) (ha : a < 256) => double_any a w ha)
  clear hm hm2 HE
  have hlaw : ∀ (x : Int), x = (m : Int) → True := fun _ _ => trivial
  clear hlaw
  rcases hcase with ⟨h0, h1⟩ | ⟨h0, h1⟩
  all_goals
    go_enter Tryz.func105, Tryz.ntmps105
    go_wp2_with fail
    go_loop [3, 11] (fun v i => ∃ k : Nat, k ≤ m ∧ i = .int .i64 k ∧ v = .int .u8 ((powN k : Nat) : Int)) (fun _ i => m - (intOf i).toNat)
    case atStart => exact ⟨0, by omega, rfl, rfl⟩
    case round =>
      obtain ⟨k, hk, rfl, rfl⟩ := hrel
      have hp := powN_lt k
      have HS : Hid (powN (k + 1) = dblN (powN k)) := Lib.hid rfl
      by_cases hlt : k < m
      · have hltI : (k : Int) < (m : Int) := by omega
        have C := Lib.hid (CD.out (powN k) hp)
        generalize powN k = P at *
        go_wp2_with fail
        refine C.out.mono ?_
        rintro e w1 ⟨rfl, rfl⟩
        go_wp2_with fail
        go_round
        case rel => exact ⟨k + 1, by omega, by go_num, by rw [HS.out]⟩
        case measure => simp [intOf]; omega
      · obtain rfl : k = m := by omega
        have hge : ¬ (k : Int) < (k : Int) := by omega
        go_wp2_with fail
        go_ret
        exact ⟨rfl, rfl⟩
end Go.Proofs.YtlnjphggfbiabaaGreat

/-
  The field with 256 elements: powers, Log, Inv.
-/
namespace Go.Proofs.YtlnjphggfbiabaaGreat
open Go.RowKit
set_option linter.unusedVariables false

/-- The table of powers after k entries. -/
def tabP (k : Nat) : Array Value := ((List.range 255).map fun j => if j < k then Value.int .u8 (powN j : Nat) else .int .u8 0).toArray
theorem tabP_size (k : Nat) : (tabP k).size = 255 := by simp [tabP]
theorem tabP_get (k j : Nat) (h : j < 255) : (tabP k)[j]? = some (if j < k then Value.int .u8 (powN j : Nat) else .int .u8 0) := by simp [tabP, h]
theorem tabP_set (k : Nat) : (tabP k).setIfInBounds k (.int .u8 (powN k : Nat)) = tabP (k + 1) := by
  apply Array.ext_getElem?
  intro i
  rw [Array.getElem?_setIfInBounds]
  by_cases hi : i < 255
  · rw [tabP_get (k + 1) i hi, tabP_get k i hi, tabP_size]
    by_cases e : k = i
    · subst e
      rw [if_pos rfl, if_pos hi, if_pos (by omega)]
    · rw [if_neg e]
      by_cases h2 : i < k
      · rw [if_pos h2, if_pos (by omega)]
      · rw [if_neg h2, if_neg (by omega)]
  · rw [Array.getElem?_eq_none (by rw [tabP_size]; omega), Array.getElem?_eq_none (by rw [tabP_size]; omega)]
    rw [tabP_size]
    split
    · split
      · omega
      · rfl
    · rfl
theorem tabP_one (k : Nat) : (tabP k).all (·.oneCell') = true := by
  simp only [tabP, List.all_toArray, List.all_map, List.all_eq_true]
  intro j _
  show Value.oneCell' (if j < k then _ else _) = true
  split <;> rfl
theorem info_tP : (Tryz.prog.info? 197).map (fun i => (i.zero, i.size)) = some (some (.agg (tabP 0)), 255) := by kernel_rfl
theorem size_tP (k : Nat) : (Tryz.prog.info? 197).map (·.size) = some (tabP k).size := by
  rw [tabP_size]
  kernel_rfl
set_option maxHeartbeats 1000000 in
theorem powers_any (w : World) : Calls Tryz.prog 134 #[] w fun e w' => e = .returned (.agg (tabP 255)) ∧ Below w.heap.size w w' := by
  have CD := Lib.hid (fun w' (a : Nat) (ha : a < 256) => double_any a w' ha)
  go_enter Tryz.func134, Tryz.ntmps134
  go_wp2_with (first
    | (refine wpList_alloc_abs (t := 197) info_tP rfl rfl ?_)
    | fail)
  have hr1 : RowAt ((w.alloc (.cells (tabP 0) 197)).alloc (.cells (tabP 0) 197)) w.heap.size 197 (tabP 0) := (RowAt.new _ _ _).alloc _
  have hr2 : RowAt ((w.alloc (.cells (tabP 0) 197)).alloc (.cells (tabP 0) 197)) (w.heap.size + 1) 197 (tabP 0) := by simpa using RowAt.new (w.alloc (.cells (tabP 0) 197)) 197 (tabP 0)
  have hb : Below w.heap.size w ((w.alloc (.cells (tabP 0) 197)).alloc (.cells (tabP 0) 197)) := ((Below.refl _ _).alloc (Nat.le_refl _) _).alloc (by simp) _
  go_loopw [2, 4] (fun a i wr => ∃ k : Nat, k ≤ 255 ∧ i = .int .i64 k ∧ a = .int .u8 (powN k : Nat) ∧ RowAt wr w.heap.size 197 (tabP 0) ∧ RowAt wr (w.heap.size + 1) 197 (tabP k) ∧ Below w.heap.size w wr) (fun _ i _ => 255 - (intOf i).toNat)
  case atStart => exact ⟨0, by omega, rfl, rfl, hr1, hr2, hb⟩
  case round =>
    clear hr1 hr2 hb
    obtain ⟨k, hk, rfl, rfl, hr1, hr2, hb⟩ := hrel
    by_cases hlt : k < 255
    · have hc := (hr2.cell k).trans (tabP_get k k hlt)
      rw [if_neg (by omega)] at hc
      have hf := hr2.frozen k
      have hlt' : (k : Int) < 255 := by omega
      have h0k : (0 : Int) ≤ (k : Int) := by omega
      have HS : Hid (powN (k + 1) = dblN (powN k)) := Lib.hid rfl
      have HT := Lib.hid (tabP_set k)
      have hp := powN_lt k
      generalize powN k = P at *
      go_wp2_with fail
      refine (CD.out _ P hp).mono ?_
      rintro e w1 ⟨rfl, rfl⟩
      go_wp2_with fail
      go_roundw
      case rel => exact ⟨k + 1, by omega, by go_num, by rw [HS.out], hr1.far (by show w.heap.size ≠ w.heap.size + 1; omega) _, by rw [← HT.out]; exact hr2.set_ _ _, hb.setCell (p := ⟨w.heap.size + 1, k, none⟩) (by simp) _⟩
      case measure => simp [intOf]; omega
    · obtain rfl : k = 255 := by omega
      go_wp2_with (first
        | (refine wpList_load_abs hr2 Tryz.underlying197 rfl (size_tP 255) rfl rfl (by rfl) ?_)
        | (refine wpList_store_abs hr1 (size_tP 255) (by rw [tabP_size, tabP_size]) (tabP_one 255) rfl rfl (by rfl) (by rfl) ?_; intro w2 hw2)
        | fail)
      have hr3 : RowAt w2 w.heap.size 197 (tabP 255) := by rw [hw2.out]; exact hr1.setRow _
      refine bodyPost_ret (results_cell_row rfl _ _ w.heap.size 197 (tabP 255) (0, 0) _ rfl hr3 Tryz.underlying197 rfl (size_tP 255)) rfl ⟨rfl, ?_⟩
      rw [hw2.out]
      exact Below.setRow hb (Nat.le_refl _) _
theorem index_tP (T : Array Value) (k : Nat) (v : Value) (w : World) (hk : k < 255) (hT : T[k]? = some v) : (Instr.index 197 (.agg T) (.int .i64 (k : Int))).run Tryz.prog w = .ok v w := by
  have hi : 0 ≤ (k : Int) ∧ (k : Int) < 255 := by omega
  simp [Instr.index, run_underlying Tryz.underlying197, asIntOf, hi, go_sem, part, isAgg, run_underlying Tryz.underlying5, hT]
  intro h
  omega
/-- What Log answers. -/
theorem logF_none {a : Nat} (h : ∀ j, j < 255 → powN j ≠ a) : logF a = none := by
  unfold logF
  rw [List.find?_eq_none]
  intro x hx
  have := h x (List.mem_range.1 hx)
  simpa using this
theorem logF_some {a k : Nat} (hk : k < 255) (h : ∀ j, j < k → powN j ≠ a) (he : powN k = a) : logF a = some k := by
  unfold logF
  rw [List.find?_range_eq_some]
  exact ⟨by simpa using he, List.mem_range.2 hk, fun j hj => by simpa using h j hj⟩
set_option maxRecDepth 100000 in
set_option maxHeartbeats 1000000 in
theorem log_any (a : Nat) (w : World) : Calls Tryz.prog 125 #[.int .u8 (a : Int)] w fun e w' => Below w.heap.size w w' ∧ ((logF a = none ∧ e = .returned (.tuple #[.int .i64 0, .int .i64 1])) ∨ ∃ k : Nat, k < 255 ∧ logF a = some k ∧ e = .returned (.tuple #[.int .i64 k, .int .i64 0])) := by
  go_enter Tryz.func125, Tryz.ntmps125
  go_wp2_with fail
  refine (powers_any w).mono ?_
  rintro e w1 ⟨rfl, hb1⟩
  have HB := Lib.hid hb1
  clear hb1
  obtain ⟨T, hT⟩ : ∃ T, tabP 255 = T := ⟨_, rfl⟩
  have HT : Hid (∀ j, j < 255 → T[j]? = some (.int .u8 (powN j : Nat))) := Lib.hid (fun j hj => by rw [← hT, tabP_get 255 j hj, if_pos hj])
  rw [hT]
  clear hT
  go_wp2_with fail
  go_loop [7] (fun i => ∃ k : Nat, k ≤ 255 ∧ i = .int .i64 k ∧ Hid (∀ j, j < k → powN j ≠ a)) (fun i => 255 - (intOf i).toNat)
  case atStart => exact ⟨0, by omega, rfl, Lib.hid (fun j hj => absurd hj (Nat.not_lt_zero _))⟩
  case round =>
    obtain ⟨k, hk, rfl, HN⟩ := hrel
    by_cases hlt : k < 255
    · have hq := fun w' => index_tP T k _ w' hlt (HT.out k hlt)
      have hlt' : (k : Int) < 255 := by omega
      have h0k : (0 : Int) ≤ (k : Int) := by omega
      by_cases he : powN k = a
      · have HL := Lib.hid (logF_some hlt HN.out he)
        rw [he] at hq
        clear he
        go_wp2_with fail
        go_ret2
        exact ⟨HB.out, .inr ⟨k, hlt, HL.out, rfl⟩⟩
      · have HN1 : Hid (∀ j, j < k + 1 → powN j ≠ a) := Lib.hid (fun j hj => by
          by_cases e : j = k
          · subst e; exact he
          · exact HN.out j (by omega))
        have heB : (((powN k : Nat) : Int) == (a : Int)) = false := by rw [beq_eq_false_iff_ne]; omega
        clear he
        generalize powN k = P at *
        go_wp2_with fail
        go_round
        case rel => exact ⟨k + 1, by omega, by go_num, HN1⟩
        case measure => simp [intOf]; omega
    · obtain rfl : k = 255 := by omega
      have HL := Lib.hid (logF_none HN.out)
      go_wp2_with fail
      go_ret2
      exact ⟨HB.out, .inl ⟨HL.out, rfl⟩⟩
/-- The inverse, 0 and an error for 0. -/
theorem inv_any (a : Nat) (w : World) : Calls Tryz.prog 107 #[.int .u8 (a : Int)] w fun e w' => Below w.heap.size w w' ∧ ∃ E : Int, e = .returned (.tuple #[.int .u8 ((invN a : Nat) : Int), .int .i64 E]) ∧ (E = 0 ↔ logF a ≠ none) := by
  go_enter Tryz.func107, Tryz.ntmps107
  go_wp2_with fail
  refine (log_any a w).mono ?_
  rintro e w1 ⟨hb1, (⟨hn, rfl⟩ | ⟨k, hk, hs, rfl⟩)⟩
  · have HI : Hid (invN a = 0) := Lib.hid (by unfold invN; rw [if_pos hn])
    have HN := Lib.hid hn
    clear hn
    go_wp2_with fail
    go_ret2
    exact ⟨hb1, 1, by rw [HI.out]; rfl, by simp [HN.out]⟩
  · have HI : Hid (invN a = expN (-(k : Int))) := Lib.hid (by unfold invN logN; rw [hs, if_neg (by simp)]; rfl)
    have HN := Lib.hid hs
    have C := Lib.hid (exp_any (-(k : Int)) w1 (by omega))
    clear hs
    go_wp2_with fail
    refine C.out.mono ?_
    rintro e w2 ⟨rfl, rfl⟩
    go_wp2_with fail
    go_ret2
    exact ⟨hb1, 0, by rw [HI.out]; rfl, by simp [HN.out]⟩
end Go.Proofs.YtlnjphggfbiabaaGreat
