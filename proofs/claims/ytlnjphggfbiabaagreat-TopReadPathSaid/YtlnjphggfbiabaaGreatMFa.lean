/-
  productcode: the offsets of the words.
-/
import Derived.Test.YtlnjphggfbiabaaGreatMCc
import Derived.Test.YtlnjphggfbiabaaGreatMEc
namespace Go.Proofs.YtlnjphggfbiabaaGreat
open Go.RowKit
set_option linter.unusedVariables false

theorem offset_any (p k : Nat) (w : World) (hp : p ≤ 1) (hk : k ≤ 10000) : Calls Tryz.prog 118 #[.int .i64 (p : Int), .int .i64 (k : Int)] w fun e w' => e = .returned (.int .i64 ((12 + 2 * k + p : Nat) : Int)) ∧ w = w' := by
  have e1 : ((12 + 2 * k + p : Nat) : Int) = 12 + 2 * (k : Int) + (p : Int) := by omega
  rw [e1]
  clear e1
  go_enter Tryz.func118, Tryz.ntmps118
  go_wp2_with fail
  go_ret
  exact ⟨rfl, rfl⟩
theorem posV_one (l : List Nat) : ∀ u ∈ posV l, u.oneCell' = true := fun u hu => by
  obtain ⟨b, _, rfl⟩ := List.mem_map.1 hu
  rfl
def pwL (n : Nat) : List Nat := (List.range 26).map fun i => 12 + 2 * (n / 2 + 43 * i) + n % 2
def qwL (n : Nat) : List Nat := (List.range 43).map (fun i => 12 + 2 * ((44 * i + 43 * (n / 2)) % 1118) + n % 2) ++ [12 + 2 * (1118 + n / 2) + n % 2, 12 + 2 * (1144 + n / 2) + n % 2]
/-- A slice of places that is of the call's own. -/
def PosRes (L : List Nat) (w : World) (e : Ending) (w' : World) : Prop :=
  Below w.heap.size w w' ∧ ∃ A c, e = .returned (.tuple #[.slice A L.length c, .int .i64 0]) ∧ w'.ownsRow w.heap.size 3 1 (.slice A L.length c) L.length (posV L)
theorem range_take {α : Type} (f : Nat → α) (n k : Nat) (hk : k < n) : ((List.range n).map f).take (k + 1) = ((List.range n).map f).take k ++ [f k] := by
  rw [List.take_add_one, List.getElem?_map, List.getElem?_range hk]
  rfl
set_option maxRecDepth 100000 in
set_option maxHeartbeats 2000000 in
theorem pword_any (n : Nat) (w : World) (hn : n < 86) : Calls Tryz.prog 83 #[.int .i64 (n : Int)] w (PosRes (pwL n) w) := by
  have a1 : ¬ (n : Int) < 0 := by omega
  have a2 : ¬ (86 : Int) ≤ (n : Int) := by omega
  have d1 : Int.tmod (n : Int) 2 = ((n % 2 : Nat) : Int) := by rw [Int.tmod_eq_emod_of_nonneg (by omega)]; omega
  have d2 : Int.tdiv (n : Int) 2 = ((n / 2 : Nat) : Int) := by rw [Int.tdiv_eq_ediv_of_nonneg (by omega)]; omega
  have HL : Hid ((pwL n).length = 26) := Lib.hid (by simp [pwL])
  have HT : Hid (∀ k, k < 26 → (pwL n).take (k + 1) = (pwL n).take k ++ [12 + 2 * (n / 2 + 43 * k) + n % 2]) := Lib.hid (fun k hk => range_take _ 26 k hk)
  obtain ⟨r, hr⟩ : ∃ r, n % 2 = r := ⟨_, rfl⟩
  obtain ⟨q, hq⟩ : ∃ q, n / 2 = q := ⟨_, rfl⟩
  have hr1 : r ≤ 1 := by omega
  have hq1 : q ≤ 43 := by omega
  rw [hr] at d1 HT
  rw [hq] at d2 HT
  generalize pwL n = L at *
  clear hr hq hn
  unfold PosRes
  rw [HL.out]
  go_enter Tryz.func83, Tryz.ntmps83
  go_wp2_with fail
  go_loopw [4, 12] (fun v i wr => ∃ (k : Nat) (A : Option Addr) (c : Nat), k ≤ 26 ∧ i = .int .i64 (k : Int) ∧ v = .slice A k c ∧ wr.ownsRow w.heap.size 3 1 (.slice A k c) k (posV (L.take k)) ∧ Below w.heap.size w wr) (fun _ i _ => 26 - (intOf i).toNat)
  case atStart => exact ⟨0, none, 0, by omega, rfl, rfl, World.ownsRow_nil _ _ _ _, Below.refl _ _⟩
  case round =>
    obtain ⟨k, A, c, hk, rfl, rfl, hown, hbel⟩ := hrel
    by_cases hlt : k < 26
    · have hltI : (k : Int) < 26 := by omega
      have HO := Lib.hid hown
      have HB := Lib.hid hbel
      have hbs := hbel.size
      have C := Lib.hid (fun w' => offset_any r (q + 43 * k) w' hr1 (by omega))
      have e1 : ((q + 43 * k : Nat) : Int) = (q : Int) + 43 * (k : Int) := by omega
      rw [e1] at C
      have HT2 := Lib.hid (HT.out k hlt)
      generalize 12 + 2 * (q + 43 * k) + r = X at *
      clear hown hbel e1
      go_wp2_with (first
        | (go_at_call 118; refine (C.out _).mono ?_; rintro e w1 ⟨rfl, rfl⟩)
        | (at_builtin; refine wpList_app1 HO.out info_intp Tryz.underlying29 rfl (by unfold maxLen; omega) (by omega) hbs rfl rfl rfl (by rfl) (by rfl) ?_; intro v5 w6 hown6 hb6 hg6; obtain ⟨A6, c6, hv6⟩ := own_slice hown6; subst hv6; have HO6 := Lib.hid hown6; have HB6 := Lib.hid (HB.out.trans hb6); clear hown6 hb6 hg6))
      go_roundw
      case rel =>
        have h9 := HO6.out
        rw [posV_snoc, ← HT2.out] at h9
        exact ⟨k + 1, A6, c6, by omega, by go_num, rfl, h9, HB6.out⟩
      case measure => simp [intOf]; omega
    · obtain rfl : k = 26 := by omega
      have hge : ¬ (26 : Int) < 26 := by omega
      go_wp2_with fail
      go_ret2
      rw [List.take_of_length_le (by rw [HL.out]; exact Nat.le_refl _)] at hown
      exact ⟨hbel, A, c, rfl, hown⟩
set_option maxRecDepth 100000 in
set_option maxHeartbeats 4000000 in
theorem qword_any (n : Nat) (w : World) (hn : n < 52) : Calls Tryz.prog 84 #[.int .i64 (n : Int)] w (PosRes (qwL n) w) := by
  have a1 : ¬ (n : Int) < 0 := by omega
  have a2 : ¬ (52 : Int) ≤ (n : Int) := by omega
  have d1 : Int.tmod (n : Int) 2 = ((n % 2 : Nat) : Int) := by rw [Int.tmod_eq_emod_of_nonneg (by omega)]; omega
  have d2 : Int.tdiv (n : Int) 2 = ((n / 2 : Nat) : Int) := by rw [Int.tdiv_eq_ediv_of_nonneg (by omega)]; omega
  have HL : Hid ((qwL n).length = 45) := Lib.hid (by simp [qwL])
  obtain ⟨L0, hL0⟩ : ∃ L0, (List.range 43).map (fun i => 12 + 2 * ((44 * i + 43 * (n / 2)) % 1118) + n % 2) = L0 := ⟨_, rfl⟩
  have HL0 : Hid (L0.length = 43) := Lib.hid (by rw [← hL0]; simp)
  have HT : Hid (∀ k, k < 43 → L0.take (k + 1) = L0.take k ++ [12 + 2 * ((44 * k + 43 * (n / 2)) % 1118) + n % 2]) := Lib.hid (fun k hk => by rw [← hL0]; exact range_take _ 43 k hk)
  have HQ : Hid (qwL n = L0 ++ [12 + 2 * (1118 + n / 2) + n % 2, 12 + 2 * (1144 + n / 2) + n % 2]) := Lib.hid (by rw [← hL0]; rfl)
  obtain ⟨r, hr⟩ : ∃ r, n % 2 = r := ⟨_, rfl⟩
  obtain ⟨q, hq⟩ : ∃ q, n / 2 = q := ⟨_, rfl⟩
  have hr1 : r ≤ 1 := by omega
  have hq1 : q ≤ 26 := by omega
  rw [hr] at d1 HT HQ
  rw [hq] at d2 HT HQ
  generalize qwL n = L at *
  clear hr hq hn hL0
  unfold PosRes
  rw [HL.out]
  go_enter Tryz.func84, Tryz.ntmps84
  go_wp2_with fail
  go_loopw [4, 12] (fun v i wr => ∃ (k : Nat) (A : Option Addr) (c : Nat), k ≤ 43 ∧ i = .int .i64 (k : Int) ∧ v = .slice A k c ∧ wr.ownsRow w.heap.size 3 1 (.slice A k c) k (posV (L0.take k)) ∧ Below w.heap.size w wr) (fun _ i _ => 43 - (intOf i).toNat)
  case atStart => exact ⟨0, none, 0, by omega, rfl, rfl, World.ownsRow_nil _ _ _ _, Below.refl _ _⟩
  case round =>
    obtain ⟨k, A, c, hk, rfl, rfl, hown, hbel⟩ := hrel
    by_cases hlt : k < 43
    · have hltI : (k : Int) < 43 := by omega
      have HO := Lib.hid hown
      have HB := Lib.hid hbel
      have hbs := hbel.size
      obtain ⟨y, hy⟩ : ∃ y, (44 * k + 43 * q) % 1118 = y := ⟨_, rfl⟩
      have hy1 : y < 1118 := by omega
      have C := Lib.hid (fun w' => offset_any r y w' hr1 (by omega))
      have e1 : Int.tmod (44 * (k : Int) + 43 * (q : Int)) 1118 = (y : Int) := by rw [Int.tmod_eq_emod_of_nonneg (by omega)]; omega
      have HT2 := Lib.hid (HT.out k hlt)
      rw [hy] at HT2
      generalize 12 + 2 * y + r = X at *
      clear hown hbel hy
      go_wp2_with (first
        | (go_at_call 118; refine (C.out _).mono ?_; rintro e w1 ⟨rfl, rfl⟩)
        | (at_builtin; refine wpList_app1 HO.out info_intp Tryz.underlying29 rfl (by unfold maxLen; omega) (by omega) hbs rfl rfl rfl (by rfl) (by rfl) ?_; intro v5 w6 hown6 hb6 hg6; obtain ⟨A6, c6, hv6⟩ := own_slice hown6; subst hv6; have HO6 := Lib.hid hown6; have HB6 := Lib.hid (HB.out.trans hb6); clear hown6 hb6 hg6))
      go_roundw
      case rel =>
        have h9 := HO6.out
        rw [posV_snoc, ← HT2.out] at h9
        exact ⟨k + 1, A6, c6, by omega, by go_num, rfl, h9, HB6.out⟩
      case measure => simp [intOf]; omega
    · obtain rfl : k = 43 := by omega
      have hge : ¬ (43 : Int) < 43 := by omega
      rw [List.take_of_length_le (by rw [HL0.out]; exact Nat.le_refl _)] at hown
      have HO := Lib.hid hown
      have HB := Lib.hid hbel
      have hbs := hbel.size
      have C1 := Lib.hid (fun w' => offset_any r (1118 + q) w' hr1 (by omega))
      have C2 := Lib.hid (fun w' => offset_any r (1144 + q) w' hr1 (by omega))
      have e1 : ((1118 + q : Nat) : Int) = 1118 + (q : Int) := by omega
      have e2 : ((1144 + q : Nat) : Int) = 1144 + (q : Int) := by omega
      rw [e1] at C1
      rw [e2] at C2
      generalize 12 + 2 * (1118 + q) + r = X at *
      generalize 12 + 2 * (1144 + q) + r = Y at *
      have HNW : Hid (SlAt (wr.alloc (.cells #[.int .i64 (X : Int), .int .i64 (Y : Int)] 3)) (wr.heap.size + 1) (some ⟨wr.heap.size, 0, none⟩) (posV [X, Y])) := Lib.hid (fun j u hu => ⟨wr.heap.size, 0, rfl, Nat.lt_succ_self _, by rw [(RowAt.new wr 3 #[.int .i64 (X : Int), .int .i64 (Y : Int)]).cell, Nat.zero_add, List.getElem?_toArray]; exact hu⟩)
      clear hown hbel e1 e2
      go_wp2_with (first
        | (go_at_call 118; refine (C1.out _).mono ?_; rintro e w1 ⟨rfl, rfl⟩)
        | (go_at_call 118; refine (C2.out _).mono ?_; rintro e w1 ⟨rfl, rfl⟩)
        | (at_builtin; refine wpList_appX (m := 2) (news := posV [X, Y]) (HO.out.alloc _) info_intp Tryz.underlying29 rfl (by decide) rfl HNW.out (posV_one _) (by unfold maxLen; omega) (by omega) (by simp; omega) rfl rfl (by rfl) (by rfl) ?_; intro v6 w6 hown6 hg6 hv6; have HB6 : Hid (Below w.heap.size w w6) := Lib.hid ((HB.out.alloc hbs _).grown hg6 (by simp; omega) (fun k hk => (HO.out.lt k hk).1)); obtain ⟨A6, c6, hv6'⟩ := own_slice hown6; subst hv6'; have HO6 := Lib.hid hown6; clear hown6 hg6 hv6))
      go_ret2
      have h9 := HO6.out
      have e9 : posV L0 ++ posV [X, Y] = posV L := by rw [HQ.out]; simp [posV]
      rw [e9] at h9
      exact ⟨HB6.out, A6, c6, rfl, h9⟩
end Go.Proofs.YtlnjphggfbiabaaGreat
