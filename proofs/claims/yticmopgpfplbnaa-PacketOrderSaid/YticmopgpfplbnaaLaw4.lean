/-
  The walk of the law PacketOrder.
-/
import Derived.Test.YticmopgpfplbnaaLaw3
import Derived.Test.YticmopgpfplbnaaMem
namespace Go.Proofs.Yticmopgpfplbnaa
open Go.RowKit
set_option linter.unusedVariables false

theorem info_ps : (Try.prog.info? 27).map (fun i => (i.zero, i.size, i.bytes)) = some (some (.agg #[.int .i64 0, .int .i64 0, .int .i64 0]), 3, 24) := by kernel_rfl

/-- The cells of the place i of packet p of n user blocks. -/
def encP (p n : Int) (i : Nat) : List Value := [.int .i64 p, .int .i64 (kindOf n i), .int .i64 (idxOf n i)]
def wantL (p n : Int) (m : Nat) : List Value := flat (encP p n) (List.range m)
theorem wantL_succ (p n : Int) (m : Nat) : wantL p n (m + 1) = wantL p n m ++ encP p n m := by
  unfold wantL
  rw [List.range_succ, flat_snoc]
theorem encP_length (p n : Int) (i : Nat) : (encP p n i).length = 3 := rfl
theorem wantL_get (p n : Int) (m i j : Nat) (hi : i < m) (hj : j < 3) : (wantL p n m)[i * 3 + j]? = (encP p n i)[j]? :=
  flat_get (encP_length p n) _ i j i (by simp [hi]) hj

/-- How many sectors stand ahead of kind K, and how many the kind has. -/
def ahead (n K : Nat) : Nat := match K with | 0 => 0 | 1 => 1 | 2 => 5 | 3 => 5 + n | _ => 7 + n
def countOf (n K : Nat) : Nat := match K with | 0 => 1 | 1 => 4 | 2 => n | _ => 2
theorem encP_at (p : Int) (n K i : Nat) (hK : K < 4) (hi : i < countOf n K) : encP p n (ahead n K + i) = [.int .i64 p, .int .i64 K, .int .i64 i] := by
  have : K = 0 ∨ K = 1 ∨ K = 2 ∨ K = 3 := by omega
  unfold encP kindOf idxOf
  rcases this with rfl | rfl | rfl | rfl <;> simp only [ahead, countOf] at hi ⊢
  · obtain rfl : i = 0 := by omega
    rfl
  · rw [if_neg (by omega), if_pos (by omega), if_neg (by omega), if_pos (by omega)]
    congr 4; omega
  · rw [if_neg (by omega), if_neg (by omega), if_pos (by omega), if_neg (by omega), if_neg (by omega), if_pos (by omega)]
    congr 4; omega
  · rw [if_neg (by omega), if_neg (by omega), if_neg (by omega), if_neg (by omega), if_neg (by omega), if_neg (by omega)]
    congr 4; omega

set_option maxHeartbeats 4000000 in
theorem order_walk0 (a b : Int) (w : World) (ha0 : 0 ≤ a) (ha1 : a ≤ 255) (hb0 : 0 ≤ b) (hb1 : b ≤ 65535) (n : Nat) (hn : (n : Int) = 1 + a % 100) :
    Calls Try.prog 5 #[.int .u8 a, .int .u16 b] w fun e w' => e = .returned (.bool true) ∧ Below w.heap.size w w' := by
  have hn1 : 1 ≤ n := by omega
  have hn2 : n ≤ 100 := by omega
  have hp0 : 0 ≤ b % 4000 := by omega
  have hp1 : b % 4000 < 4000 := by omega
  have hn' : 1 + a % 100 = (n : Int) := hn.symm
  clear hn
  go_enter Try.func5, Try.ntmps5
  go_wp2_with (first
    | (go_at_call 10; refine (awake_any _).mono ?_; rintro e w1 ⟨rfl, hbw⟩)
    | fail)
  clear hn'
  generalize b % 4000 = p at *
  obtain ⟨wL, hwL⟩ : ∃ wL, wL = w1.alloc (Obj.cells #[Value.int .i64 1, Value.int .i64 4, Value.int .i64 n, Value.int .i64 2] 3) := ⟨_, rfl⟩
  rw [← hwL]
  have hsz : w1.heap.size < wL.heap.size := by rw [hwL]; simp
  have hLb : Below w.heap.size w wL := by rw [hwL]; exact hbw.alloc hbw.size _
  have hcells : ∀ K, K < 4 → wL.cell? ⟨w1.heap.size, K, none⟩ = some (.int .i64 (countOf n K)) := by
    intro K hK
    rw [hwL]
    have : K = 0 ∨ K = 1 ∨ K = 2 ∨ K = 3 := by omega
    rcases this with rfl | rfl | rfl | rfl <;> simp [countOf]
  have HC := Lib.hid hcells
  clear hcells hwL
  go_loopw [7, 27] (fun v i wr => ∃ K : Nat, K ≤ 4 ∧ i = .int .i64 K ∧ wr.ownsRow wL.heap.size 27 3 v (ahead n K) (wantL p n (ahead n K)) ∧ Below wL.heap.size wL wr) (fun _ i _ => 4 - (intOf i).toNat)
  case atStart => exact ⟨0, by omega, rfl, World.ownsRow_nil _ _ _ _, Below.refl _ _⟩
  case round =>
    obtain ⟨K, hK, rfl, hown, hb⟩ := hrel
    by_cases hlt : K < 4
    · have hcell := (hb.cell (p := ⟨w1.heap.size, K, none⟩) hsz).trans (HC.out K hlt)
      have hcnt : countOf n K ≤ 100 := by
        have : K = 0 ∨ K = 1 ∨ K = 2 ∨ K = 3 := by omega
        rcases this with rfl | rfl | rfl | rfl <;> simp only [countOf] <;> omega
      have hah : ahead n K ≤ 105 := by
        have : K = 0 ∨ K = 1 ∨ K = 2 ∨ K = 3 := by omega
        rcases this with rfl | rfl | rfl | rfl <;> simp only [ahead] <;> omega
      have HA := Lib.hid (show ahead n (K + 1) = ahead n K + countOf n K by
        have : K = 0 ∨ K = 1 ∨ K = 2 ∨ K = 3 := by omega
        rcases this with rfl | rfl | rfl | rfl <;> simp only [ahead, countOf] <;> omega)
      have HE := Lib.hid (fun i hi => encP_at p n K i hlt hi)
      generalize countOf n K = cnt at *
      have hltI : (K : Int) < 4 := by omega
      go_wp2_with fail
      obtain ⟨wo, rfl⟩ : ∃ wo : World, wo = wr := ⟨_, rfl⟩
      go_loopw [7, 33] (fun v i wr => ∃ k : Nat, k ≤ cnt ∧ i = .int .i64 k ∧ wr.ownsRow wL.heap.size 27 3 v (ahead n K + k) (wantL p n (ahead n K + k)) ∧ Below wL.heap.size wL wr) (fun _ i _ => cnt - (intOf i).toNat)
      case atStart => exact ⟨0, by omega, rfl, hown, hb⟩
      case round =>
        obtain ⟨k, hk, rfl, hown, hb⟩ := hrel
        by_cases hlt2 : k < cnt
        · go_wp2_with (at_builtin; refine wpList_appN hown info_ps Try.underlying32 rfl (by decide) (us := [.int .i64 p, .int .i64 K, .int .i64 k]) rfl (by unfold maxLen; omega) (by omega) hb.size (by intro u hu; simp at hu; rcases hu with rfl | rfl | rfl <;> rfl) rfl rfl (by rfl) (by rfl) ?_; intro v1 w2 hown2 hb2 _)
          go_roundw
          case rel => exact ⟨k + 1, by omega, by go_num, by rw [← Nat.add_assoc, wantL_succ, HE.out k hlt2]; exact hown2, hb.trans hb2⟩
          case measure => simp [intOf]; omega
        · obtain rfl : k = cnt := by omega
          go_wp2_with fail
          go_roundw
          case rel => exact ⟨K + 1, by omega, by go_num, by rw [HA.out]; exact hown, hb⟩
          case measure => simp [intOf]; omega
    · have hah : ahead n K = 7 + n := by obtain rfl : K = 4 := by omega
                                         rfl
      have hge : 4 ≤ (K : Int) := by omega
      rw [hah] at hown
      clear hah
      obtain ⟨g, cap, hv, hg1, hg2, hg3⟩ := own_form hown (by omega)
      subst hv
      go_wp2_with fail
      obtain ⟨wo, rfl⟩ : ∃ wo : World, wo = wr := ⟨_, rfl⟩
      go_loopw [47] (fun i wr => ∃ k : Nat, k ≤ 7 + n ∧ i = .int .i64 k ∧ wr.ownsRow wL.heap.size 27 3 (.slice (some ⟨g, 0, none⟩) (7 + n) cap) (7 + n) (wantL p n (7 + n)) ∧ Below w.heap.size w wr) (fun i _ => 7 + n - (intOf i).toNat)
      case atStart => exact ⟨0, by omega, rfl, hown, hLb.trans (hb.mono hLb.size)⟩
      case round =>
        obtain ⟨k, hk, rfl, hown, hb⟩ := hrel
        by_cases hlt2 : k < 7 + n
        · have hltI : (k : Int) < 7 + (n : Int) := by omega
          have hc0 := (hown.cellAt (k * 3) (by omega)).trans (wantL_get p n (7 + n) k 0 hlt2 (by omega))
          have hc1 := (hown.cellAt (k * 3 + 1) (by omega)).trans (wantL_get p n (7 + n) k 1 hlt2 (by omega))
          have hc2 := (hown.cellAt (k * 3 + 2) (by omega)).trans (wantL_get p n (7 + n) k 2 hlt2 (by omega))
          simp only [encP, List.getElem?_cons_zero, List.getElem?_cons_succ] at hc0 hc1 hc2
          have hq0 : 0 ≤ p * ((n : Int) + 7) := Int.mul_nonneg hp0 (by omega)
          have hq1 : p * ((n : Int) + 7) ≤ 428000 := by
            have := Int.mul_le_mul (show p ≤ 3999 by omega) (show (n : Int) + 7 ≤ 107 by omega) (by omega) (by omega)
            omega
          have hloc : ∀ w, Calls Try.prog 15 #[.int .i64 n, .int .i64 (p * ((n : Int) + 7) + k)] w fun e w' => e = .returned (.tuple #[.agg #[.int .i64 p, .int .i64 (kindOf n k), .int .i64 (idxOf n k)], .int .i64 0]) ∧ Below w.heap.size w w' := by
            intro w
            have := locate_any n (p * ((n : Int) + 7) + k) w
            have hE : numE n (p * ((n : Int) + 7) + k) = 0 := numE_ok (sizedB_of (by omega) (by omega)) (by omega)
            obtain ⟨d1, d2⟩ := div_mod_of p k ((n : Int) + 7) (by omega) (by omega)
            rw [locV, if_pos hE, hE, d1, d2] at this
            exact this
          have HL := Lib.hid hloc
          clear hloc
          generalize kindOf n k = kd at *
          generalize idxOf n k = ix at *
          go_wp2_with fail
          refine (HL.out _).mono ?_
          rintro e w3 ⟨rfl, hb3⟩
          obtain ⟨d0, d1, d2⟩ := keep3 hb3 (g := wr.heap.size) (a := .int .i64 p) (b := .int .i64 kd) (c := .int .i64 ix) (by simp) (by simp) (by simp) (by simp)
          have hs2 : wr.heap.size < w3.heap.size := by have := hb3.size; simp at this; omega
          go_wp2_with fail
          go_roundw
          case rel => exact ⟨k + 1, by omega, by go_num, (own_all (hown.alloc _) hb3).alloc _, ((hb.alloc hb.size _).trans (hb3.mono (by have := hb.size; simp; omega))).alloc (by have := hb.size; omega) _⟩
          case measure => simp [intOf]; omega
        · go_wp2_with fail
          go_ret
          exact ⟨rfl, hb⟩

theorem orderp_walk (a b : Int) (w : World) (w0 : (Lit.int .u8 a).wf = true) (w1 : (Lit.int .u16 b).wf = true) :
    Calls Try.prog 5 #[.int .u8 a, .int .u16 b] w fun e w' => e = .returned (.bool true) ∧ Below w.heap.size w w' := by
  obtain ⟨a0, a1⟩ := wf_u8 w0
  obtain ⟨b0, b1⟩ := wf_u16 w1
  exact order_walk0 a b w a0 a1 b0 b1 (1 + a % 100).toNat (by omega)
end Go.Proofs.Yticmopgpfplbnaa
