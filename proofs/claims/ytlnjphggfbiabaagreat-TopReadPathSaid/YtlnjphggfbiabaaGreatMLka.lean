/-
  TopLinking: the plain law, and the walk behind coded.
-/
import Derived.Test.YtlnjphggfbiabaaGreatMPk
import Derived.Deep.CutRange
namespace Go.Proofs.YtlnjphggfbiabaaGreat
open Go.RowKit
set_option linter.unusedVariables false

/-- coded answers true. -/
def CodedOk : Prop := ∀ w : World, Calls Tryz.prog 5 #[] w fun e w' => e = .returned (.bool true) ∧ Below w.heap.size w w'
def encI (p : Int × Int) : List Value := [.int .i64 p.1, .int .i64 p.2]
theorem encI_length (p : Int × Int) : (encI p).length = 2 := rfl
theorem SlAt.pairI {w : World} {B : Nat} {l : List (Int × Int)} {b off : Nat} (h : SlAt w B (some ⟨b, off, none⟩) (flat encI l)) {k : Nat} {x : Int × Int} (hk : l[k]? = some x) :
    w.cell? ⟨b, off + k * 2, none⟩ = some (.int .i64 x.1) ∧ w.cell? ⟨b, off + k * 2 + 1, none⟩ = some (.int .i64 x.2) := by
  have c : ∀ j, j < 2 → ∀ u, (encI x)[j]? = some u → w.cell? ⟨b, off + (k * 2 + j), none⟩ = some u := fun j hj u hu => by
    obtain ⟨b', off', e, _, hc⟩ := h (k * 2 + j) u ((flat_get encI_length l k j x hk hj).trans hu)
    injection e with e
    injection e with e1 e2 _
    subst e1 e2
    exact hc
  refine ⟨c 0 (by omega) _ rfl, ?_⟩
  rw [Nat.add_assoc]
  exact c 1 (by omega) _ rfl
/-- A scratch within the link block of packet q. -/
def SOk (n count : Nat) (p : Nat × Nat) : Prop := ∃ q a c, q < count ∧ p = (q * (n + 7) * 98 + a, c) ∧ 1 ≤ c ∧ a + c ≤ 98
theorem SOk.fit {n count : Nat} {p : Nat × Nat} (h : SOk n count p) : 1 ≤ p.2 ∧ p.1 + p.2 ≤ 98 * (count * (n + 7)) + 108 := by
  obtain ⟨q, a, c, hq, rfl, h1, h2⟩ := h
  refine ⟨h1, ?_⟩
  have : q * (n + 7) ≤ count * (n + 7) := Nat.mul_le_mul_right _ (by omega)
  show q * (n + 7) * 98 + a + c ≤ _
  omega
/-- A frame that such a scratch is near to lies in the link block or in one of the two sectors ahead of it. -/
theorem near_kind {n count f : Nat} {p : Nat × Nat} (hn : 1 ≤ n) (h : SOk n count p) (h1 : p.1 ≤ f + 108) (h2 : f < p.1 + p.2) : kindOf (n : Int) (((f / 98) % (n + 7) : Nat) : Int) ≠ 2 := by
  obtain ⟨q, a, c, hq, rfl, h3, h4⟩ := h
  dsimp only at h1 h2
  generalize hM : q * (n + 7) = M at *
  have hs : f / 98 = M ∨ f / 98 + 1 = M ∨ f / 98 + 2 = M := by omega
  rcases hs with hs | hs | hs
  · rw [hs, ← hM, Nat.mul_mod_left]
    show kindOf (n : Int) 0 ≠ 2
    unfold kindOf
    rw [if_pos rfl]
    decide
  · have e : (f / 98) % (n + 7) = n + 6 := by
      have : q ≠ 0 := fun e => by subst e; omega
      obtain ⟨q, rfl⟩ := Nat.exists_eq_succ_of_ne_zero this
      have e2 : f / 98 = n + 6 + (n + 7) * q := by rw [Nat.succ_mul, Nat.mul_comm] at hM; omega
      rw [e2, Nat.add_mul_mod_self_left]; exact Nat.mod_eq_of_lt (by omega)
    rw [e]
    unfold kindOf
    rw [if_neg (by omega), if_neg (by omega), if_neg (by omega)]
    decide
  · have e : (f / 98) % (n + 7) = n + 5 := by
      have : q ≠ 0 := fun e => by subst e; omega
      obtain ⟨q, rfl⟩ := Nat.exists_eq_succ_of_ne_zero this
      have e2 : f / 98 = n + 5 + (n + 7) * q := by rw [Nat.succ_mul, Nat.mul_comm] at hM; omega
      rw [e2, Nat.add_mul_mod_self_left]; exact Nat.mod_eq_of_lt (by omega)
    rw [e]
    unfold kindOf
    rw [if_neg (by omega), if_neg (by omega), if_neg (by omega)]
    decide
theorem link_sectors (n count : Nat) (h1 : 1 ≤ n) (h2 : n ≤ 20) (h3 : 1 ≤ count) (h4 : count ≤ 3) : secV (n : Int) ((n * count : Nat) : Int) = ((count * (n + 7) : Nat) : Int) ∧ secE (n : Int) ((n * count : Nat) : Int) = 0 := by
  have hnc : n * count ≤ 20 * 3 := Nat.mul_le_mul h2 h4
  have hnn : numE (n : Int) ((n * count : Nat) : Int) = 0 := numE_ok (sizedB_of (by omega) (by omega)) (by omega)
  have e : secN (n : Int) ((n * count : Nat) : Int) = ((count * (n + 7) : Nat) : Int) := by
    unfold secN
    have e1 : ((n * count : Nat) : Int) + (n : Int) - 1 = ((n - 1 + n * count : Nat) : Int) := by omega
    rw [e1]
    have e2 : (((n - 1 + n * count : Nat) : Int) / (n : Int)) = ((count : Nat) : Int) := by
      rw [← Int.natCast_ediv, Nat.add_mul_div_left _ _ (by omega : 0 < n), Nat.div_eq_of_lt (by omega), Nat.zero_add]
    rw [e2]
    simp
  have hb : count * (n + 7) ≤ 3 * 27 := Nat.mul_le_mul h4 (by omega)
  unfold secV secE
  rw [if_pos hnn, if_pos hnn, e]
  exact ⟨by unfold bndV; rw [if_neg (by omega)], by unfold bndE; rw [if_neg (by omega)]⟩
theorem link_locate {n count k : Nat} {l : List (Nat × Nat)} (h1 : 1 ≤ n) (h2 : n ≤ 20) (h4 : count ≤ 3) (hl : ∀ p ∈ l, SOk n count p) (h : LostOk (98 * (count * (n + 7))) l k) :
    numE (n : Int) ((k / 2352 : Nat) : Int) = 0 ∧ ∃ kd x y, kd ≠ 2 ∧ locV (n : Int) ((k / 2352 : Nat) : Int) = .agg #[.int .i64 x, .int .i64 kd, .int .i64 y] := by
  obtain ⟨f, i, rfl, hi, hf, p, hp, h5, h6⟩ := h
  have e : (24 * f + i) / 2352 = f / 98 := by omega
  rw [e]
  have hb : count * (n + 7) ≤ 3 * 27 := Nat.mul_le_mul h4 (by omega)
  have hnn : numE (n : Int) ((f / 98 : Nat) : Int) = 0 := numE_ok (sizedB_of (by omega) (by omega)) (by omega)
  refine ⟨hnn, kindOf (n : Int) (((f / 98) % (n + 7) : Nat) : Int), ((f / 98 : Nat) : Int) / ((n : Int) + 7), idxOf (n : Int) (((f / 98) % (n + 7) : Nat) : Int), near_kind h1 (hl p hp) h5 h6, ?_⟩
  unfold locV
  rw [if_pos hnn]
  have e2 : ((f / 98 : Nat) : Int) % ((n : Int) + 7) = (((f / 98) % (n + 7) : Nat) : Int) := by
    rw [show (n : Int) + 7 = ((n + 7 : Nat) : Int) by omega]
    exact (Int.natCast_emod _ _).symm
  rw [e2]
  rfl
end Go.Proofs.YtlnjphggfbiabaaGreat

/-
  TopLinking: the walk behind coded.
-/
namespace Go.Proofs.YtlnjphggfbiabaaGreat
open Go.RowKit
set_option linter.unusedVariables false
theorem own_maxLen {w : World} {base e size n c : Nat} {A : Option Addr} {xs : List Value} (h : w.ownsRow base e size (.slice A n c) n xs) : n ≤ maxLen := by
  rcases h.2 with ⟨h, _⟩ | ⟨g, cap, cur, hv, hb, hh, hnc, hcm, r⟩
  · injection h with _ h2 _
    rw [h2]; exact Nat.zero_le _
  · exact Nat.le_trans hnc hcm
theorem info_scr : (Tryz.prog.info? 28).map (fun i => (i.zero, i.size, i.bytes)) = some (some (.agg #[.int .i64 0, .int .i64 0]), 2, 16) := by kernel_rfl
set_option maxRecDepth 100000 in
set_option maxHeartbeats 8000000 in
theorem linking_walk (hc : CodedOk) (a b : Nat) (ha : a < 256) (hb : b < 256) (A : Option Addr) (c0 : Nat) (xs : List (Int × Int)) (w : World) (hA : SlAt w w.heap.size A (flat encI xs)) (hlen : xs.length ≤ maxLen) :
    Calls Tryz.prog 3 #[.int .u8 (a : Int), .int .u8 (b : Int), .slice A xs.length c0] w fun e w' => e = .returned (.bool true) ∧ Below w.heap.size w w' := by
  have HC := Lib.hid (hc w)
  have HA := Lib.hid hA
  obtain ⟨m, hm⟩ : ∃ m, xs.length = m := ⟨_, rfl⟩
  have HM := Lib.hid hm
  rw [hm] at hlen ⊢
  clear hm hA hc
  by_cases hm8 : 8 < m
  · have hmI : (8 : Int) < (m : Int) := by omega
    go_enter Tryz.func3, Tryz.ntmps3
    go_wp2_with fail
    refine HC.out.mono ?_
    rintro e w1 ⟨rfl, hb1⟩
    have HB := Lib.hid hb1
    clear hb1
    go_wp2_with fail
    go_ret
    exact ⟨rfl, HB.out⟩
  · have hmI : ¬ (8 : Int) < (m : Int) := by omega
    go_enter Tryz.func3, Tryz.ntmps3
    go_wp2_with fail
    refine HC.out.mono ?_
    rintro e w1 ⟨rfl, hb1⟩
    have HB := Lib.hid hb1
    have HA0 := Lib.hid HA.out
    clear hb1 HC HA
    go_upto_region 5 with fail
    have t1 : Int.tmod (a : Int) 20 = ((a % 20 : Nat) : Int) := by rw [Int.tmod_eq_emod_of_nonneg (by omega)]; omega
    have t2 : Int.tmod (b : Int) 3 = ((b % 3 : Nat) : Int) := by rw [Int.tmod_eq_emod_of_nonneg (by omega)]; omega
    go_cut [7, 8] from 25 to 32 (fun x y wx => ∃ n count : Nat, x = .int .i64 (n : Int) ∧ y = .int .i64 (count : Int) ∧ wx = w1 ∧ 1 ≤ n ∧ n ≤ 20 ∧ 1 ≤ count ∧ count ≤ 3)
    case first =>
      go_wp2_with fail
      go_meet
      exact ⟨1 + a % 20, 1 + b % 3, by first | rfl | (congr 1; omega), by first | rfl | (congr 1; omega), rfl, by omega, by omega, by omega, by omega⟩
    case rest =>
      obtain ⟨n, count, rfl, rfl, rfl, hn1, hn2, hk1, hk2⟩ := hcut
      clear t1 t2 ha hb
      have hnc : n * count ≤ 20 * 3 := Nat.mul_le_mul hn2 hk2
      obtain ⟨hs1, hs2⟩ := link_sectors n count hn1 hn2 hk1 hk2
      have CS := Lib.hid (sectors_any (n : Int) ((n * count : Nat) : Int) wc)
      rw [hs1, hs2] at CS
      have e1 : ((n * count : Nat) : Int) = (n : Int) * (count : Int) := by simp
      have e2 : ((count * (n + 7) : Nat) : Int) = (count : Int) * ((n : Int) + 7) := by simp
      have hcn : count * (n + 7) ≤ 3 * 27 := Nat.mul_le_mul hk2 (by omega)
      rw [e1, e2] at CS
      have b1 : 0 ≤ (n : Int) * (count : Int) ∧ (n : Int) * (count : Int) ≤ 60 := by rw [← e1]; omega
      have b2 : 0 ≤ (count : Int) * ((n : Int) + 7) ∧ (count : Int) * ((n : Int) + 7) ≤ 81 := by rw [← e2]; omega
      obtain ⟨b3, b4⟩ := b1
      obtain ⟨b5, b6⟩ := b2
      have HE1 := Lib.hid e1
      have HE2 := Lib.hid e2
      clear e1 e2 hs1 hs2 hnc
      go_wp2_with fail
      refine CS.out.mono ?_
      rintro e w2 ⟨rfl, rfl⟩
      go_wp2_with fail
      go_loopw [11, 53] (fun v i wx => ∃ (k : Nat) (A' : Option Addr) (c' : Nat) (l : List (Nat × Nat)), k ≤ m ∧ i = .int .i64 (k : Int) ∧ v = .slice A' l.length c' ∧ wx.ownsRow w.heap.size 28 2 (.slice A' l.length c') l.length (flat encP l) ∧ Below w.heap.size w wx ∧ Hid (∀ p ∈ l, SOk n count p) ∧ l.length ≤ k) (fun _ i _ => m - (intOf i).toNat)
      case atStart => exact ⟨0, none, 0, [], by omega, rfl, rfl, World.ownsRow_nil _ _ _ _, HB.out, Lib.hid (fun x hx => (List.not_mem_nil hx).elim), by simp⟩
      case round =>
        obtain ⟨k, A1, c1, l, hk, rfl, rfl, hown, hbel, HOK, hll⟩ := hrel
        have HO := Lib.hid hown
        have HBE := Lib.hid hbel
        by_cases hkm : k < m
        · obtain ⟨x, hx⟩ : ∃ x, xs[k]? = some x := ⟨xs[k]'(by rw [HM.out]; exact hkm), List.getElem?_eq_getElem _⟩
          obtain ⟨b0, o0, hA0, hb0⟩ : ∃ b off, A = some ⟨b, off, none⟩ ∧ b < w.heap.size := by
            obtain ⟨b, off, hA, hb, _⟩ := SlAt.one HA0.out (by rw [flat_length encI_length, HM.out]; omega)
            exact ⟨b, off, hA, hb⟩
          subst hA0
          obtain ⟨q1, q2⟩ := (HA0.out.below hbel).pairI hx
          obtain ⟨x1, x2⟩ := x
          dsimp only at q1 q2
          have hkI : (k : Int) < (m : Int) := by omega
          have h0k : (0 : Int) ≤ (k : Int) := by omega
          have t3 : Int.tmod (k : Int) (count : Int) = ((k % count : Nat) : Int) := by rw [Int.tmod_eq_emod_of_nonneg (by omega)]; exact (Int.natCast_emod _ _).symm
          have hq := Nat.mod_lt k (by omega : 0 < count)
          generalize k % count = q at *
          have HQ := Lib.hid hq
          have b7 : 0 ≤ (q : Int) * ((n : Int) + 7) ∧ (q : Int) * ((n : Int) + 7) ≤ 81 := by
            have h1 : q * (n + 7) ≤ 3 * 27 := Nat.mul_le_mul (by omega) (by omega)
            rw [show (q : Int) * ((n : Int) + 7) = ((q * (n + 7) : Nat) : Int) by simp]
            omega
          obtain ⟨b7, b8⟩ := b7
          have hcz : ¬ (count : Int) = 0 := by omega
          have hkc : (0 : Int) ≤ (count : Int) := by omega
          clear hown hbel hx hq
          by_cases hx1 : x1 < 0
          · go_wp2_with fail
            go_roundw
            case rel => exact ⟨k + 1, A1, c1, l, by omega, by go_num, rfl, HO.out.alloc _, HBE.out.alloc HBE.out.size _, HOK, by omega⟩
            case measure => simp [intOf]; omega
          by_cases hx98 : x1 ≥ 98
          · go_wp2_with fail
            go_roundw
            case rel => exact ⟨k + 1, A1, c1, l, by omega, by go_num, rfl, HO.out.alloc _, HBE.out.alloc HBE.out.size _, HOK, by omega⟩
            case measure => simp [intOf]; omega
          by_cases hx2 : x2 < 1
          · go_wp2_with fail
            go_roundw
            case rel => exact ⟨k + 1, A1, c1, l, by omega, by go_num, rfl, HO.out.alloc _, HBE.out.alloc HBE.out.size _, HOK, by omega⟩
            case measure => simp [intOf]; omega
          obtain ⟨a1, rfl⟩ : ∃ a1 : Nat, x1 = (a1 : Int) := ⟨x1.toNat, by omega⟩
          obtain ⟨d1, rfl⟩ : ∃ d1 : Nat, x2 = (d1 : Int) := ⟨x2.toNat, by omega⟩
          by_cases hmn : (98 : Int) - (a1 : Int) < (d1 : Int)
          ·   skip
              skip
              have HEQ : Hid ([Value.int .i64 ((q : Int) * ((n : Int) + 7) * 98 + (a1 : Int)), Value.int .i64 (98 - (a1 : Int))] = encP (q * (n + 7) * 98 + a1, 98 - a1)) := Lib.hid (by unfold encP; dsimp only; first | rfl | (congr 1; · (congr 1; simp)) | (congr 1; · (congr 1; simp); · (congr 2; omega)))
              have HKN : Hid (∀ p ∈ l ++ [(q * (n + 7) * 98 + a1, 98 - a1)], SOk n count p) := Lib.hid (fun p hp => by
                rcases List.mem_append.1 hp with hp | hp
                · exact HOK.out p hp
                · rw [List.mem_singleton.1 hp]
                  exact ⟨q, a1, 98 - a1, HQ.out, rfl, by omega, by omega⟩)
              go_wp2_with (at_builtin; refine wpList_appNH (H := wr.heap.size + 1) (HO.out.alloc _) (by simp) info_scr Tryz.underlying22 rfl (by decide) (us := [.int .i64 ((q : Int) * ((n : Int) + 7) * 98 + (a1 : Int)), .int .i64 (98 - (a1 : Int))]) rfl (by unfold maxLen; omega) (by omega) (HBE.out.alloc HBE.out.size _).size (by intro u hu; simp only [List.mem_cons, List.not_mem_nil, or_false] at hu; rcases hu with rfl | rfl <;> rfl) rfl rfl (by rfl) (by rfl) ?_; intro v5 w6 hown6 hb6 hg6; have HB6 := Lib.hid ((HBE.out.alloc HBE.out.size (.cells #[.int .i64 (a1 : Int), .int .i64 (d1 : Int)] 28)).trans hb6); obtain ⟨A6, c6, hv6⟩ := own_slice hown6; subst hv6; have HO6 := Lib.hid hown6; clear hown6 hb6 hg6)
              go_roundw
              case rel =>
                have h9 := HO6.out
                rw [HEQ.out, ← flat_snoc, show l.length + 1 = (l ++ [(q * (n + 7) * 98 + a1, 98 - a1)]).length by rw [List.length_append]; rfl] at h9
                exact ⟨k + 1, A6, c6, l ++ [(q * (n + 7) * 98 + a1, 98 - a1)], by omega, by go_num, by rw [List.length_append]; rfl, h9, HB6.out, HKN, by rw [List.length_append]; show l.length + 1 ≤ k + 1; omega⟩
              case measure => simp [intOf]; omega
          ·   skip
              skip
              have HEQ : Hid ([Value.int .i64 ((q : Int) * ((n : Int) + 7) * 98 + (a1 : Int)), Value.int .i64 ((d1 : Int))] = encP (q * (n + 7) * 98 + a1, d1)) := Lib.hid (by unfold encP; dsimp only; first | rfl | (congr 1; · (congr 1; simp)) | (congr 1; · (congr 1; simp); · (congr 2; omega)))
              have HKN : Hid (∀ p ∈ l ++ [(q * (n + 7) * 98 + a1, d1)], SOk n count p) := Lib.hid (fun p hp => by
                rcases List.mem_append.1 hp with hp | hp
                · exact HOK.out p hp
                · rw [List.mem_singleton.1 hp]
                  exact ⟨q, a1, d1, HQ.out, rfl, by omega, by omega⟩)
              go_wp2_with (at_builtin; refine wpList_appNH (H := wr.heap.size + 1) (HO.out.alloc _) (by simp) info_scr Tryz.underlying22 rfl (by decide) (us := [.int .i64 ((q : Int) * ((n : Int) + 7) * 98 + (a1 : Int)), .int .i64 ((d1 : Int))]) rfl (by unfold maxLen; omega) (by omega) (HBE.out.alloc HBE.out.size _).size (by intro u hu; simp only [List.mem_cons, List.not_mem_nil, or_false] at hu; rcases hu with rfl | rfl <;> rfl) rfl rfl (by rfl) (by rfl) ?_; intro v5 w6 hown6 hb6 hg6; have HB6 := Lib.hid ((HBE.out.alloc HBE.out.size (.cells #[.int .i64 (a1 : Int), .int .i64 (d1 : Int)] 28)).trans hb6); obtain ⟨A6, c6, hv6⟩ := own_slice hown6; subst hv6; have HO6 := Lib.hid hown6; clear hown6 hb6 hg6)
              go_roundw
              case rel =>
                have h9 := HO6.out
                rw [HEQ.out, ← flat_snoc, show l.length + 1 = (l ++ [(q * (n + 7) * 98 + a1, d1)]).length by rw [List.length_append]; rfl] at h9
                exact ⟨k + 1, A6, c6, l ++ [(q * (n + 7) * 98 + a1, d1)], by omega, by go_num, by rw [List.length_append]; rfl, h9, HB6.out, HKN, by rw [List.length_append]; show l.length + 1 ≤ k + 1; omega⟩
              case measure => simp [intOf]; omega
        · obtain rfl : k = m := by omega
          have hkI : ¬ (k : Int) < (k : Int) := by omega
          clear hown hbel
          have hcn0 : 0 < count * (n + 7) := Nat.mul_pos (by omega) (by omega)
          obtain ⟨D, hD⟩ : ∃ D, 98 * (count * (n + 7)) = D := ⟨_, rfl⟩
          have CL := Lib.hid (lost_any D A1 c1 l wr (by omega) (by omega) (SlAt.of_own' HO.out (Nat.le_refl _)) (by omega) (fun p hp => by rw [← hD]; exact (HOK.out p hp).fit))
          have hDI : (D : Int) = 98 * ((count : Int) * ((n : Int) + 7)) := by rw [← HE2.out]; omega
          rw [hDI] at CL
          have HD := Lib.hid hD
          obtain ⟨ln, hln⟩ : ∃ ln, l.length = ln := ⟨_, rfl⟩
          rw [hln] at CL
          rw [hln]
          clear hDI hD hln
          go_wp2_with fail
          refine CL.out.mono ?_
          rintro e w3 ⟨hb3, A3, c3, out, rfl, ho3, hok3⟩
          have HB3 := Lib.hid (HBE.out.trans (hb3.mono HBE.out.size))
          have HO3 := Lib.hid (SlAt.of_own' ho3 (Nat.le_refl _))
          have HK3 := Lib.hid hok3
          obtain ⟨on, hon⟩ : ∃ on, out.length = on := ⟨_, rfl⟩
          have HON := Lib.hid hon
          have honm : on ≤ maxLen := by rw [← hon]; exact own_maxLen ho3
          unfold maxLen at honm
          rw [hon]
          clear hb3 ho3 hok3 hon CL HO HBE
          go_wp2_with fail
          clear b3 b4 b5 b6 hcn hcn0
          go_loopw [104] (fun i wx => ∃ (j : Nat), j ≤ on ∧ i = .int .i64 (j : Int) ∧ Below w.heap.size w wx ∧ SlAt wx wx.heap.size A3 (posV out)) (fun i _ => on - (intOf i).toNat)
          case atStart => exact ⟨0, by omega, rfl, HB3.out, HO3.out⟩
          case round =>
            clear HB3 HO3
            obtain ⟨j, hj, rfl, hbe, hs3⟩ := hrel
            have HBE := Lib.hid hbe
            have HS3 := Lib.hid hs3
            by_cases hjn : j < on
            · obtain ⟨x, hx⟩ : ∃ x, out[j]? = some x := ⟨out[j]'(by rw [HON.out]; exact hjn), List.getElem?_eq_getElem _⟩
              obtain ⟨eb, eo, hAe, heb⟩ := hs3.posAddr (by rw [HON.out]; omega)
              subst hAe
              have q5 := hs3.pos rfl hx
              obtain ⟨hz, kd, px, py, hkd, hlv⟩ := link_locate hn1 hn2 hk2 HOK.out (by rw [HD.out]; exact HK3.out x (List.mem_of_getElem? hx))
              have CLo := Lib.hid (fun w' => locate_any (n : Int) ((x / 2352 : Nat) : Int) w')
              have hxb := (numE_zero hz).2.2.2
              rw [hz, hlv] at CLo
              have t4 : Int.tdiv (x : Int) 2352 = ((x / 2352 : Nat) : Int) := by rw [Int.tdiv_eq_ediv_of_nonneg (by omega)]; omega
              have hjI : (j : Int) < (on : Int) := by omega
              have h0j : (0 : Int) ≤ (j : Int) := by omega
              have hkdB : (kd == 2) = false := by simpa using hkd
              clear hx hbe hs3 hz hlv
              go_wp2_with fail
              refine (CLo.out _).mono ?_
              rintro e w4 ⟨rfl, hb4⟩
              have HB4 := Lib.hid hb4
              clear hb4
              go_wp2_with fail
              go_roundw
              case rel => exact ⟨j + 1, by omega, by go_num, (HBE.out.trans (HB4.out.mono HBE.out.size)).alloc (by have h1 := HBE.out.size; have h2 := HB4.out.size; omega) _, ((HS3.out.below HB4.out).below ((Below.refl _ _).alloc HB4.out.size _)).mono (Nat.le_trans HB4.out.size (by simp))⟩
              case measure => simp [intOf]; omega
            · obtain rfl : j = on := by omega
              have hjI : ¬ (j : Int) < (j : Int) := by omega
              clear hbe hs3
              go_wp2_with fail
              go_ret
              exact ⟨rfl, HBE.out⟩
end Go.Proofs.YtlnjphggfbiabaaGreat
