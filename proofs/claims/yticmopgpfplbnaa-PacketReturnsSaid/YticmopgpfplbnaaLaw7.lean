/-
  The walk of the law PacketReturns.
-/
import Derived.Test.YticmopgpfplbnaaRetP
namespace Go.Proofs.Yticmopgpfplbnaa
open Go.RowKit
set_option linter.unusedVariables false

set_option maxRecDepth 100000 in
theorem returns_skip (n s : Int) (A : Option Addr) (c k : Nat) (w : World) (h : 20 < k ∨ (k ≤ 20 ∧ 40 < n ∧ n ≤ 1024)) :
    Calls Try.prog 9 #[.int .i64 n, .int .i64 s, .slice A k c] w fun e w' => e = .returned (.bool true) ∧ Below w.heap.size w w' := by
  rcases h with h | ⟨h1, h3, h4⟩
  · have h' : (20 : Int) < (k : Int) := by omega
    go_enter Try.func9, Try.ntmps9
    go_wp2_with fail
    refine (awake_any _).mono ?_
    rintro e w0 ⟨rfl, hb0⟩
    go_wp2_with fail
    go_ret
    exact ⟨rfl, hb0⟩
  · have h1' : (k : Int) ≤ 20 := by omega
    go_enter Try.func9, Try.ntmps9
    go_wp2_with fail
    refine (awake_any _).mono ?_
    rintro e w0 ⟨rfl, hb0⟩
    go_wp2_with fail
    go_ret
    exact ⟨rfl, hb0⟩

theorem rec_err {n s : Int} {ss : List ByteArray} (h : recOk n s ss = false) : recL n s ss = [] ∧ (recE n s ss = 1 ∨ recE n s ss = 2) := by
  refine ⟨if_neg (by simp [h]), ?_⟩
  unfold recE
  unfold recOk at h
  cases h1 : splitOk n ss with
  | false => exact .inl rfl
  | true =>
    rw [h1, Bool.true_and] at h
    rw [h]
    exact .inr rfl

set_option maxRecDepth 100000 in
theorem returns_err (n s : Int) (A : Option Addr) (c : Nat) (ss : List ByteArray) (w : World) (hs : SlAt w w.heap.size A (ss.map Value.string)) (hc : ss.length ≤ c) (hcm : c ≤ maxLen) (hz : ∀ s ∈ ss, s.size ≤ maxLen) (hs1 : -9223372036854775808 ≤ s) (hs2 : s ≤ 9223372036854775807)
    (hl1 : ss.length ≤ 20) (hn : n ≤ 40 ∨ (40 < n ∧ 1024 < n)) (h : recOk n s ss = false) :
    Calls Try.prog 9 #[.int .i64 n, .int .i64 s, .slice A ss.length c] w fun e w' => e = .returned (.bool true) ∧ Below w.heap.size w w' := by
  have C3 : Hid (∀ wx, Below w.heap.size w wx → Calls Try.prog 21 #[.int .i64 n, .int .i64 s, .slice A ss.length c] wx fun e w' => Below wx.heap.size wx w' ∧ ∃ A' c' E, (E = 1 ∨ E = 2) ∧ e = .returned (.tuple #[.slice A' 0 c', .int .i64 E])) := fun wx hb => by
    refine (rec_any n s A c ss wx ((hs.below hb).mono hb.size) (by omega) hc hcm hz hs1 hs2).mono ?_
    rintro e w' ⟨b, A', c', he, _⟩
    obtain ⟨h1, h2⟩ := rec_err h
    rw [h1] at he
    exact ⟨b, A', c', _, h2, he⟩
  have hl1' : (ss.length : Int) ≤ 20 := by omega
  obtain ⟨len1, e1⟩ : ∃ k, ss.length = k := ⟨_, rfl⟩
  rw [e1] at C3 hl1' ⊢
  clear hs hc hcm hz hl1 e1 h
  rcases hn with hn | ⟨hn, hn2⟩
  all_goals
    go_enter Try.func9, Try.ntmps9
    go_wp2_with fail
    refine (awake_any _).mono ?_
    rintro e w0 ⟨rfl, hb0⟩
    go_wp2_with fail
    refine (C3.out _ hb0).mono ?_
    rintro e w1 ⟨b1, A1, c1, E, hE, rfl⟩
    have B1 := belowC' b1 hb0
    rcases hE with rfl | rfl
    all_goals
      go_wp2_with fail
      go_ret
      exact ⟨rfl, B1⟩

set_option maxRecDepth 100000 in
set_option maxHeartbeats 8000000 in
theorem returns_go (N : Nat) (s : Int) (A : Option Addr) (c : Nat) (ss : List ByteArray) (w : World) (hs : SlAt w w.heap.size A (ss.map Value.string)) (hc : ss.length ≤ c) (hcm : c ≤ maxLen) (hz : ∀ s ∈ ss, s.size ≤ maxLen) (hs1 : -9223372036854775808 ≤ s) (hs2 : s ≤ 9223372036854775807)
    (hl1 : ss.length ≤ 20) (hN1 : 1 ≤ N) (hN2 : N ≤ 40) (hok : splitOk N ss = true) (hfit : recFit N s ss = true) :
    Calls Try.prog 9 #[.int .i64 N, .int .i64 s, .slice A ss.length c] w fun e w' => e = .returned (.bool true) ∧ Below w.heap.size w w' := by
  obtain ⟨f1, f2, f3⟩ := of_decide_eq_true hfit
  have hrO : recOk N s ss = true := by unfold recOk; rw [hok, hfit]; rfl
  obtain ⟨T, hT⟩ : ∃ T, recN N ss = T := ⟨_, rfl⟩
  obtain ⟨cnt, hcn⟩ : ∃ q, pkCount N ss.length = q := ⟨_, rfl⟩
  have hT2 : T = cnt * (N + 7) := by rw [← hT, ← hcn]; rfl
  have hcnt20 : cnt ≤ 20 := by rw [← hcn]; exact Nat.le_trans (pkCount_le hN1) hl1
  have hTle : T ≤ 940 := by rw [hT2]; exact Nat.mul_le_mul hcnt20 (show N + 7 ≤ 47 by omega)
  have hbl : blksOk ss = true := by
    unfold splitOk at hok
    simp only [Bool.and_eq_true] at hok
    exact hok.2
  have hL : recL N s ss = recUp N s ss T := by unfold recL; rw [if_pos hrO, hT]; rfl
  have hE : recE N s ss = 0 := by unfold recE; rw [if_pos hok, if_pos hfit]
  have C3 : Hid (∀ wx, Below w.heap.size w wx → Calls Try.prog 21 #[.int .i64 N, .int .i64 s, .slice A ss.length c] wx fun e w' => Below wx.heap.size wx w' ∧ ∃ A' c', e = .returned (.tuple #[.slice A' T c', .int .i64 0]) ∧ SlAt w' w'.heap.size A' (flat encS (recUp N s ss T))) := fun wx hb => by
    refine (rec_any N s A c ss wx ((hs.below hb).mono hb.size) (by omega) hc hcm hz hs1 hs2).mono ?_
    rintro e w' ⟨b, A', c', he, hsl⟩
    rw [hL, hE, recUp_length] at he
    rw [hL] at hsl
    exact ⟨b, A', c', he, hsl⟩
  have hsn : secN N ss.length = (T : Int) := by
    unfold secN
    rw [hT2, ← hcn]
    unfold pkCount
    rw [Int.natCast_mul, Int.natCast_ediv, Int.natCast_sub (by omega), Int.natCast_add, Int.natCast_add]
    rfl
  have hnum : numE (N : Int) (ss.length : Int) = 0 := numE_ok (sizedB_of (by omega) (by omega)) (by omega)
  have C4 : Hid (∀ wx, Calls Try.prog 11 #[.int .i64 N, .int .i64 ss.length] wx fun e w' => e = .returned (.tuple #[.int .i64 T, .int .i64 0]) ∧ wx = w') := fun wx => by
    have := sectors_any N ss.length wx
    rw [show secV N ss.length = (T : Int) by unfold secV bndV; rw [if_pos hnum, hsn, if_neg (by omega)], show secE N ss.length = 0 by unfold secE bndE; rw [if_pos hnum, hsn, if_neg (by omega)]] at this
    exact this
  obtain ⟨hcE, hcL⟩ := col_of_rec hok hfit
  rw [hT] at hcE hcL f3
  rw [hcn] at hcL
  have C5 : Hid (∀ wx A' c', SlAt wx wx.heap.size A' (flat encS (recUp N s ss T)) → Calls Try.prog 23 #[.int .i64 N, .slice A' T c'] wx fun e w' => Below wx.heap.size wx w' ∧ ∃ A2 c2, e = .returned (.tuple #[.slice A2 (cnt * N) c2, .int .i64 0]) ∧ SlAt w' w'.heap.size A2 (((List.range (cnt * N)).map fun i => ss[i]?.getD zeroBlk).map Value.string)) := fun wx A' c' hsl => by
    have h1 := col_any N A' c' (recUp N s ss T) wx hsl (by rw [recUp_length]; omega) (rec_in hbl f1 f3)
    rw [recUp_length] at h1
    refine h1.mono ?_
    rintro e w' ⟨b, A2, c2, he, hs2⟩
    rw [hcL, hcE, List.length_map, List.length_range] at he
    rw [hcL] at hs2
    exact ⟨b, A2, c2, he, hs2⟩
  have HSS := Lib.hid hs
  have HBL := Lib.hid hbl
  have hcl : ss.length ≤ cnt * N := by
    rcases Nat.lt_or_ge (cnt * N) ss.length with h | h
    · have := (count_lt (n := N) (len := ss.length) (r := cnt) hN1).2 h
      omega
    · exact h
  have HU : Hid (∀ i, userB N i = false → recD N ss (i / (N + 7)) (i % (N + 7)) = zeroBlk) := fun i h => recD_skip h
  have hl1' : (ss.length : Int) ≤ 20 := by omega
  have HZ := Lib.hid hz
  obtain ⟨len1, e1⟩ : ∃ k, ss.length = k := ⟨_, rfl⟩
  have HLEN := Lib.hid e1
  rw [e1] at C3 C4 hl1' hcl ⊢
  have hdiv : (T : Int) / ((N : Int) + 7) * (N : Int) = ((cnt * N : Nat) : Int) := by
    rw [hT2, show ((N : Int) + 7) = ((N + 7 : Nat) : Int) by omega, ← Int.natCast_ediv, Nat.mul_div_cancel _ (by omega), Int.natCast_mul]
  obtain ⟨M, hM⟩ : ∃ M, cnt * N = M := ⟨_, rfl⟩
  rw [hM] at C5 hcl hdiv
  have hM800 : M ≤ 800 := by rw [← hM]; exact Nat.mul_le_mul hcnt20 hN2
  have hdv0 : 0 ≤ (T : Int) / ((N : Int) + 7) := Int.ediv_nonneg (by omega) (by omega)
  have hdv1 : (T : Int) / ((N : Int) + 7) ≤ 940 := Int.le_trans (Int.ediv_le_self _ (by omega)) (by omega)
  have hdv2 : (T : Int) / ((N : Int) + 7) * (N : Int) ≤ 800 := by omega
  have hdv3 : 0 ≤ (T : Int) / ((N : Int) + 7) * (N : Int) := by omega
  have h7 : ¬ ((N : Int) + 7 = 0) := by omega
  have hcne : ((M : Int) != (T : Int) / ((N : Int) + 7) * (N : Int)) = false := by rw [bne_eq_false_iff_eq]; omega
  have hnn : ¬ (N : Int) < 1 := by omega
  have hcm1 : decide (M < len1) = false := decide_eq_false (by omega)
  clear hs hc hcm hz hl1 e1 hrO hT hcn hT2 hcnt20 hbl hL hE hsn hnum hcE hcL hok hfit hdiv hM
  go_enter Try.func9, Try.ntmps9
  go_wp2_with fail
  refine (awake_any _).mono ?_
  rintro e w0 ⟨rfl, hb0⟩
  go_wp2_with fail
  refine (C3.out _ hb0).mono ?_
  rintro e w1 ⟨b1, A1, c1, rfl, s1⟩
  have B1 := belowC' b1 hb0
  go_wp2_with fail
  refine (C4.out _).mono ?_
  rintro e w2 ⟨rfl, rfl⟩
  have S1 := Lib.hid s1
  clear s1
  go_wp2_with fail
  go_loopw [63] (fun i' wr => ∃ i : Nat, i ≤ T ∧ i' = .int .i64 i ∧ Below w1.heap.size w1 wr) (fun i' _ => T - (intOf i').toNat)
  case atStart => exact ⟨0, by omega, rfl, Below.refl _ _⟩
  case round =>
    obtain ⟨i, hi, rfl, hbel⟩ := hrel
    obtain ⟨wo, rfl⟩ : ∃ wo : World, wo = wr := ⟨_, rfl⟩
    by_cases hlt : i < T
    · have hx := recUp_get (N := N) (s := s) (ss := ss) (t := T) (i := i) hlt
      obtain ⟨b, off, hA, hb, hcell⟩ := S1.out.one (by rw [flat_length encS_length, recUp_length]; omega)
      subst hA
      obtain ⟨p0, p1, p2, p3, p4, p5, p6⟩ := sec_cells (S1.out.below hbel) rfl hx
      unfold recS at p0 p1 p2 p3 p4 p5 p6
      dsimp only at p0 p1 p2 p3 p4 p5 p6
      obtain ⟨d, hd⟩ : ∃ d, recD N ss (i / (N + 7)) (i % (N + 7)) = d := ⟨_, rfl⟩
      have hud : userB N i = false → d = zeroBlk := fun h => hd ▸ HU.out i h
      rw [hd] at p6
      have hltI : (i : Int) < (T : Int) := by omega
      have h0k : (0 : Int) ≤ (i : Int) := by omega
      obtain ⟨p, k, q, hloc, hnum, hku⟩ := loc_user (N := N) hN1 (by omega) (show i ≤ 449849 by omega)
      have CL := Lib.hid (fun w => locate_any N i w)
      rw [hloc, hnum] at CL
      have hbw : b < wo.heap.size := Nat.lt_of_lt_of_le hb hbel.size
      have HKU := Lib.hid hku
      have HUD := Lib.hid hud
      clear hx hcell hd hud hloc hnum hku
      go_wp2_with fail
      have h1 := (St.start wo).alloc #[.int .i64 (s + i), .int .i64 0, .int .i64 0, .int .i64 0, .int .i64 0, .int .i64 0, .string d] 53
      generalize wo.alloc (.cells #[.int .i64 (s + i), .int .i64 0, .int .i64 0, .int .i64 0, .int .i64 0, .int .i64 0, .string d] 53) = W1 at h1 ⊢
      refine (CL.out _).mono ?_
      rintro e w3 ⟨rfl, hb3⟩
      have h3 := (St.call hb3 h1).alloc #[.int .i64 p, .int .i64 k, .int .i64 q] 27
      clear h1 hb3 p0 p1 p2 p3 p4 p5 p6
      go_upto_region 15 with fail
      generalize (w3.alloc (.cells #[.int .i64 p, .int .i64 k, .int .i64 q] 27)) = W3 at *
      have es : IntKind.i64.wrap (s + (i : Int)) = s + (i : Int) := IntWalk.i64_in _ (by omega)
      go_cut [99] from 74 to 99 (fun r wx => r = .bool false ∧ Below wo.heap.size wo wx)
      case first =>
        cases hub : userB N i with
        | true =>
          have hk2 : (k != 2) = false := by rw [bne, HKU.out, hub]; rfl
          refine wp_region_held_drew (S := (fun w' => St wo w' [(w3.heap.size, 27, #[.int .i64 p, .int .i64 k, .int .i64 q]), (wo.heap.size, 53, #[.int .i64 (s + i), .int .i64 0, .int .i64 0, .int .i64 0, .int .i64 0, .int .i64 0, .string d])])) (by kernel_rfl) (h3.drew) (fun hHeld => ?_)
          refine wpAnyH_take (i := 0) (oi := ?o368) (v := ?v368) ?hi368 (by kernel_rfl) (by kernel_rfl) (by kernel_rfl) ?hq368 ?hy368 (by assumption) ?hr368
          case hi368 => (simp only [List.getElem?_toArray, List.getElem?_cons_zero]; rfl)
          case hy368 => ((refine .inl ⟨by rfl, ?_⟩); intro w hS; go_simp; (try with_reducible rfl))
          case hq368 => exact fun _ _ _ h => h
          (simp only [Act.put, List.setIfInBounds_toArray, List.set_cons_zero, List.set_cons_succ])
          refine wpAnyH_take (i := 1) (oi := ?o369) (v := ?v369) ?hi369 (by kernel_rfl) (by kernel_rfl) (by kernel_rfl) ?hq369 ?hy369 (by assumption) ?hr369
          case hi369 => (simp only [List.getElem?_toArray, List.getElem?_cons_succ, List.getElem?_cons_zero]; rfl)
          case hy369 => ((refine .inl ⟨by rfl, ?_⟩); intro w hS; go_simp; (try with_reducible rfl))
          case hq369 => exact fun _ _ _ h => h
          (simp only [Act.put, List.setIfInBounds_toArray, List.set_cons_zero, List.set_cons_succ])
          refine wpAnyH_take (i := 2) (oi := ?o370) (v := ?v370) ?hi370 (by kernel_rfl) (by kernel_rfl) (by kernel_rfl) ?hq370 ?hy370 (by assumption) ?hr370
          case hi370 => (simp only [List.getElem?_toArray, List.getElem?_cons_succ, List.getElem?_cons_zero]; rfl)
          case hy370 => ((refine .inl ⟨by rfl, ?_⟩); intro w hS; go_simp; (try with_reducible rfl))
          case hq370 => exact fun _ _ _ h => h
          (simp only [Act.put, List.setIfInBounds_toArray, List.set_cons_zero, List.set_cons_succ])
          refine wpAnyH_take (i := 3) (oi := ?o371) (v := ?v371) ?hi371 (by kernel_rfl) (by kernel_rfl) (by kernel_rfl) ?hq371 ?hy371 (by assumption) ?hr371
          case hi371 => (simp only [List.getElem?_toArray, List.getElem?_cons_succ, List.getElem?_cons_zero]; rfl)
          case hy371 => ((refine .inl ⟨by rfl, ?_⟩); intro w hS; go_simp; (try with_reducible rfl))
          case hq371 => exact fun _ _ _ h => h
          (simp only [Act.put, List.setIfInBounds_toArray, List.set_cons_zero, List.set_cons_succ])
          refine wpAnyH_take (i := 4) (oi := ?o372) (v := ?v372) ?hi372 (by kernel_rfl) (by kernel_rfl) (by kernel_rfl) ?hq372 ?hy372 (by assumption) ?hr372
          case hi372 => (simp only [List.getElem?_toArray, List.getElem?_cons_succ, List.getElem?_cons_zero]; rfl)
          case hy372 => ((refine .inl ⟨by rfl, ?_⟩); intro w hS; have q := (St.at hS (i := 1) rfl).cell; go_simp; (try with_reducible rfl))
          case hq372 => exact fun _ _ _ h => h
          (simp only [Act.put, List.setIfInBounds_toArray, List.set_cons_zero, List.set_cons_succ])
          refine wpAnyH_take (i := 5) (oi := ?o373) (v := ?v373) ?hi373 (by kernel_rfl) (by kernel_rfl) (by kernel_rfl) ?hq373 ?hy373 (by assumption) ?hr373
          case hi373 => (simp only [List.getElem?_toArray, List.getElem?_cons_succ, List.getElem?_cons_zero]; rfl)
          case hy373 => ((refine .inl ⟨by rfl, ?_⟩); intro w hS; go_simp; (try with_reducible rfl))
          case hq373 => exact fun _ _ _ h => h
          (simp only [Act.put, List.setIfInBounds_toArray, List.set_cons_zero, List.set_cons_succ])
          refine wpAnyH_take (i := 6) (oi := ?o374) (v := ?v374) ?hi374 (by kernel_rfl) (by kernel_rfl) (by kernel_rfl) ?hq374 ?hy374 (by assumption) ?hr374
          case hi374 => (simp only [List.getElem?_toArray, List.getElem?_cons_succ, List.getElem?_cons_zero]; rfl)
          case hy374 => ((refine .inl ⟨by rfl, ?_⟩); intro w hS; go_simp; (try with_reducible rfl))
          case hq374 => exact fun _ _ _ h => h
          (simp only [Act.put, List.setIfInBounds_toArray, List.set_cons_zero, List.set_cons_succ])
          refine wpAnyH_take (i := 7) (oi := ?o375) (v := ?v375) ?hi375 (by kernel_rfl) (by kernel_rfl) (by kernel_rfl) ?hq375 ?hy375 (by assumption) ?hr375
          case hi375 => (simp only [List.getElem?_toArray, List.getElem?_cons_succ, List.getElem?_cons_zero]; rfl)
          case hy375 => ((refine .inl ⟨by rfl, ?_⟩); intro w hS; go_simp; (try with_reducible rfl))
          case hq375 => exact fun _ _ _ h => h
          (simp only [Act.put, List.setIfInBounds_toArray, List.set_cons_zero, List.set_cons_succ])
          refine wpAnyH_take (i := 8) (oi := ?o376) (v := ?v376) ?hi376 (by kernel_rfl) (by kernel_rfl) (by kernel_rfl) ?hq376 ?hy376 (by assumption) ?hr376
          case hi376 => (simp only [List.getElem?_toArray, List.getElem?_cons_succ, List.getElem?_cons_zero]; rfl)
          case hy376 => ((refine .inl ⟨by rfl, ?_⟩); intro w hS; go_simp; (try with_reducible rfl))
          case hq376 => exact fun _ _ _ h => h
          (simp only [Act.put, List.setIfInBounds_toArray, List.set_cons_zero, List.set_cons_succ])
          refine wpAnyH_take (i := 9) (oi := ?o377) (v := ?v377) ?hi377 (by kernel_rfl) (by kernel_rfl) (by kernel_rfl) ?hq377 ?hy377 (by assumption) ?hr377
          case hi377 => (simp only [List.getElem?_toArray, List.getElem?_cons_succ, List.getElem?_cons_zero]; rfl)
          case hy377 => ((refine .inl ⟨by rfl, ?_⟩); intro w hS; go_simp; (try with_reducible rfl))
          case hq377 => exact fun _ _ _ h => h
          (simp only [Act.put, List.setIfInBounds_toArray, List.set_cons_zero, List.set_cons_succ])
          refine wpAnyH_take (i := 10) (oi := ?o378) (v := ?v378) ?hi378 (by kernel_rfl) (by kernel_rfl) (by kernel_rfl) ?hq378 ?hy378 (by assumption) ?hr378
          case hi378 => (simp only [List.getElem?_toArray, List.getElem?_cons_succ, List.getElem?_cons_zero]; rfl)
          case hy378 => ((refine .inl ⟨by rfl, ?_⟩); intro w hS; go_simp; (try with_reducible rfl))
          case hq378 => exact fun _ _ _ h => h
          (simp only [Act.put, List.setIfInBounds_toArray, List.set_cons_zero, List.set_cons_succ])
          refine wpAnyH_take (i := 11) (oi := ?o379) (v := ?v379) ?hi379 (by kernel_rfl) (by kernel_rfl) (by kernel_rfl) ?hq379 ?hy379 (by assumption) ?hr379
          case hi379 => (simp only [List.getElem?_toArray, List.getElem?_cons_succ, List.getElem?_cons_zero]; rfl)
          case hy379 => ((refine .inl ⟨by rfl, ?_⟩); intro w hS; go_simp; (try with_reducible rfl))
          case hq379 => exact fun _ _ _ h => h
          (simp only [Act.put, List.setIfInBounds_toArray, List.set_cons_zero, List.set_cons_succ])
          refine wpAnyH_take (i := 12) (oi := ?o380) (v := ?v380) ?hi380 (by kernel_rfl) (by kernel_rfl) (by kernel_rfl) ?hq380 ?hy380 (by assumption) ?hr380
          case hi380 => (simp only [List.getElem?_toArray, List.getElem?_cons_succ, List.getElem?_cons_zero]; rfl)
          case hy380 => ((refine .inl ⟨by rfl, ?_⟩); intro w hS; have q := (St.at hS (i := 1) rfl).cell; go_simp; (try with_reducible rfl))
          case hq380 => exact fun _ _ _ h => h
          (simp only [Act.put, List.setIfInBounds_toArray, List.set_cons_zero, List.set_cons_succ])
          refine wpAnyH_take (i := 13) (oi := ?o381) (v := ?v381) ?hi381 (by kernel_rfl) (by kernel_rfl) (by kernel_rfl) ?hq381 ?hy381 (by assumption) ?hr381
          case hi381 => (simp only [List.getElem?_toArray, List.getElem?_cons_succ, List.getElem?_cons_zero]; rfl)
          case hy381 => ((refine .inl ⟨by rfl, ?_⟩); intro w hS; go_simp; (try with_reducible rfl))
          case hq381 => exact fun _ _ _ h => h
          (simp only [Act.put, List.setIfInBounds_toArray, List.set_cons_zero, List.set_cons_succ])
          refine wpAnyH_take (i := 14) (oi := ?o382) (v := ?v382) ?hi382 (by kernel_rfl) (by kernel_rfl) (by kernel_rfl) ?hq382 ?hy382 (by assumption) ?hr382
          case hi382 => (simp only [List.getElem?_toArray, List.getElem?_cons_succ, List.getElem?_cons_zero]; rfl)
          case hy382 => ((refine .inl ⟨by rfl, ?_⟩); intro w hS; go_simp; (try with_reducible rfl))
          case hq382 => exact fun _ _ _ h => h
          (simp only [Act.put, List.setIfInBounds_toArray, List.set_cons_zero, List.set_cons_succ])
          refine wpAnyH_take (i := 15) (oi := ?o383) (v := ?v383) ?hi383 (by kernel_rfl) (by kernel_rfl) (by kernel_rfl) ?hq383 ?hy383 (by assumption) ?hr383
          case hi383 => (simp only [List.getElem?_toArray, List.getElem?_cons_succ, List.getElem?_cons_zero]; rfl)
          case hy383 => ((refine .inl ⟨by rfl, ?_⟩); intro w hS; go_simp; (try with_reducible rfl))
          case hq383 => exact fun _ _ _ h => h
          (simp only [Act.put, List.setIfInBounds_toArray, List.set_cons_zero, List.set_cons_succ])
          refine wpAnyH_take (i := 16) (oi := ?o384) (v := ?v384) ?hi384 (by kernel_rfl) (by kernel_rfl) (by kernel_rfl) ?hq384 ?hy384 (by assumption) ?hr384
          case hi384 => (simp only [List.getElem?_toArray, List.getElem?_cons_succ, List.getElem?_cons_zero]; rfl)
          case hy384 => ((refine .inl ⟨by rfl, ?_⟩); intro w hS; go_simp; (try with_reducible rfl))
          case hq384 => exact fun _ _ _ h => h
          (simp only [Act.put, List.setIfInBounds_toArray, List.set_cons_zero, List.set_cons_succ])
          refine wpAnyH_take (i := 17) (oi := ?o385) (v := ?v385) ?hi385 (by kernel_rfl) (by kernel_rfl) (by kernel_rfl) ?hq385 ?hy385 (by assumption) ?hr385
          case hi385 => (simp only [List.getElem?_toArray, List.getElem?_cons_succ, List.getElem?_cons_zero]; rfl)
          case hy385 => ((refine .inl ⟨by rfl, ?_⟩); intro w hS; have q := (St.at hS (i := 0) rfl).cell; go_simp; (try with_reducible rfl))
          case hq385 => exact fun _ _ _ h => h
          (simp only [Act.put, List.setIfInBounds_toArray, List.set_cons_zero, List.set_cons_succ])
          refine wpAnyH_take (i := 18) (oi := ?o386) (v := ?v386) ?hi386 (by kernel_rfl) (by kernel_rfl) (by kernel_rfl) ?hq386 ?hy386 (by assumption) ?hr386
          case hi386 => (simp only [List.getElem?_toArray, List.getElem?_cons_succ, List.getElem?_cons_zero]; rfl)
          case hy386 => ((refine .inl ⟨by rfl, ?_⟩); intro w hS; go_simp; (try with_reducible rfl))
          case hq386 => exact fun _ _ _ h => h
          (simp only [Act.put, List.setIfInBounds_toArray, List.set_cons_zero, List.set_cons_succ])
          refine wpAnyH_take (i := 19) (oi := ?o387) (v := ?v387) ?hi387 (by kernel_rfl) (by kernel_rfl) (by kernel_rfl) ?hq387 ?hy387 (by assumption) ?hr387
          case hi387 => (simp only [List.getElem?_toArray, List.getElem?_cons_succ, List.getElem?_cons_zero]; rfl)
          case hy387 => ((refine .inl ⟨by rfl, ?_⟩); intro w hS; go_simp; (try with_reducible rfl))
          case hq387 => exact fun _ _ _ h => h
          (simp only [Act.put, List.setIfInBounds_toArray, List.set_cons_zero, List.set_cons_succ])
          refine wpAnyH_take (i := 20) (oi := ?o388) (v := undef) ?hi388 (by kernel_rfl) (by kernel_rfl) (by kernel_rfl) ?hq388 ?hy388 (by assumption) ?hr388
          case hi388 => (simp only [List.getElem?_toArray, List.getElem?_cons_succ, List.getElem?_cons_zero]; rfl)
          case hy388 => exact .inr ⟨by rfl, rfl⟩
          case hq388 => exact fun _ _ _ h => h
          (simp only [Act.put, List.setIfInBounds_toArray, List.set_cons_zero, List.set_cons_succ])
          refine wpAnyH_take (i := 21) (oi := ?o389) (v := undef) ?hi389 (by kernel_rfl) (by kernel_rfl) (by kernel_rfl) ?hq389 ?hy389 (by assumption) ?hr389
          case hi389 => (simp only [List.getElem?_toArray, List.getElem?_cons_succ, List.getElem?_cons_zero]; rfl)
          case hy389 => exact .inr ⟨by rfl, rfl⟩
          case hq389 => exact fun _ _ _ h => h
          (simp only [Act.put, List.setIfInBounds_toArray, List.set_cons_zero, List.set_cons_succ])
          refine wpAnyH_take (i := 22) (oi := ?o390) (v := undef) ?hi390 (by kernel_rfl) (by kernel_rfl) (by kernel_rfl) ?hq390 ?hy390 (by assumption) ?hr390
          case hi390 => (simp only [List.getElem?_toArray, List.getElem?_cons_succ, List.getElem?_cons_zero]; rfl)
          case hy390 => exact .inr ⟨by rfl, rfl⟩
          case hq390 => exact fun _ _ _ h => h
          (simp only [Act.put, List.setIfInBounds_toArray, List.set_cons_zero, List.set_cons_succ])
          refine wpAnyH_take (i := 23) (oi := ?o391) (v := undef) ?hi391 (by kernel_rfl) (by kernel_rfl) (by kernel_rfl) ?hq391 ?hy391 (by assumption) ?hr391
          case hi391 => (simp only [List.getElem?_toArray, List.getElem?_cons_succ, List.getElem?_cons_zero]; rfl)
          case hy391 => exact .inr ⟨by rfl, rfl⟩
          case hq391 => exact fun _ _ _ h => h
          (simp only [Act.put, List.setIfInBounds_toArray, List.set_cons_zero, List.set_cons_succ])
          refine wpAnyH_take (i := 24) (oi := ?o392) (v := ?v392) ?hi392 (by kernel_rfl) (by kernel_rfl) (by kernel_rfl) ?hq392 ?hy392 (by assumption) ?hr392
          case hi392 => (simp only [List.getElem?_toArray, List.getElem?_cons_succ, List.getElem?_cons_zero]; rfl)
          case hy392 => ((refine .inl ⟨by rfl, ?_⟩); intro w hS; go_simp; (try with_reducible rfl))
          case hq392 => exact fun _ _ _ h => h
          (simp only [Act.put, List.setIfInBounds_toArray, List.set_cons_zero, List.set_cons_succ])
          refine wpAnyH_take (i := 25) (oi := ?o393) (v := ?v393) ?hi393 (by kernel_rfl) (by kernel_rfl) (by kernel_rfl) ?hq393 ?hy393 (by assumption) ?hr393
          case hi393 => (simp only [List.getElem?_toArray, List.getElem?_cons_succ, List.getElem?_cons_zero]; rfl)
          case hy393 => ((refine .inl ⟨by rfl, ?_⟩); intro w hS; go_simp; (try with_reducible rfl))
          case hq393 => exact fun _ _ _ h => h
          (simp only [Act.put, List.setIfInBounds_toArray, List.set_cons_zero, List.set_cons_succ])
          refine wpAnyH_done (by kernel_rfl) ?_ _
          go_wp2_with fail
          go_meet
          exact ⟨rfl, hHeld.bel⟩
        | false =>
          have hk2 : (k != 2) = true := by rw [bne, HKU.out, hub]; rfl
          have hdz := HUD.out hub
          subst hdz
          refine wp_region_held_drew (S := (fun w' => St wo w' [(w3.heap.size, 27, #[.int .i64 p, .int .i64 k, .int .i64 q]), (wo.heap.size, 53, #[.int .i64 (s + i), .int .i64 0, .int .i64 0, .int .i64 0, .int .i64 0, .int .i64 0, .string zeroBlk])])) (by kernel_rfl) (h3.drew) (fun hHeld => ?_)
          refine wpAnyH_take (i := 0) (oi := ?o394) (v := ?v394) ?hi394 (by kernel_rfl) (by kernel_rfl) (by kernel_rfl) ?hq394 ?hy394 (by assumption) ?hr394
          case hi394 => (simp only [List.getElem?_toArray, List.getElem?_cons_zero]; rfl)
          case hy394 => ((refine .inl ⟨by rfl, ?_⟩); intro w hS; go_simp; (try with_reducible rfl))
          case hq394 => exact fun _ _ _ h => h
          (simp only [Act.put, List.setIfInBounds_toArray, List.set_cons_zero, List.set_cons_succ])
          refine wpAnyH_take (i := 1) (oi := ?o395) (v := ?v395) ?hi395 (by kernel_rfl) (by kernel_rfl) (by kernel_rfl) ?hq395 ?hy395 (by assumption) ?hr395
          case hi395 => (simp only [List.getElem?_toArray, List.getElem?_cons_succ, List.getElem?_cons_zero]; rfl)
          case hy395 => ((refine .inl ⟨by rfl, ?_⟩); intro w hS; go_simp; (try with_reducible rfl))
          case hq395 => exact fun _ _ _ h => h
          (simp only [Act.put, List.setIfInBounds_toArray, List.set_cons_zero, List.set_cons_succ])
          refine wpAnyH_take (i := 2) (oi := ?o396) (v := ?v396) ?hi396 (by kernel_rfl) (by kernel_rfl) (by kernel_rfl) ?hq396 ?hy396 (by assumption) ?hr396
          case hi396 => (simp only [List.getElem?_toArray, List.getElem?_cons_succ, List.getElem?_cons_zero]; rfl)
          case hy396 => ((refine .inl ⟨by rfl, ?_⟩); intro w hS; go_simp; (try with_reducible rfl))
          case hq396 => exact fun _ _ _ h => h
          (simp only [Act.put, List.setIfInBounds_toArray, List.set_cons_zero, List.set_cons_succ])
          refine wpAnyH_take (i := 3) (oi := ?o397) (v := ?v397) ?hi397 (by kernel_rfl) (by kernel_rfl) (by kernel_rfl) ?hq397 ?hy397 (by assumption) ?hr397
          case hi397 => (simp only [List.getElem?_toArray, List.getElem?_cons_succ, List.getElem?_cons_zero]; rfl)
          case hy397 => ((refine .inl ⟨by rfl, ?_⟩); intro w hS; go_simp; (try with_reducible rfl))
          case hq397 => exact fun _ _ _ h => h
          (simp only [Act.put, List.setIfInBounds_toArray, List.set_cons_zero, List.set_cons_succ])
          refine wpAnyH_take (i := 4) (oi := ?o398) (v := ?v398) ?hi398 (by kernel_rfl) (by kernel_rfl) (by kernel_rfl) ?hq398 ?hy398 (by assumption) ?hr398
          case hi398 => (simp only [List.getElem?_toArray, List.getElem?_cons_succ, List.getElem?_cons_zero]; rfl)
          case hy398 => ((refine .inl ⟨by rfl, ?_⟩); intro w hS; have q := (St.at hS (i := 1) rfl).cell; go_simp; (try with_reducible rfl))
          case hq398 => exact fun _ _ _ h => h
          (simp only [Act.put, List.setIfInBounds_toArray, List.set_cons_zero, List.set_cons_succ])
          refine wpAnyH_take (i := 5) (oi := ?o399) (v := ?v399) ?hi399 (by kernel_rfl) (by kernel_rfl) (by kernel_rfl) ?hq399 ?hy399 (by assumption) ?hr399
          case hi399 => (simp only [List.getElem?_toArray, List.getElem?_cons_succ, List.getElem?_cons_zero]; rfl)
          case hy399 => ((refine .inl ⟨by rfl, ?_⟩); intro w hS; go_simp; (try with_reducible rfl))
          case hq399 => exact fun _ _ _ h => h
          (simp only [Act.put, List.setIfInBounds_toArray, List.set_cons_zero, List.set_cons_succ])
          refine wpAnyH_take (i := 6) (oi := ?o400) (v := ?v400) ?hi400 (by kernel_rfl) (by kernel_rfl) (by kernel_rfl) ?hq400 ?hy400 (by assumption) ?hr400
          case hi400 => (simp only [List.getElem?_toArray, List.getElem?_cons_succ, List.getElem?_cons_zero]; rfl)
          case hy400 => ((refine .inl ⟨by rfl, ?_⟩); intro w hS; go_simp; (try with_reducible rfl))
          case hq400 => exact fun _ _ _ h => h
          (simp only [Act.put, List.setIfInBounds_toArray, List.set_cons_zero, List.set_cons_succ])
          refine wpAnyH_take (i := 7) (oi := ?o401) (v := ?v401) ?hi401 (by kernel_rfl) (by kernel_rfl) (by kernel_rfl) ?hq401 ?hy401 (by assumption) ?hr401
          case hi401 => (simp only [List.getElem?_toArray, List.getElem?_cons_succ, List.getElem?_cons_zero]; rfl)
          case hy401 => ((refine .inl ⟨by rfl, ?_⟩); intro w hS; go_simp; (try with_reducible rfl))
          case hq401 => exact fun _ _ _ h => h
          (simp only [Act.put, List.setIfInBounds_toArray, List.set_cons_zero, List.set_cons_succ])
          refine wpAnyH_take (i := 8) (oi := ?o402) (v := ?v402) ?hi402 (by kernel_rfl) (by kernel_rfl) (by kernel_rfl) ?hq402 ?hy402 (by assumption) ?hr402
          case hi402 => (simp only [List.getElem?_toArray, List.getElem?_cons_succ, List.getElem?_cons_zero]; rfl)
          case hy402 => ((refine .inl ⟨by rfl, ?_⟩); intro w hS; go_simp; (try with_reducible rfl))
          case hq402 => exact fun _ _ _ h => h
          (simp only [Act.put, List.setIfInBounds_toArray, List.set_cons_zero, List.set_cons_succ])
          refine wpAnyH_take (i := 9) (oi := ?o403) (v := ?v403) ?hi403 (by kernel_rfl) (by kernel_rfl) (by kernel_rfl) ?hq403 ?hy403 (by assumption) ?hr403
          case hi403 => (simp only [List.getElem?_toArray, List.getElem?_cons_succ, List.getElem?_cons_zero]; rfl)
          case hy403 => ((refine .inl ⟨by rfl, ?_⟩); intro w hS; go_simp; (try with_reducible rfl))
          case hq403 => exact fun _ _ _ h => h
          (simp only [Act.put, List.setIfInBounds_toArray, List.set_cons_zero, List.set_cons_succ])
          refine wpAnyH_take (i := 10) (oi := ?o404) (v := ?v404) ?hi404 (by kernel_rfl) (by kernel_rfl) (by kernel_rfl) ?hq404 ?hy404 (by assumption) ?hr404
          case hi404 => (simp only [List.getElem?_toArray, List.getElem?_cons_succ, List.getElem?_cons_zero]; rfl)
          case hy404 => ((refine .inl ⟨by rfl, ?_⟩); intro w hS; go_simp; (try with_reducible rfl))
          case hq404 => exact fun _ _ _ h => h
          (simp only [Act.put, List.setIfInBounds_toArray, List.set_cons_zero, List.set_cons_succ])
          refine wpAnyH_take (i := 11) (oi := ?o405) (v := ?v405) ?hi405 (by kernel_rfl) (by kernel_rfl) (by kernel_rfl) ?hq405 ?hy405 (by assumption) ?hr405
          case hi405 => (simp only [List.getElem?_toArray, List.getElem?_cons_succ, List.getElem?_cons_zero]; rfl)
          case hy405 => ((refine .inl ⟨by rfl, ?_⟩); intro w hS; go_simp; (try with_reducible rfl))
          case hq405 => exact fun _ _ _ h => h
          (simp only [Act.put, List.setIfInBounds_toArray, List.set_cons_zero, List.set_cons_succ])
          refine wpAnyH_take (i := 12) (oi := ?o406) (v := ?v406) ?hi406 (by kernel_rfl) (by kernel_rfl) (by kernel_rfl) ?hq406 ?hy406 (by assumption) ?hr406
          case hi406 => (simp only [List.getElem?_toArray, List.getElem?_cons_succ, List.getElem?_cons_zero]; rfl)
          case hy406 => ((refine .inl ⟨by rfl, ?_⟩); intro w hS; have q := (St.at hS (i := 1) rfl).cell; go_simp; (try with_reducible rfl))
          case hq406 => exact fun _ _ _ h => h
          (simp only [Act.put, List.setIfInBounds_toArray, List.set_cons_zero, List.set_cons_succ])
          refine wpAnyH_take (i := 13) (oi := ?o407) (v := ?v407) ?hi407 (by kernel_rfl) (by kernel_rfl) (by kernel_rfl) ?hq407 ?hy407 (by assumption) ?hr407
          case hi407 => (simp only [List.getElem?_toArray, List.getElem?_cons_succ, List.getElem?_cons_zero]; rfl)
          case hy407 => ((refine .inl ⟨by rfl, ?_⟩); intro w hS; go_simp; (try with_reducible rfl))
          case hq407 => exact fun _ _ _ h => h
          (simp only [Act.put, List.setIfInBounds_toArray, List.set_cons_zero, List.set_cons_succ])
          refine wpAnyH_take (i := 14) (oi := ?o408) (v := ?v408) ?hi408 (by kernel_rfl) (by kernel_rfl) (by kernel_rfl) ?hq408 ?hy408 (by assumption) ?hr408
          case hi408 => (simp only [List.getElem?_toArray, List.getElem?_cons_succ, List.getElem?_cons_zero]; rfl)
          case hy408 => ((refine .inl ⟨by rfl, ?_⟩); intro w hS; go_simp; (try with_reducible rfl))
          case hq408 => exact fun _ _ _ h => h
          (simp only [Act.put, List.setIfInBounds_toArray, List.set_cons_zero, List.set_cons_succ])
          refine wpAnyH_take (i := 15) (oi := ?o409) (v := ?v409) ?hi409 (by kernel_rfl) (by kernel_rfl) (by kernel_rfl) ?hq409 ?hy409 (by assumption) ?hr409
          case hi409 => (simp only [List.getElem?_toArray, List.getElem?_cons_succ, List.getElem?_cons_zero]; rfl)
          case hy409 => ((refine .inl ⟨by rfl, ?_⟩); intro w hS; go_simp; (try with_reducible rfl))
          case hq409 => exact fun _ _ _ h => h
          (simp only [Act.put, List.setIfInBounds_toArray, List.set_cons_zero, List.set_cons_succ])
          refine wpAnyH_take (i := 16) (oi := ?o410) (v := ?v410) ?hi410 (by kernel_rfl) (by kernel_rfl) (by kernel_rfl) ?hq410 ?hy410 (by assumption) ?hr410
          case hi410 => (simp only [List.getElem?_toArray, List.getElem?_cons_succ, List.getElem?_cons_zero]; rfl)
          case hy410 => ((refine .inl ⟨by rfl, ?_⟩); intro w hS; go_simp; (try with_reducible rfl))
          case hq410 => exact fun _ _ _ h => h
          (simp only [Act.put, List.setIfInBounds_toArray, List.set_cons_zero, List.set_cons_succ])
          refine wpAnyH_take (i := 17) (oi := ?o411) (v := ?v411) ?hi411 (by kernel_rfl) (by kernel_rfl) (by kernel_rfl) ?hq411 ?hy411 (by assumption) ?hr411
          case hi411 => (simp only [List.getElem?_toArray, List.getElem?_cons_succ, List.getElem?_cons_zero]; rfl)
          case hy411 => ((refine .inl ⟨by rfl, ?_⟩); intro w hS; have q := (St.at hS (i := 0) rfl).cell; go_simp; (try with_reducible rfl))
          case hq411 => exact fun _ _ _ h => h
          (simp only [Act.put, List.setIfInBounds_toArray, List.set_cons_zero, List.set_cons_succ])
          refine wpAnyH_take (i := 18) (oi := ?o412) (v := ?v412) ?hi412 (by kernel_rfl) (by kernel_rfl) (by kernel_rfl) ?hq412 ?hy412 (by assumption) ?hr412
          case hi412 => (simp only [List.getElem?_toArray, List.getElem?_cons_succ, List.getElem?_cons_zero]; rfl)
          case hy412 => ((refine .inl ⟨by rfl, ?_⟩); intro w hS; go_simp; (try with_reducible rfl))
          case hq412 => exact fun _ _ _ h => h
          (simp only [Act.put, List.setIfInBounds_toArray, List.set_cons_zero, List.set_cons_succ])
          refine wpAnyH_take (i := 19) (oi := ?o413) (v := ?v413) ?hi413 (by kernel_rfl) (by kernel_rfl) (by kernel_rfl) ?hq413 ?hy413 (by assumption) ?hr413
          case hi413 => (simp only [List.getElem?_toArray, List.getElem?_cons_succ, List.getElem?_cons_zero]; rfl)
          case hy413 => ((refine .inl ⟨by rfl, ?_⟩); intro w hS; go_simp; (try with_reducible rfl))
          case hq413 => exact fun _ _ _ h => h
          (simp only [Act.put, List.setIfInBounds_toArray, List.set_cons_zero, List.set_cons_succ])
          refine wpAnyH_take (i := 20) (oi := ?o414) (v := ?v414) ?hi414 (by kernel_rfl) (by kernel_rfl) (by kernel_rfl) ?hq414 ?hy414 (by assumption) ?hr414
          case hi414 => (simp only [List.getElem?_toArray, List.getElem?_cons_succ, List.getElem?_cons_zero]; rfl)
          case hy414 => ((refine .inl ⟨by rfl, ?_⟩); intro w hS; go_simp; (try with_reducible rfl))
          case hq414 => exact fun _ _ _ h => h
          (simp only [Act.put, List.setIfInBounds_toArray, List.set_cons_zero, List.set_cons_succ])
          refine wpAnyH_take (i := 21) (oi := ?o415) (v := ?v415) ?hi415 (by kernel_rfl) (by kernel_rfl) (by kernel_rfl) ?hq415 ?hy415 (by assumption) ?hr415
          case hi415 => (simp only [List.getElem?_toArray, List.getElem?_cons_succ, List.getElem?_cons_zero]; rfl)
          case hy415 => ((refine .inl ⟨by rfl, ?_⟩); intro w hS; have q := (St.at hS (i := 1) rfl).cell; go_simp; (try with_reducible rfl))
          case hq415 => exact fun _ _ _ h => h
          (simp only [Act.put, List.setIfInBounds_toArray, List.set_cons_zero, List.set_cons_succ])
          refine wpAnyH_ready (rs := [22]) (by kernel_rfl) (by simp) ?_
          refine AllReadyH.cons rfl (fun K hK => ?_) AllReadyH.nil
          go_simp
          go_wp2_with ((go_at_call 28; refine (rzero_any _).mono ?_; rintro e w6 ⟨rfl, hb6⟩))
          refine hK.out _ _ (St.call hb6 hHeld) (fun hHeld => ?_)
          clear hK K
          (try simp only [Act.put, List.setIfInBounds_toArray, List.set_cons_zero, List.set_cons_succ])
          refine wpAnyH_take (i := 23) (oi := ?o416) (v := ?v416) ?hi416 (by kernel_rfl) (by kernel_rfl) (by kernel_rfl) ?hq416 ?hy416 (by assumption) ?hr416
          case hi416 => (simp only [List.getElem?_toArray, List.getElem?_cons_succ, List.getElem?_cons_zero]; rfl)
          case hy416 => ((refine .inl ⟨by rfl, ?_⟩); intro w hS; go_simp; (try with_reducible rfl))
          case hq416 => exact fun _ _ _ h => h
          (simp only [Act.put, List.setIfInBounds_toArray, List.set_cons_zero, List.set_cons_succ])
          refine wpAnyH_take (i := 24) (oi := ?o417) (v := ?v417) ?hi417 (by kernel_rfl) (by kernel_rfl) (by kernel_rfl) ?hq417 ?hy417 (by assumption) ?hr417
          case hi417 => (simp only [List.getElem?_toArray, List.getElem?_cons_succ, List.getElem?_cons_zero]; rfl)
          case hy417 => ((refine .inl ⟨by rfl, ?_⟩); intro w hS; go_simp; (try with_reducible rfl))
          case hq417 => exact fun _ _ _ h => h
          (simp only [Act.put, List.setIfInBounds_toArray, List.set_cons_zero, List.set_cons_succ])
          refine wpAnyH_take (i := 25) (oi := ?o418) (v := ?v418) ?hi418 (by kernel_rfl) (by kernel_rfl) (by kernel_rfl) ?hq418 ?hy418 (by assumption) ?hr418
          case hi418 => (simp only [List.getElem?_toArray, List.getElem?_cons_succ, List.getElem?_cons_zero]; rfl)
          case hy418 => ((refine .inl ⟨by rfl, ?_⟩); intro w hS; go_simp; (try with_reducible rfl))
          case hq418 => exact fun _ _ _ h => h
          (simp only [Act.put, List.setIfInBounds_toArray, List.set_cons_zero, List.set_cons_succ])
          refine wpAnyH_done (by kernel_rfl) ?_ _
          go_wp2_with fail
          go_meet
          exact ⟨rfl, hHeld.bel⟩
      case rest =>
        obtain ⟨rfl, h4⟩ := hcut
        clear h3 es
        go_wp2_with fail
        go_roundw
        case rel => exact ⟨i + 1, by omega, by go_num, belowC' h4 hbel⟩
        case measure => simp [intOf]; omega
    · obtain rfl : i = T := by omega
      have hge : ¬ (i : Int) < (i : Int) := by omega
      have C6 := Lib.hid (C5.out wo A1 c1 ((S1.out.below hbel).mono hbel.size))
      have B2 := hb0.trans ((b1.trans (hbel.mono b1.size)).mono hb0.size)
      go_wp2_with fail
      refine C6.out.mono ?_
      rintro e w4 ⟨b4, A4, c4, rfl, s4⟩
      have B4 := belowC' b4 B2
      have S4 := Lib.hid s4
      clear s4 C6
      go_wp2_with fail
      clear hdv0 hdv1 hdv2 hdv3 hcne
      go_loopw [130] (fun i' wr => ∃ i : Nat, i ≤ M ∧ i' = .int .i64 i ∧ Below w4.heap.size w4 wr) (fun i' _ => M - (intOf i').toNat)
      case atStart => exact ⟨0, by omega, rfl, Below.refl _ _⟩
      case round =>
        clear hbel
        obtain ⟨j, hj, rfl, hbel⟩ := hrel
        obtain ⟨wo, rfl⟩ : ∃ wo : World, wo = wr := ⟨_, rfl⟩
        by_cases hjM : j < M
        · have hjI : (j : Int) < (M : Int) := by omega
          have hj0 : (0 : Int) ≤ (j : Int) := by omega
          obtain ⟨b, off, hA, hb, hcell⟩ := S4.out.one (by simp; omega)
          subst hA
          obtain ⟨d, hd⟩ : ∃ d, ss[j]?.getD zeroBlk = d := ⟨_, rfl⟩
          have g1 := (hbel.cell (p := ⟨b, off + j, none⟩) hb).trans (hcell j (.string d) (by simp [hjM, hd]))
          have HD := Lib.hid hd
          clear hcell hd
          by_cases hjl : j < len1
          · have hjlI : (j : Int) < (len1 : Int) := by omega
            have hx : ss[j]? = some d := by
              have h5 : j < ss.length := by rw [HLEN.out]; exact hjl
              have h6 := HD.out
              rw [List.getElem?_eq_getElem h5] at h6 ⊢
              exact congrArg some h6
            obtain ⟨b5, off5, hA5, hb5, hcell5⟩ := HSS.out.one (by rw [List.length_map, HLEN.out]; omega)
            subst hA5
            have hB5 : Below w.heap.size w wo := belowC' hbel B4
            have g2 := (hB5.cell (p := ⟨b5, off5 + j, none⟩) hb5).trans (hcell5 j (.string d) (by simp [hx]))
            clear hcell5 hx
            go_wp2_with fail
            go_roundw
            case rel => exact ⟨j + 1, by omega, by go_num, hbel⟩
            case measure => simp [intOf]; omega
          · have hjlI : ¬ (j : Int) < (len1 : Int) := by omega
            have hdz : d = zeroBlk := by
              rw [← HD.out, List.getElem?_eq_none (by rw [HLEN.out]; omega)]
              rfl
            subst hdz
            go_wp2_with fail
            refine (rzero_any _).mono ?_
            rintro e w6 ⟨rfl, hb6⟩
            go_wp2_with fail
            go_roundw
            case rel => exact ⟨j + 1, by omega, by go_num, belowC' hb6 hbel⟩
            case measure => simp [intOf]; omega
        · obtain rfl : j = M := by omega
          have hge : ¬ (j : Int) < (j : Int) := by omega
          go_wp2_with fail
          go_ret
          exact ⟨rfl, belowC' hbel B4⟩

theorem returns_walk (n s : Int) (A : Option Addr) (k c : Nat) (ss : List ByteArray) (w : World) (w0 : (Lit.int .i64 n).wf = true) (w1 : (Lit.int .i64 s).wf = true) (w2 : IsL (fun s => [Value.string s]) (fun s => s.size ≤ maxLen) w A k c ss) :
    Calls Try.prog 9 #[.int .i64 n, .int .i64 s, .slice A k c] w fun e w' => e = .returned (.bool true) ∧ Below w.heap.size w w' := by
  obtain ⟨s1, s2⟩ := wf64 w1
  obtain ⟨rfl, hc, hcm, hs, hz⟩ := w2.strs
  by_cases h : 20 < ss.length ∨ (ss.length ≤ 20 ∧ 40 < n ∧ n ≤ 1024)
  · exact returns_skip n s A c ss.length w h
  · cases hr : recOk n s ss with
    | false => exact returns_err n s A c ss w hs hc hcm hz s1 s2 (by omega) (by omega) hr
    | true =>
      unfold recOk at hr
      simp only [Bool.and_eq_true] at hr
      have hsz : sizedB n = true := by
        have := hr.1
        unfold splitOk at this
        simp only [Bool.and_eq_true] at this
        exact this.1
      obtain ⟨N, rfl, h1, h2⟩ := sized_nat hsz
      exact returns_go N s A c ss w hs hc hcm hz s1 s2 (by omega) h1 (by omega) hr.1 hr.2
end Go.Proofs.Yticmopgpfplbnaa
