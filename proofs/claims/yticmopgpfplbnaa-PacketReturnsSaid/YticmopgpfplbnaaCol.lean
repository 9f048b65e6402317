/-
  Collect of the program.
-/
import Derived.Test.YticmopgpfplbnaaRec2
import Derived.Test.YticmopgpfplbnaaColP
namespace Go.Proofs.Yticmopgpfplbnaa
open Go.RowKit
set_option linter.unusedVariables false

/-- Each number is an int, the data are no longer than a string may be. -/
def SecsIn (l : List Sec) : Prop := ∀ x ∈ l, -9223372036854775808 ≤ x.lba ∧ x.lba ≤ 9223372036854775807 ∧ x.data.size ≤ maxLen

theorem col_size (n : Int) (A : Option Addr) (c : Nat) (l : List Sec) (w : World) (h : sizedB n = false) :
    Calls Try.prog 23 #[.int .i64 n, .slice A l.length c] w (ColR n l w) := by
  have HN := Lib.hid (colE_size (l := l) h)
  have C := Lib.hid (fun w => sized_any n w)
  rw [h] at C
  clear h
  go_enter Try.func23, Try.ntmps23
  go_wp2_with fail
  refine (C.out _).mono ?_
  rintro e w1 ⟨rfl, rfl⟩
  go_wp2_with fail
  go_ret2
  exact ColR.no HN.out (by decide) rfl (Below.refl _ _)

theorem col_len (N : Nat) (A : Option Addr) (c : Nat) (l : List Sec) (w : World) (hN1 : 1 ≤ N) (hN2 : N ≤ 1024) (hl : l.length ≤ 1000000) (h : l.length % (N + 7) ≠ 0) :
    Calls Try.prog 23 #[.int .i64 N, .slice A l.length c] w (ColR N l w) := by
  have hsz : sizedB N = true := sizedB_of (by omega) (by omega)
  have HN := Lib.hid (colE_len hsz h)
  have C := Lib.hid (fun w => sized_any N w)
  rw [hsz] at C
  have hm : ((l.length : Int) % ((N : Int) + 7) != 0) = true := by
    rw [bne_iff_ne, show ((N : Int) + 7) = ((N + 7 : Nat) : Int) by omega, ← Int.natCast_emod]
    omega
  have h7 : ¬ ((N : Int) + 7 = 0) := by omega
  clear h hsz
  go_enter Try.func23, Try.ntmps23
  go_wp2_with fail
  refine (C.out _).mono ?_
  rintro e w1 ⟨rfl, rfl⟩
  go_wp2_with fail
  go_ret2
  exact ColR.no HN.out (by decide) rfl (Below.refl _ _)

theorem belowC' {w0 W w1 : World} (hb : Below W.heap.size W w1) (hB : Below w0.heap.size w0 W) : Below w0.heap.size w0 w1 := hB.trans (hb.mono hB.size)
/-- The place of sector i: whether it is a user block. -/
theorem loc_user {N i : Nat} (hN1 : 1 ≤ N) (hN2 : N ≤ 1024) (hi : i ≤ 449849) : ∃ p k q : Int, locV N i = .agg #[.int .i64 p, .int .i64 k, .int .i64 q] ∧ numE N i = 0 ∧ (k == 2) = userB N i := by
  have hE : numE (N : Int) (i : Int) = 0 := numE_ok (sizedB_of (by omega) (by omega)) (by omega)
  refine ⟨_, _, _, by rw [locV, if_pos hE]; rfl, hE, ?_⟩
  rw [show ((N : Int) + 7) = ((N + 7 : Nat) : Int) by omega, ← Int.natCast_emod]
  unfold userB kindOf
  generalize i % (N + 7) = r
  rw [Bool.eq_iff_iff, beq_iff_eq, decide_eq_true_iff]
  repeat' split
  all_goals omega

set_option maxRecDepth 100000 in
set_option maxHeartbeats 4000000 in
theorem col_go (N : Nat) (A : Option Addr) (c : Nat) (l : List Sec) (w : World) (hN1 : 1 ≤ N) (hN2 : N ≤ 1024) (hs : SlAt w w.heap.size A (flat encS l)) (hl : l.length ≤ 400000) (hb : SecsIn l) (hm : l.length % (N + 7) = 0) :
    Calls Try.prog 23 #[.int .i64 N, .slice A l.length c] w (ColR N l w) := by
  have hsz : sizedB N = true := sizedB_of (by omega) (by omega)
  have HSZ := Lib.hid hsz
  have C := Lib.hid (fun w => sized_any N w)
  rw [hsz] at C
  have HM := Lib.hid hm
  have hm' : ((l.length : Int) % ((N : Int) + 7) != 0) = false := by
    rw [bne_eq_false_iff_eq, show ((N : Int) + 7) = ((N + 7 : Nat) : Int) by omega, ← Int.natCast_emod]
    omega
  have h7 : ¬ ((N : Int) + 7 = 0) := by omega
  have HSL := Lib.hid hs
  have HB := Lib.hid hb
  obtain ⟨len, hlen⟩ : ∃ n, l.length = n := ⟨_, rfl⟩
  have HL := Lib.hid hlen
  rw [hlen] at hl hm' ⊢
  clear hsz hm hs hb hlen
  go_enter Try.func23, Try.ntmps23
  go_wp2_with fail
  refine (C.out _).mono ?_
  rintro e w1 ⟨rfl, rfl⟩
  go_wp2_with fail
  clear hm' h7
  go_loopw [6, 22] (fun out i' wr => ∃ (i m c : Nat) (A : Option Addr), i ≤ len ∧ i' = .int .i64 i ∧ out = .slice A m c ∧ m ≤ i ∧ wr.ownsRow w.heap.size 9 1 (.slice A m c) m ((colUp N l i).map Value.string) ∧ Below w.heap.size w wr ∧ Hid (∀ j, j < i → passB N l j = true)) (fun _ i' _ => len - (intOf i').toNat)
  case atStart => exact ⟨0, 0, 0, none, by omega, rfl, rfl, by omega, World.ownsRow_nil _ _ _ _, Below.refl _ _, fun j h => absurd h (by omega)⟩
  case round =>
    obtain ⟨i, m, c1, A1, hi, rfl, rfl, hmi, hown, hbel, HP⟩ := hrel
    obtain ⟨wo, rfl⟩ : ∃ wo : World, wo = wr := ⟨_, rfl⟩
    by_cases hlt : i < len
    · obtain ⟨x, hx⟩ : ∃ x, l[i]? = some x := ⟨l[i]'(by rw [HL.out]; exact hlt), List.getElem?_eq_getElem _⟩
      obtain ⟨b, off, hA, hb, hcell⟩ := HSL.out.one (by rw [flat_length encS_length, HL.out]; omega)
      subst hA
      obtain ⟨p0, p1, p2, p3, p4, p5, p6⟩ := sec_cells (HSL.out.below hbel) rfl hx
      obtain ⟨xb1, xb2, xb3⟩ := HB.out x (List.mem_of_getElem? hx)
      unfold maxLen at xb3
      have hltI : (i : Int) < (len : Int) := by omega
      have h0k : (0 : Int) ≤ (i : Int) := by omega
      have HX := Lib.hid hx
      have HPE := Lib.hid (passB_eq (N := N) hx)
      have CV := Lib.hid (fun w => valid_any x w xb1 (by omega))
      obtain ⟨lba, mode, fi, ch, su, co, data⟩ := x
      rw [sctV] at CV
      dsimp only at p0 p1 p2 p3 p4 p5 p6 xb1 xb2 xb3 CV
      have hbw : b < wo.heap.size := Nat.lt_of_lt_of_le hb hbel.size
      have HOWN := Lib.hid hown
      clear hx hcell hown
      go_upto_region 9 with fail
      have h1 := (St.start wo).alloc #[.int .i64 lba, .int .i64 mode, .int .i64 fi, .int .i64 ch, .int .i64 su, .int .i64 co, .string data] 53
      clear p0 p1 p2 p3 p4 p5 p6
      generalize wo.alloc (.cells #[.int .i64 lba, .int .i64 mode, .int .i64 fi, .int .i64 ch, .int .i64 su, .int .i64 co, .string data] 53) = W1 at h1 ⊢
      generalize hvb : secB ⟨lba, mode, fi, ch, su, co, data⟩ = vB at *
      generalize hnb : nextB l i ⟨lba, mode, fi, ch, su, co, data⟩ = nB at *
      have HNB := Lib.hid hnb
      have HVB := Lib.hid hvb
      clear hvb hnb
      go_cut [45] from 27 to 45 (fun r wx => r = .bool (!(vB && nB)) ∧ St wo wx [(wo.heap.size, 53, #[.int .i64 lba, .int .i64 mode, .int .i64 fi, .int .i64 ch, .int .i64 su, .int .i64 co, .string data])])
      case first =>
        cases vB with
        | false =>
          refine wp_region_held_drew (S := (fun w' => St wo w' [(wo.heap.size, 53, #[.int .i64 lba, .int .i64 mode, .int .i64 fi, .int .i64 ch, .int .i64 su, .int .i64 co, .string data])])) (by kernel_rfl) (h1.drew) (fun hHeld => ?_)
          refine wpAnyH_take (i := 0) (oi := ?o1) (v := ?v1) ?hi1 (by kernel_rfl) (by kernel_rfl) (by kernel_rfl) ?hq1 ?hy1 (by assumption) ?hr1
          case hi1 => (simp only [List.getElem?_toArray, List.getElem?_cons_zero]; rfl)
          case hy1 => ((refine .inl ⟨by rfl, ?_⟩); intro w hS; have q := (St.at hS (i := 0) rfl).cell; go_simp; (try with_reducible rfl))
          case hq1 => exact fun _ _ _ h => h
          (simp only [Act.put, List.setIfInBounds_toArray, List.set_cons_zero, List.set_cons_succ])
          refine wpAnyH_ready (rs := [1]) (by kernel_rfl) (by simp) ?_
          refine AllReadyH.cons rfl (fun K hK => ?_) AllReadyH.nil
          go_simp
          go_wp2_with ((go_at_call 38; refine (CV.out _).mono ?_; rintro e w5 ⟨rfl, hb5⟩))
          refine hK.out _ _ (St.call hb5 hHeld) (fun hHeld => ?_)
          clear hK K
          (try simp only [Act.put, List.setIfInBounds_toArray, List.set_cons_zero, List.set_cons_succ])
          refine wpAnyH_take (i := 2) (oi := ?o2) (v := ?v2) ?hi2 (by kernel_rfl) (by kernel_rfl) (by kernel_rfl) ?hq2 ?hy2 (by assumption) ?hr2
          case hi2 => (simp only [List.getElem?_toArray, List.getElem?_cons_succ, List.getElem?_cons_zero]; rfl)
          case hy2 => ((refine .inl ⟨by rfl, ?_⟩); intro w hS; go_simp; (try with_reducible rfl))
          case hq2 => exact fun _ _ _ h => h
          (simp only [Act.put, List.setIfInBounds_toArray, List.set_cons_zero, List.set_cons_succ])
          refine wpAnyH_take (i := 3) (oi := ?o3) (v := ?v3) ?hi3 (by kernel_rfl) (by kernel_rfl) (by kernel_rfl) ?hq3 ?hy3 (by assumption) ?hr3
          case hi3 => (simp only [List.getElem?_toArray, List.getElem?_cons_succ, List.getElem?_cons_zero]; rfl)
          case hy3 => ((refine .inl ⟨by rfl, ?_⟩); intro w hS; go_simp; (try with_reducible rfl))
          case hq3 => exact fun _ _ _ h => h
          (simp only [Act.put, List.setIfInBounds_toArray, List.set_cons_zero, List.set_cons_succ])
          refine wpAnyH_take (i := 4) (oi := ?o4) (v := undef) ?hi4 (by kernel_rfl) (by kernel_rfl) (by kernel_rfl) ?hq4 ?hy4 (by assumption) ?hr4
          case hi4 => (simp only [List.getElem?_toArray, List.getElem?_cons_succ, List.getElem?_cons_zero]; rfl)
          case hy4 => exact .inr ⟨by rfl, rfl⟩
          case hq4 => exact fun _ _ _ h => h
          (simp only [Act.put, List.setIfInBounds_toArray, List.set_cons_zero, List.set_cons_succ])
          refine wpAnyH_take (i := 5) (oi := ?o5) (v := undef) ?hi5 (by kernel_rfl) (by kernel_rfl) (by kernel_rfl) ?hq5 ?hy5 (by assumption) ?hr5
          case hi5 => (simp only [List.getElem?_toArray, List.getElem?_cons_succ, List.getElem?_cons_zero]; rfl)
          case hy5 => exact .inr ⟨by rfl, rfl⟩
          case hq5 => exact fun _ _ _ h => h
          (simp only [Act.put, List.setIfInBounds_toArray, List.set_cons_zero, List.set_cons_succ])
          refine wpAnyH_take (i := 6) (oi := ?o6) (v := undef) ?hi6 (by kernel_rfl) (by kernel_rfl) (by kernel_rfl) ?hq6 ?hy6 (by assumption) ?hr6
          case hi6 => (simp only [List.getElem?_toArray, List.getElem?_cons_succ, List.getElem?_cons_zero]; rfl)
          case hy6 => exact .inr ⟨by rfl, rfl⟩
          case hq6 => exact fun _ _ _ h => h
          (simp only [Act.put, List.setIfInBounds_toArray, List.set_cons_zero, List.set_cons_succ])
          refine wpAnyH_take (i := 7) (oi := ?o7) (v := undef) ?hi7 (by kernel_rfl) (by kernel_rfl) (by kernel_rfl) ?hq7 ?hy7 (by assumption) ?hr7
          case hi7 => (simp only [List.getElem?_toArray, List.getElem?_cons_succ, List.getElem?_cons_zero]; rfl)
          case hy7 => exact .inr ⟨by rfl, rfl⟩
          case hq7 => exact fun _ _ _ h => h
          (simp only [Act.put, List.setIfInBounds_toArray, List.set_cons_zero, List.set_cons_succ])
          refine wpAnyH_take (i := 8) (oi := ?o8) (v := undef) ?hi8 (by kernel_rfl) (by kernel_rfl) (by kernel_rfl) ?hq8 ?hy8 (by assumption) ?hr8
          case hi8 => (simp only [List.getElem?_toArray, List.getElem?_cons_succ, List.getElem?_cons_zero]; rfl)
          case hy8 => exact .inr ⟨by rfl, rfl⟩
          case hq8 => exact fun _ _ _ h => h
          (simp only [Act.put, List.setIfInBounds_toArray, List.set_cons_zero, List.set_cons_succ])
          refine wpAnyH_take (i := 9) (oi := ?o9) (v := undef) ?hi9 (by kernel_rfl) (by kernel_rfl) (by kernel_rfl) ?hq9 ?hy9 (by assumption) ?hr9
          case hi9 => (simp only [List.getElem?_toArray, List.getElem?_cons_succ, List.getElem?_cons_zero]; rfl)
          case hy9 => exact .inr ⟨by rfl, rfl⟩
          case hq9 => exact fun _ _ _ h => h
          (simp only [Act.put, List.setIfInBounds_toArray, List.set_cons_zero, List.set_cons_succ])
          refine wpAnyH_take (i := 10) (oi := ?o10) (v := undef) ?hi10 (by kernel_rfl) (by kernel_rfl) (by kernel_rfl) ?hq10 ?hy10 (by assumption) ?hr10
          case hi10 => (simp only [List.getElem?_toArray, List.getElem?_cons_succ, List.getElem?_cons_zero]; rfl)
          case hy10 => exact .inr ⟨by rfl, rfl⟩
          case hq10 => exact fun _ _ _ h => h
          (simp only [Act.put, List.setIfInBounds_toArray, List.set_cons_zero, List.set_cons_succ])
          refine wpAnyH_take (i := 11) (oi := ?o11) (v := undef) ?hi11 (by kernel_rfl) (by kernel_rfl) (by kernel_rfl) ?hq11 ?hy11 (by assumption) ?hr11
          case hi11 => (simp only [List.getElem?_toArray, List.getElem?_cons_succ, List.getElem?_cons_zero]; rfl)
          case hy11 => exact .inr ⟨by rfl, rfl⟩
          case hq11 => exact fun _ _ _ h => h
          (simp only [Act.put, List.setIfInBounds_toArray, List.set_cons_zero, List.set_cons_succ])
          refine wpAnyH_take (i := 12) (oi := ?o12) (v := undef) ?hi12 (by kernel_rfl) (by kernel_rfl) (by kernel_rfl) ?hq12 ?hy12 (by assumption) ?hr12
          case hi12 => (simp only [List.getElem?_toArray, List.getElem?_cons_succ, List.getElem?_cons_zero]; rfl)
          case hy12 => exact .inr ⟨by rfl, rfl⟩
          case hq12 => exact fun _ _ _ h => h
          (simp only [Act.put, List.setIfInBounds_toArray, List.set_cons_zero, List.set_cons_succ])
          refine wpAnyH_take (i := 13) (oi := ?o13) (v := undef) ?hi13 (by kernel_rfl) (by kernel_rfl) (by kernel_rfl) ?hq13 ?hy13 (by assumption) ?hr13
          case hi13 => (simp only [List.getElem?_toArray, List.getElem?_cons_succ, List.getElem?_cons_zero]; rfl)
          case hy13 => exact .inr ⟨by rfl, rfl⟩
          case hq13 => exact fun _ _ _ h => h
          (simp only [Act.put, List.setIfInBounds_toArray, List.set_cons_zero, List.set_cons_succ])
          refine wpAnyH_take (i := 14) (oi := ?o14) (v := undef) ?hi14 (by kernel_rfl) (by kernel_rfl) (by kernel_rfl) ?hq14 ?hy14 (by assumption) ?hr14
          case hi14 => (simp only [List.getElem?_toArray, List.getElem?_cons_succ, List.getElem?_cons_zero]; rfl)
          case hy14 => exact .inr ⟨by rfl, rfl⟩
          case hq14 => exact fun _ _ _ h => h
          (simp only [Act.put, List.setIfInBounds_toArray, List.set_cons_zero, List.set_cons_succ])
          refine wpAnyH_take (i := 15) (oi := ?o15) (v := undef) ?hi15 (by kernel_rfl) (by kernel_rfl) (by kernel_rfl) ?hq15 ?hy15 (by assumption) ?hr15
          case hi15 => (simp only [List.getElem?_toArray, List.getElem?_cons_succ, List.getElem?_cons_zero]; rfl)
          case hy15 => exact .inr ⟨by rfl, rfl⟩
          case hq15 => exact fun _ _ _ h => h
          (simp only [Act.put, List.setIfInBounds_toArray, List.set_cons_zero, List.set_cons_succ])
          refine wpAnyH_take (i := 16) (oi := ?o16) (v := undef) ?hi16 (by kernel_rfl) (by kernel_rfl) (by kernel_rfl) ?hq16 ?hy16 (by assumption) ?hr16
          case hi16 => (simp only [List.getElem?_toArray, List.getElem?_cons_succ, List.getElem?_cons_zero]; rfl)
          case hy16 => exact .inr ⟨by rfl, rfl⟩
          case hq16 => exact fun _ _ _ h => h
          (simp only [Act.put, List.setIfInBounds_toArray, List.set_cons_zero, List.set_cons_succ])
          refine wpAnyH_take (i := 17) (oi := ?o17) (v := undef) ?hi17 (by kernel_rfl) (by kernel_rfl) (by kernel_rfl) ?hq17 ?hy17 (by assumption) ?hr17
          case hi17 => (simp only [List.getElem?_toArray, List.getElem?_cons_succ, List.getElem?_cons_zero]; rfl)
          case hy17 => exact .inr ⟨by rfl, rfl⟩
          case hq17 => exact fun _ _ _ h => h
          (simp only [Act.put, List.setIfInBounds_toArray, List.set_cons_zero, List.set_cons_succ])
          refine wpAnyH_take (i := 18) (oi := ?o18) (v := ?v18) ?hi18 (by kernel_rfl) (by kernel_rfl) (by kernel_rfl) ?hq18 ?hy18 (by assumption) ?hr18
          case hi18 => (simp only [List.getElem?_toArray, List.getElem?_cons_succ, List.getElem?_cons_zero]; rfl)
          case hy18 => ((refine .inl ⟨by rfl, ?_⟩); intro w hS; go_simp; (try with_reducible rfl))
          case hq18 => exact fun _ _ _ h => h
          (simp only [Act.put, List.setIfInBounds_toArray, List.set_cons_zero, List.set_cons_succ])
          refine wpAnyH_done (by kernel_rfl) ?_ _
          go_wp2_with fail
          go_meet
          with_reducible exact ⟨rfl, hHeld⟩
        | true =>
          by_cases hi0 : 0 < (i : Int)
          · obtain ⟨j, hj⟩ : ∃ j, i = j + 1 := ⟨i - 1, by omega⟩
            obtain ⟨y, hy⟩ : ∃ y, l[j]? = some y := ⟨l[j]'(by rw [HL.out]; omega), List.getElem?_eq_getElem _⟩
            have gy := (sec_cells (HSL.out.below hbel) rfl hy).1
            have hyb := passB_sec hy (HP.out j (by omega))
            have hnb : (lba != y.lba + 1) = !nB := by
              rw [← HNB.out, hj, nextB_succ hy]
              dsimp only
              rw [Bool.eq_iff_iff]
              simp
            obtain ⟨yl, hyl⟩ : ∃ n, y.lba = n := ⟨_, rfl⟩
            rw [hyl] at gy hyb hnb
            obtain ⟨yb0, yb1⟩ := hyb
            have ej : (i : Int) - 1 = (j : Int) := by omega
            have ej2 : IntKind.i64.wrap (j : Int) = (j : Int) := IntWalk.i64_in _ (by omega)
            have ey : IntKind.i64.wrap (yl + 1) = yl + 1 := IntWalk.i64_in _ (by omega)
            have hj0 : (0 : Int) ≤ (j : Int) := by omega
            have hjl : (j : Int) < (len : Int) := by omega
            clear hj hy hyl
            have hdi : decide (0 < i) = true := decide_eq_true (by omega)
            refine wp_region_held_drew (S := (fun w' => St wo w' [(wo.heap.size, 53, #[.int .i64 lba, .int .i64 mode, .int .i64 fi, .int .i64 ch, .int .i64 su, .int .i64 co, .string data])])) (by kernel_rfl) (h1.drew) (fun hHeld => ?_)
            refine wpAnyH_take (i := 0) (oi := ?o37) (v := ?v37) ?hi37 (by kernel_rfl) (by kernel_rfl) (by kernel_rfl) ?hq37 ?hy37 (by assumption) ?hr37
            case hi37 => (simp only [List.getElem?_toArray, List.getElem?_cons_zero]; rfl)
            case hy37 => ((refine .inl ⟨by rfl, ?_⟩); intro w hS; have q := (St.at hS (i := 0) rfl).cell; go_simp; (try with_reducible rfl))
            case hq37 => exact fun _ _ _ h => h
            (simp only [Act.put, List.setIfInBounds_toArray, List.set_cons_zero, List.set_cons_succ])
            refine wpAnyH_ready (rs := [1]) (by kernel_rfl) (by simp) ?_
            refine AllReadyH.cons rfl (fun K hK => ?_) AllReadyH.nil
            go_simp
            go_wp2_with ((go_at_call 38; refine (CV.out _).mono ?_; rintro e w5 ⟨rfl, hb5⟩))
            refine hK.out _ _ (St.call hb5 hHeld) (fun hHeld => ?_)
            clear hK K
            (try simp only [Act.put, List.setIfInBounds_toArray, List.set_cons_zero, List.set_cons_succ])
            refine wpAnyH_take (i := 2) (oi := ?o38) (v := ?v38) ?hi38 (by kernel_rfl) (by kernel_rfl) (by kernel_rfl) ?hq38 ?hy38 (by assumption) ?hr38
            case hi38 => (simp only [List.getElem?_toArray, List.getElem?_cons_succ, List.getElem?_cons_zero]; rfl)
            case hy38 => ((refine .inl ⟨by rfl, ?_⟩); intro w hS; go_simp; (try with_reducible rfl))
            case hq38 => exact fun _ _ _ h => h
            (simp only [Act.put, List.setIfInBounds_toArray, List.set_cons_zero, List.set_cons_succ])
            refine wpAnyH_take (i := 3) (oi := ?o39) (v := ?v39) ?hi39 (by kernel_rfl) (by kernel_rfl) (by kernel_rfl) ?hq39 ?hy39 (by assumption) ?hr39
            case hi39 => (simp only [List.getElem?_toArray, List.getElem?_cons_succ, List.getElem?_cons_zero]; rfl)
            case hy39 => ((refine .inl ⟨by rfl, ?_⟩); intro w hS; go_simp; (try with_reducible rfl))
            case hq39 => exact fun _ _ _ h => h
            (simp only [Act.put, List.setIfInBounds_toArray, List.set_cons_zero, List.set_cons_succ])
            refine wpAnyH_take (i := 4) (oi := ?o40) (v := ?v40) ?hi40 (by kernel_rfl) (by kernel_rfl) (by kernel_rfl) ?hq40 ?hy40 (by assumption) ?hr40
            case hi40 => (simp only [List.getElem?_toArray, List.getElem?_cons_succ, List.getElem?_cons_zero]; rfl)
            case hy40 => ((refine .inl ⟨by rfl, ?_⟩); intro w hS; go_simp; (try with_reducible rfl))
            case hq40 => exact fun _ _ _ h => h
            (simp only [Act.put, List.setIfInBounds_toArray, List.set_cons_zero, List.set_cons_succ])
            refine wpAnyH_take (i := 5) (oi := ?o41) (v := ?v41) ?hi41 (by kernel_rfl) (by kernel_rfl) (by kernel_rfl) ?hq41 ?hy41 (by assumption) ?hr41
            case hi41 => (simp only [List.getElem?_toArray, List.getElem?_cons_succ, List.getElem?_cons_zero]; rfl)
            case hy41 => ((refine .inl ⟨by rfl, ?_⟩); intro w hS; go_simp; (try with_reducible rfl))
            case hq41 => exact fun _ _ _ h => h
            (simp only [Act.put, List.setIfInBounds_toArray, List.set_cons_zero, List.set_cons_succ])
            refine wpAnyH_take (i := 6) (oi := ?o42) (v := ?v42) ?hi42 (by kernel_rfl) (by kernel_rfl) (by kernel_rfl) ?hq42 ?hy42 (by assumption) ?hr42
            case hi42 => (simp only [List.getElem?_toArray, List.getElem?_cons_succ, List.getElem?_cons_zero]; rfl)
            case hy42 => ((refine .inl ⟨by rfl, ?_⟩); intro w hS; go_simp; (try with_reducible rfl))
            case hq42 => exact fun _ _ _ h => h
            (simp only [Act.put, List.setIfInBounds_toArray, List.set_cons_zero, List.set_cons_succ])
            refine wpAnyH_take (i := 7) (oi := ?o43) (v := ?v43) ?hi43 (by kernel_rfl) (by kernel_rfl) (by kernel_rfl) ?hq43 ?hy43 (by assumption) ?hr43
            case hi43 => (simp only [List.getElem?_toArray, List.getElem?_cons_succ, List.getElem?_cons_zero]; rfl)
            case hy43 => ((refine .inl ⟨by rfl, ?_⟩); intro w hS; go_simp; (try with_reducible rfl))
            case hq43 => exact fun _ _ _ h => h
            (simp only [Act.put, List.setIfInBounds_toArray, List.set_cons_zero, List.set_cons_succ])
            refine wpAnyH_take (i := 8) (oi := ?o44) (v := ?v44) ?hi44 (by kernel_rfl) (by kernel_rfl) (by kernel_rfl) ?hq44 ?hy44 (by assumption) ?hr44
            case hi44 => (simp only [List.getElem?_toArray, List.getElem?_cons_succ, List.getElem?_cons_zero]; rfl)
            case hy44 => ((refine .inl ⟨by rfl, ?_⟩); intro w hS; have q := (St.at hS (i := 0) rfl).cell; go_simp; (try with_reducible rfl))
            case hq44 => exact fun _ _ _ h => h
            (simp only [Act.put, List.setIfInBounds_toArray, List.set_cons_zero, List.set_cons_succ])
            refine wpAnyH_take (i := 9) (oi := ?o45) (v := ?v45) ?hi45 (by kernel_rfl) (by kernel_rfl) (by kernel_rfl) ?hq45 ?hy45 (by assumption) ?hr45
            case hi45 => (simp only [List.getElem?_toArray, List.getElem?_cons_succ, List.getElem?_cons_zero]; rfl)
            case hy45 => ((refine .inl ⟨by rfl, ?_⟩); intro w hS; go_simp; (try with_reducible rfl))
            case hq45 => exact fun _ _ _ h => h
            (simp only [Act.put, List.setIfInBounds_toArray, List.set_cons_zero, List.set_cons_succ])
            refine wpAnyH_take (i := 10) (oi := ?o46) (v := ?v46) ?hi46 (by kernel_rfl) (by kernel_rfl) (by kernel_rfl) ?hq46 ?hy46 (by assumption) ?hr46
            case hi46 => (simp only [List.getElem?_toArray, List.getElem?_cons_succ, List.getElem?_cons_zero]; rfl)
            case hy46 => ((refine .inl ⟨by rfl, ?_⟩); intro w hS; go_simp; (try with_reducible rfl))
            case hq46 => exact fun _ _ _ h => h
            (simp only [Act.put, List.setIfInBounds_toArray, List.set_cons_zero, List.set_cons_succ])
            refine wpAnyH_take (i := 11) (oi := ?o47) (v := ?v47) ?hi47 (by kernel_rfl) (by kernel_rfl) (by kernel_rfl) ?hq47 ?hy47 (by assumption) ?hr47
            case hi47 => (simp only [List.getElem?_toArray, List.getElem?_cons_succ, List.getElem?_cons_zero]; rfl)
            case hy47 => ((refine .inl ⟨by rfl, ?_⟩); intro w hS; go_simp; (try with_reducible rfl))
            case hq47 => exact fun _ _ _ h => h
            (simp only [Act.put, List.setIfInBounds_toArray, List.set_cons_zero, List.set_cons_succ])
            refine wpAnyH_take (i := 12) (oi := ?o48) (v := ?v48) ?hi48 (by kernel_rfl) (by kernel_rfl) (by kernel_rfl) ?hq48 ?hy48 (by assumption) ?hr48
            case hi48 => (simp only [List.getElem?_toArray, List.getElem?_cons_succ, List.getElem?_cons_zero]; rfl)
            case hy48 => ((refine .inl ⟨by rfl, ?_⟩); intro w hS; go_simp; (try with_reducible rfl))
            case hq48 => exact fun _ _ _ h => h
            (simp only [Act.put, List.setIfInBounds_toArray, List.set_cons_zero, List.set_cons_succ])
            refine wpAnyH_take (i := 13) (oi := ?o49) (v := ?v49) ?hi49 (by kernel_rfl) (by kernel_rfl) (by kernel_rfl) ?hq49 ?hy49 (by assumption) ?hr49
            case hi49 => (simp only [List.getElem?_toArray, List.getElem?_cons_succ, List.getElem?_cons_zero]; rfl)
            case hy49 => ((refine .inl ⟨by rfl, ?_⟩); intro w hS; go_simp; (try with_reducible rfl))
            case hq49 => exact fun _ _ _ h => h
            (simp only [Act.put, List.setIfInBounds_toArray, List.set_cons_zero, List.set_cons_succ])
            refine wpAnyH_take (i := 14) (oi := ?o50) (v := ?v50) ?hi50 (by kernel_rfl) (by kernel_rfl) (by kernel_rfl) ?hq50 ?hy50 (by assumption) ?hr50
            case hi50 => (simp only [List.getElem?_toArray, List.getElem?_cons_succ, List.getElem?_cons_zero]; rfl)
            case hy50 => ((refine .inl ⟨by rfl, ?_⟩); intro w hS; have q2 := (St.bel hS).cell (p := ⟨b, off + j * 7, none⟩) hbw |>.trans gy; go_simp; (try with_reducible rfl))
            case hq50 => exact fun _ _ _ h => h
            (simp only [Act.put, List.setIfInBounds_toArray, List.set_cons_zero, List.set_cons_succ])
            refine wpAnyH_take (i := 15) (oi := ?o51) (v := ?v51) ?hi51 (by kernel_rfl) (by kernel_rfl) (by kernel_rfl) ?hq51 ?hy51 (by assumption) ?hr51
            case hi51 => (simp only [List.getElem?_toArray, List.getElem?_cons_succ, List.getElem?_cons_zero]; rfl)
            case hy51 => ((refine .inl ⟨by rfl, ?_⟩); intro w hS; go_simp; (try with_reducible rfl))
            case hq51 => exact fun _ _ _ h => h
            (simp only [Act.put, List.setIfInBounds_toArray, List.set_cons_zero, List.set_cons_succ])
            refine wpAnyH_take (i := 16) (oi := ?o52) (v := ?v52) ?hi52 (by kernel_rfl) (by kernel_rfl) (by kernel_rfl) ?hq52 ?hy52 (by assumption) ?hr52
            case hi52 => (simp only [List.getElem?_toArray, List.getElem?_cons_succ, List.getElem?_cons_zero]; rfl)
            case hy52 => ((refine .inl ⟨by rfl, ?_⟩); intro w hS; go_simp; (try with_reducible rfl))
            case hq52 => exact fun _ _ _ h => h
            (simp only [Act.put, List.setIfInBounds_toArray, List.set_cons_zero, List.set_cons_succ])
            refine wpAnyH_take (i := 17) (oi := ?o53) (v := ?v53) ?hi53 (by kernel_rfl) (by kernel_rfl) (by kernel_rfl) ?hq53 ?hy53 (by assumption) ?hr53
            case hi53 => (simp only [List.getElem?_toArray, List.getElem?_cons_succ, List.getElem?_cons_zero]; rfl)
            case hy53 => ((refine .inl ⟨by rfl, ?_⟩); intro w hS; go_simp; (try with_reducible rfl))
            case hq53 => exact fun _ _ _ h => h
            (simp only [Act.put, List.setIfInBounds_toArray, List.set_cons_zero, List.set_cons_succ])
            refine wpAnyH_take (i := 18) (oi := ?o54) (v := ?v54) ?hi54 (by kernel_rfl) (by kernel_rfl) (by kernel_rfl) ?hq54 ?hy54 (by assumption) ?hr54
            case hi54 => (simp only [List.getElem?_toArray, List.getElem?_cons_succ, List.getElem?_cons_zero]; rfl)
            case hy54 => ((refine .inl ⟨by rfl, ?_⟩); intro w hS; go_simp; (try with_reducible rfl))
            case hq54 => exact fun _ _ _ h => h
            (simp only [Act.put, List.setIfInBounds_toArray, List.set_cons_zero, List.set_cons_succ])
            refine wpAnyH_done (by kernel_rfl) ?_ _
            go_wp2_with fail
            go_meet
            with_reducible exact ⟨by rw [Bool.true_and], hHeld⟩
          · have hn : nB = true := by
              rw [← HNB.out, show i = 0 by omega]
              exact nextB_zero _ _
            subst hn
            have hdi : decide (0 < i) = false := decide_eq_false (by omega)
            refine wp_region_held_drew (S := (fun w' => St wo w' [(wo.heap.size, 53, #[.int .i64 lba, .int .i64 mode, .int .i64 fi, .int .i64 ch, .int .i64 su, .int .i64 co, .string data])])) (by kernel_rfl) (h1.drew) (fun hHeld => ?_)
            refine wpAnyH_take (i := 0) (oi := ?o19) (v := ?v19) ?hi19 (by kernel_rfl) (by kernel_rfl) (by kernel_rfl) ?hq19 ?hy19 (by assumption) ?hr19
            case hi19 => (simp only [List.getElem?_toArray, List.getElem?_cons_zero]; rfl)
            case hy19 => ((refine .inl ⟨by rfl, ?_⟩); intro w hS; have q := (St.at hS (i := 0) rfl).cell; go_simp; (try with_reducible rfl))
            case hq19 => exact fun _ _ _ h => h
            (simp only [Act.put, List.setIfInBounds_toArray, List.set_cons_zero, List.set_cons_succ])
            refine wpAnyH_ready (rs := [1]) (by kernel_rfl) (by simp) ?_
            refine AllReadyH.cons rfl (fun K hK => ?_) AllReadyH.nil
            go_simp
            go_wp2_with ((go_at_call 38; refine (CV.out _).mono ?_; rintro e w5 ⟨rfl, hb5⟩))
            refine hK.out _ _ (St.call hb5 hHeld) (fun hHeld => ?_)
            clear hK K
            (try simp only [Act.put, List.setIfInBounds_toArray, List.set_cons_zero, List.set_cons_succ])
            refine wpAnyH_take (i := 2) (oi := ?o20) (v := ?v20) ?hi20 (by kernel_rfl) (by kernel_rfl) (by kernel_rfl) ?hq20 ?hy20 (by assumption) ?hr20
            case hi20 => (simp only [List.getElem?_toArray, List.getElem?_cons_succ, List.getElem?_cons_zero]; rfl)
            case hy20 => ((refine .inl ⟨by rfl, ?_⟩); intro w hS; go_simp; (try with_reducible rfl))
            case hq20 => exact fun _ _ _ h => h
            (simp only [Act.put, List.setIfInBounds_toArray, List.set_cons_zero, List.set_cons_succ])
            refine wpAnyH_take (i := 3) (oi := ?o21) (v := ?v21) ?hi21 (by kernel_rfl) (by kernel_rfl) (by kernel_rfl) ?hq21 ?hy21 (by assumption) ?hr21
            case hi21 => (simp only [List.getElem?_toArray, List.getElem?_cons_succ, List.getElem?_cons_zero]; rfl)
            case hy21 => ((refine .inl ⟨by rfl, ?_⟩); intro w hS; go_simp; (try with_reducible rfl))
            case hq21 => exact fun _ _ _ h => h
            (simp only [Act.put, List.setIfInBounds_toArray, List.set_cons_zero, List.set_cons_succ])
            refine wpAnyH_take (i := 4) (oi := ?o22) (v := ?v22) ?hi22 (by kernel_rfl) (by kernel_rfl) (by kernel_rfl) ?hq22 ?hy22 (by assumption) ?hr22
            case hi22 => (simp only [List.getElem?_toArray, List.getElem?_cons_succ, List.getElem?_cons_zero]; rfl)
            case hy22 => ((refine .inl ⟨by rfl, ?_⟩); intro w hS; go_simp; (try with_reducible rfl))
            case hq22 => exact fun _ _ _ h => h
            (simp only [Act.put, List.setIfInBounds_toArray, List.set_cons_zero, List.set_cons_succ])
            refine wpAnyH_take (i := 5) (oi := ?o23) (v := ?v23) ?hi23 (by kernel_rfl) (by kernel_rfl) (by kernel_rfl) ?hq23 ?hy23 (by assumption) ?hr23
            case hi23 => (simp only [List.getElem?_toArray, List.getElem?_cons_succ, List.getElem?_cons_zero]; rfl)
            case hy23 => ((refine .inl ⟨by rfl, ?_⟩); intro w hS; go_simp; (try with_reducible rfl))
            case hq23 => exact fun _ _ _ h => h
            (simp only [Act.put, List.setIfInBounds_toArray, List.set_cons_zero, List.set_cons_succ])
            refine wpAnyH_take (i := 6) (oi := ?o24) (v := ?v24) ?hi24 (by kernel_rfl) (by kernel_rfl) (by kernel_rfl) ?hq24 ?hy24 (by assumption) ?hr24
            case hi24 => (simp only [List.getElem?_toArray, List.getElem?_cons_succ, List.getElem?_cons_zero]; rfl)
            case hy24 => ((refine .inl ⟨by rfl, ?_⟩); intro w hS; go_simp; (try with_reducible rfl))
            case hq24 => exact fun _ _ _ h => h
            (simp only [Act.put, List.setIfInBounds_toArray, List.set_cons_zero, List.set_cons_succ])
            refine wpAnyH_take (i := 7) (oi := ?o25) (v := undef) ?hi25 (by kernel_rfl) (by kernel_rfl) (by kernel_rfl) ?hq25 ?hy25 (by assumption) ?hr25
            case hi25 => (simp only [List.getElem?_toArray, List.getElem?_cons_succ, List.getElem?_cons_zero]; rfl)
            case hy25 => exact .inr ⟨by rfl, rfl⟩
            case hq25 => exact fun _ _ _ h => h
            (simp only [Act.put, List.setIfInBounds_toArray, List.set_cons_zero, List.set_cons_succ])
            refine wpAnyH_take (i := 8) (oi := ?o26) (v := undef) ?hi26 (by kernel_rfl) (by kernel_rfl) (by kernel_rfl) ?hq26 ?hy26 (by assumption) ?hr26
            case hi26 => (simp only [List.getElem?_toArray, List.getElem?_cons_succ, List.getElem?_cons_zero]; rfl)
            case hy26 => exact .inr ⟨by rfl, rfl⟩
            case hq26 => exact fun _ _ _ h => h
            (simp only [Act.put, List.setIfInBounds_toArray, List.set_cons_zero, List.set_cons_succ])
            refine wpAnyH_take (i := 9) (oi := ?o27) (v := undef) ?hi27 (by kernel_rfl) (by kernel_rfl) (by kernel_rfl) ?hq27 ?hy27 (by assumption) ?hr27
            case hi27 => (simp only [List.getElem?_toArray, List.getElem?_cons_succ, List.getElem?_cons_zero]; rfl)
            case hy27 => exact .inr ⟨by rfl, rfl⟩
            case hq27 => exact fun _ _ _ h => h
            (simp only [Act.put, List.setIfInBounds_toArray, List.set_cons_zero, List.set_cons_succ])
            refine wpAnyH_take (i := 10) (oi := ?o28) (v := undef) ?hi28 (by kernel_rfl) (by kernel_rfl) (by kernel_rfl) ?hq28 ?hy28 (by assumption) ?hr28
            case hi28 => (simp only [List.getElem?_toArray, List.getElem?_cons_succ, List.getElem?_cons_zero]; rfl)
            case hy28 => exact .inr ⟨by rfl, rfl⟩
            case hq28 => exact fun _ _ _ h => h
            (simp only [Act.put, List.setIfInBounds_toArray, List.set_cons_zero, List.set_cons_succ])
            refine wpAnyH_take (i := 11) (oi := ?o29) (v := undef) ?hi29 (by kernel_rfl) (by kernel_rfl) (by kernel_rfl) ?hq29 ?hy29 (by assumption) ?hr29
            case hi29 => (simp only [List.getElem?_toArray, List.getElem?_cons_succ, List.getElem?_cons_zero]; rfl)
            case hy29 => exact .inr ⟨by rfl, rfl⟩
            case hq29 => exact fun _ _ _ h => h
            (simp only [Act.put, List.setIfInBounds_toArray, List.set_cons_zero, List.set_cons_succ])
            refine wpAnyH_take (i := 12) (oi := ?o30) (v := undef) ?hi30 (by kernel_rfl) (by kernel_rfl) (by kernel_rfl) ?hq30 ?hy30 (by assumption) ?hr30
            case hi30 => (simp only [List.getElem?_toArray, List.getElem?_cons_succ, List.getElem?_cons_zero]; rfl)
            case hy30 => exact .inr ⟨by rfl, rfl⟩
            case hq30 => exact fun _ _ _ h => h
            (simp only [Act.put, List.setIfInBounds_toArray, List.set_cons_zero, List.set_cons_succ])
            refine wpAnyH_take (i := 13) (oi := ?o31) (v := undef) ?hi31 (by kernel_rfl) (by kernel_rfl) (by kernel_rfl) ?hq31 ?hy31 (by assumption) ?hr31
            case hi31 => (simp only [List.getElem?_toArray, List.getElem?_cons_succ, List.getElem?_cons_zero]; rfl)
            case hy31 => exact .inr ⟨by rfl, rfl⟩
            case hq31 => exact fun _ _ _ h => h
            (simp only [Act.put, List.setIfInBounds_toArray, List.set_cons_zero, List.set_cons_succ])
            refine wpAnyH_take (i := 14) (oi := ?o32) (v := undef) ?hi32 (by kernel_rfl) (by kernel_rfl) (by kernel_rfl) ?hq32 ?hy32 (by assumption) ?hr32
            case hi32 => (simp only [List.getElem?_toArray, List.getElem?_cons_succ, List.getElem?_cons_zero]; rfl)
            case hy32 => exact .inr ⟨by rfl, rfl⟩
            case hq32 => exact fun _ _ _ h => h
            (simp only [Act.put, List.setIfInBounds_toArray, List.set_cons_zero, List.set_cons_succ])
            refine wpAnyH_take (i := 15) (oi := ?o33) (v := undef) ?hi33 (by kernel_rfl) (by kernel_rfl) (by kernel_rfl) ?hq33 ?hy33 (by assumption) ?hr33
            case hi33 => (simp only [List.getElem?_toArray, List.getElem?_cons_succ, List.getElem?_cons_zero]; rfl)
            case hy33 => exact .inr ⟨by rfl, rfl⟩
            case hq33 => exact fun _ _ _ h => h
            (simp only [Act.put, List.setIfInBounds_toArray, List.set_cons_zero, List.set_cons_succ])
            refine wpAnyH_take (i := 16) (oi := ?o34) (v := undef) ?hi34 (by kernel_rfl) (by kernel_rfl) (by kernel_rfl) ?hq34 ?hy34 (by assumption) ?hr34
            case hi34 => (simp only [List.getElem?_toArray, List.getElem?_cons_succ, List.getElem?_cons_zero]; rfl)
            case hy34 => exact .inr ⟨by rfl, rfl⟩
            case hq34 => exact fun _ _ _ h => h
            (simp only [Act.put, List.setIfInBounds_toArray, List.set_cons_zero, List.set_cons_succ])
            refine wpAnyH_take (i := 17) (oi := ?o35) (v := ?v35) ?hi35 (by kernel_rfl) (by kernel_rfl) (by kernel_rfl) ?hq35 ?hy35 (by assumption) ?hr35
            case hi35 => (simp only [List.getElem?_toArray, List.getElem?_cons_succ, List.getElem?_cons_zero]; rfl)
            case hy35 => ((refine .inl ⟨by rfl, ?_⟩); intro w hS; go_simp; (try with_reducible rfl))
            case hq35 => exact fun _ _ _ h => h
            (simp only [Act.put, List.setIfInBounds_toArray, List.set_cons_zero, List.set_cons_succ])
            refine wpAnyH_take (i := 18) (oi := ?o36) (v := ?v36) ?hi36 (by kernel_rfl) (by kernel_rfl) (by kernel_rfl) ?hq36 ?hy36 (by assumption) ?hr36
            case hi36 => (simp only [List.getElem?_toArray, List.getElem?_cons_succ, List.getElem?_cons_zero]; rfl)
            case hy36 => ((refine .inl ⟨by rfl, ?_⟩); intro w hS; go_simp; (try with_reducible rfl))
            case hq36 => exact fun _ _ _ h => h
            (simp only [Act.put, List.setIfInBounds_toArray, List.set_cons_zero, List.set_cons_succ])
            refine wpAnyH_done (by kernel_rfl) ?_ _
            go_wp2_with fail
            go_meet
            with_reducible exact ⟨rfl, hHeld⟩
      case rest =>
        obtain ⟨rfl, h2⟩ := hcut
        clear h1
        by_cases hbad : (vB && nB) = false
        · have HE := Lib.hid (colE_bad (l := l) HSZ.out (by rw [HL.out]; exact hlt) (by rw [HPE.out, ← Bool.and_assoc, hbad, Bool.false_and]))
          rw [hbad]
          clear hbad
          go_wp2_with fail
          go_ret2
          exact ColR.no HE.out (by decide) rfl (belowC' h2.bel hbel)
        · have hvn : (vB && nB) = true := by simpa using hbad
          rw [hvn]
          have hpe : passB N l i = (userB N i || data.toList == zeroBlk.toList) := by
            have := HPE.out
            dsimp only at this
            rw [this, ← Bool.and_assoc, hvn, Bool.true_and]
          have HPE2 := Lib.hid hpe
          clear hbad hvn hpe
          obtain ⟨p, k, q, hloc, hnum, hku⟩ := loc_user hN1 hN2 (show i ≤ 449849 by omega)
          have CL := Lib.hid (fun w => locate_any N i w)
          rw [hloc, hnum] at CL
          clear hloc hnum
          go_wp2_with fail
          refine (CL.out _).mono ?_
          rintro e w3 ⟨rfl, hb3⟩
          have h3 := (St.call hb3 h2).alloc #[.int .i64 p, .int .i64 k, .int .i64 q] 27
          have hB3 : Below wo.heap.size wo w3 := (St.call hb3 h2).bel
          have q3 := (h3.at (i := 1) rfl).cell
          clear h2 hb3
          cases hub : userB N i with
          | true =>
            have hku' : (k == 2) = true := hku.trans hub
            have HCU := Lib.hid (colUp_user HX.out hub)
            have HPE3 : Hid (passB N l i = true) := by rw [HPE2.out, hub]; rfl
            have hown3 := (own_all HOWN.out hB3).alloc (.cells #[.int .i64 p, .int .i64 k, .int .i64 q] 27)
            have hbel3 : Below w.heap.size w (w3.alloc (.cells #[.int .i64 p, .int .i64 k, .int .i64 q] 27)) := belowC' h3.bel hbel
            have hsz3 : (w3.alloc (.cells #[.int .i64 p, .int .i64 k, .int .i64 q] 27)).heap.size = w3.heap.size + 1 := World.size_alloc _ _
            clear hku hub
            go_wp2_with (at_builtin; refine wpList_app1H hown3 hsz3 info_str Try.underlying37 rfl (by unfold maxLen; omega) (by omega) hbel3.size rfl rfl rfl (by rfl) (by rfl) ?_; intro v4 w4 hown4 hb4 hg4; obtain ⟨g4, cap4, hv4, hx1, hx2, hx3⟩ := own_form hown4 (Nat.succ_pos _); subst hv4)
            go_roundw
            case rel =>
              refine ⟨i + 1, m + 1, cap4, some ⟨g4, 0, none⟩, by omega, by go_num, rfl, by omega, ?_, hbel3.trans hb4, fun j hj => ?_⟩
              · rw [HCU.out, List.map_append]; exact hown4
              · by_cases hji : j = i
                · rw [hji]; exact HPE3.out
                · exact HP.out j (by omega)
            case measure => simp [intOf]; omega
          | false =>
            have hku' : (k == 2) = false := hku.trans hub
            have HCU := Lib.hid (colUp_skip (l := l) hub)
            have HPE3 : Hid (passB N l i = (data.toList == zeroBlk.toList)) := by rw [HPE2.out, hub]; rfl
            clear hku hub
            go_upto_region 14 with fail
            have h3d := h3.drew
            generalize (w3.alloc (.cells #[.int .i64 p, .int .i64 k, .int .i64 q] 27)) = W3 at *
            generalize hzb : (data.toList == zeroBlk.toList) = zB at HPE3
            have hzb2 : (data.toList != zeroBlk.toList) = !zB := by rw [bne, hzb]
            have HZB := Lib.hid hzb
            clear hzb
            go_cut [61] from 61 to 65 (fun r wx => r = .bool (!zB) ∧ St wo wx [(w3.heap.size, 27, #[.int .i64 p, .int .i64 k, .int .i64 q]), (wo.heap.size, 53, #[.int .i64 lba, .int .i64 mode, .int .i64 fi, .int .i64 ch, .int .i64 su, .int .i64 co, .string data])])
            case first =>
              have HZ2 := Lib.hid hzb2
              go_region_with ((go_at_call 35; refine (zeros_any _).mono ?_; rintro e w5 ⟨rfl, hb5⟩; with_reducible have z := St.call hb5 h3d; have q5 := (z.at (i := 1) rfl).cell))
              all_goals
                go_wp2_with fail
                go_meet
                with_reducible exact ⟨by rw [HZB.out], z⟩
            case rest =>
              clear h3 h3d hzb2
              obtain ⟨rfl, h4⟩ := hcut
              cases zB with
              | false =>
                have HE := Lib.hid (colE_bad (l := l) HSZ.out (by rw [HL.out]; exact hlt) HPE3.out)
                go_wp2_with fail
                go_ret2
                exact ColR.no HE.out (by decide) rfl (belowC' h4.bel hbel)
              | true =>
                have HOWN3 := Lib.hid (own_all HOWN.out h4.bel)
                go_wp2_with fail
                go_roundw
                case rel =>
                  refine ⟨i + 1, m, c1, A1, by omega, by go_num, rfl, by omega, ?_, belowC' h4.bel hbel, fun j hj => ?_⟩
                  · rw [HCU.out]; exact HOWN3.out
                  · by_cases hji : j = i
                    · rw [hji]; exact HPE3.out
                    · exact HP.out j (by omega)
                case measure => simp [intOf]; omega
    · obtain rfl : i = len := by omega
      have hge : ¬ (i : Int) < (i : Int) := by omega
      have HE := Lib.hid (colE_ok (l := l) HSZ.out HM.out (fun j hj => HP.out j (by rw [← HL.out]; exact hj)))
      have hml : (colUp N l l.length).length = m := by
        have := hown.1
        rw [HL.out]
        simpa using this
      have HML := Lib.hid hml
      have HOWN := Lib.hid hown
      clear hml hown
      go_wp2_with fail
      go_ret2
      exact ColR.yes HE.out HML.out.symm rfl hbel (by rw [HL.out]; exact SlAt.of_own' HOWN.out (Nat.le_refl _))
end Go.Proofs.Yticmopgpfplbnaa
