/-
  Collect of the reference.
-/
import Derived.Test.YticmopgpfplbnaaCol
namespace Go.Proofs.Yticmopgpfplbnaa
open Go.RowKit
set_option linter.unusedVariables false

theorem rcol_size (n : Int) (A : Option Addr) (c : Nat) (l : List Sec) (w : World) (h : sizedB n = false) :
    Calls Try.prog 24 #[.int .i64 n, .slice A l.length c] w (ColR n l w) := by
  have HN := Lib.hid (colE_size (l := l) h)
  have C := Lib.hid (fun w => rsized_any n w)
  rw [h] at C
  clear h
  go_enter Try.func24, Try.ntmps24
  go_wp2_with fail
  refine (C.out _).mono ?_
  rintro e w1 ⟨rfl, rfl⟩
  go_wp2_with fail
  go_ret2
  exact ColR.no HN.out (by decide) rfl (Below.refl _ _)

theorem rcol_len (N : Nat) (A : Option Addr) (c : Nat) (l : List Sec) (w : World) (hN1 : 1 ≤ N) (hN2 : N ≤ 1024) (hl : l.length ≤ 1000000) (h : l.length % (N + 7) ≠ 0) :
    Calls Try.prog 24 #[.int .i64 N, .slice A l.length c] w (ColR N l w) := by
  have hsz : sizedB N = true := sizedB_of (by omega) (by omega)
  have HN := Lib.hid (colE_len hsz h)
  have C := Lib.hid (fun w => rsized_any N w)
  rw [hsz] at C
  have hm : ((l.length : Int) % ((N : Int) + 7) != 0) = true := by
    rw [bne_iff_ne, show ((N : Int) + 7) = ((N + 7 : Nat) : Int) by omega, ← Int.natCast_emod]
    omega
  have h7 : ¬ ((N : Int) + 7 = 0) := by omega
  clear h hsz
  go_enter Try.func24, Try.ntmps24
  go_wp2_with fail
  refine (C.out _).mono ?_
  rintro e w1 ⟨rfl, rfl⟩
  go_wp2_with fail
  go_ret2
  exact ColR.no HN.out (by decide) rfl (Below.refl _ _)

set_option maxRecDepth 100000 in
set_option maxHeartbeats 8000000 in
theorem rcol_go (N : Nat) (A : Option Addr) (c : Nat) (l : List Sec) (w : World) (hN1 : 1 ≤ N) (hN2 : N ≤ 1024) (hs : SlAt w w.heap.size A (flat encS l)) (hl : l.length ≤ 400000) (hb : SecsIn l) (hm : l.length % (N + 7) = 0) :
    Calls Try.prog 24 #[.int .i64 N, .slice A l.length c] w (ColR N l w) := by
  have hsz : sizedB N = true := sizedB_of (by omega) (by omega)
  have HSZ := Lib.hid hsz
  have C := Lib.hid (fun w => rsized_any N w)
  rw [hsz] at C
  have HM := Lib.hid hm
  have hm' : ((l.length : Int) % ((N : Int) + 7) != 0) = false := by
    rw [bne_eq_false_iff_eq, show ((N : Int) + 7) = ((N + 7 : Nat) : Int) by omega, ← Int.natCast_emod]
    omega
  have h7 : ¬ ((N : Int) + 7 = 0) := by omega
  have HSL := Lib.hid hs
  have HB := Lib.hid hb
  obtain ⟨len, hlen⟩ : ∃ n, l.length = n := ⟨_, rfl⟩
  have HL := Lib.hid hlen
  rw [hlen] at hl hm' ⊢
  clear hsz hm hs hb hlen
  go_enter Try.func24, Try.ntmps24
  go_wp2_with fail
  refine (C.out _).mono ?_
  rintro e w1 ⟨rfl, rfl⟩
  go_wp2_with fail
  clear hm'
  go_loopw [6, 7] (fun out i' wr => ∃ (i m c : Nat) (A : Option Addr), i ≤ len ∧ i' = .int .i64 i ∧ out = .slice A m c ∧ m ≤ i ∧ wr.ownsRow w.heap.size 9 1 (.slice A m c) m ((colUp N l i).map Value.string) ∧ Below w.heap.size w wr ∧ Hid (∀ j, j < i → passB N l j = true)) (fun _ i' _ => len - (intOf i').toNat)
  case atStart => exact ⟨0, 0, 0, _, by omega, rfl, rfl, by omega, World.ownsRow_made _ _ _ (Nat.le_refl _) (by decide) rfl, (Below.refl _ _).alloc (Nat.le_refl _) _, fun j h => absurd h (by omega)⟩
  case round =>
    obtain ⟨i, m, c1, A1, hi, rfl, rfl, hmi, hown, hbel, HP⟩ := hrel
    obtain ⟨wo, rfl⟩ : ∃ wo : World, wo = wr := ⟨_, rfl⟩
    by_cases hlt : i < len
    · obtain ⟨x, hx⟩ : ∃ x, l[i]? = some x := ⟨l[i]'(by rw [HL.out]; exact hlt), List.getElem?_eq_getElem _⟩
      obtain ⟨b, off, hA, hb, hcell⟩ := HSL.out.one (by rw [flat_length encS_length, HL.out]; omega)
      subst hA
      obtain ⟨p0, p1, p2, p3, p4, p5, p6⟩ := sec_cells (HSL.out.below hbel) rfl hx
      obtain ⟨xb1, xb2, xb3⟩ := HB.out x (List.mem_of_getElem? hx)
      unfold maxLen at xb3
      have hltI : (i : Int) < (len : Int) := by omega
      have h0k : (0 : Int) ≤ (i : Int) := by omega
      have HX := Lib.hid hx
      have hpe := passB_eq (N := N) hx
      rw [secB_valid] at hpe
      have CV := Lib.hid (fun w => rvalid7_any x w (by omega))
      obtain ⟨lba, mode, fi, ch, su, co, data⟩ := x
      rw [sctV] at CV
      dsimp only at p0 p1 p2 p3 p4 p5 p6 xb1 xb2 xb3 CV hpe
      have hbw : b < wo.heap.size := Nat.lt_of_lt_of_le hb hbel.size
      have HOWN := Lib.hid hown
      clear hx hcell hown
      obtain ⟨uB, hu⟩ : ∃ u, userB N i = u := ⟨_, rfl⟩
      have HU := Lib.hid hu
      obtain ⟨k, hk⟩ : ∃ k, i % (N + 7) = k := ⟨_, rfl⟩
      have hkI : (i : Int) % ((N : Int) + 7) = (k : Int) := by
        rw [show ((N : Int) + 7) = ((N + 7 : Nat) : Int) by omega, ← Int.natCast_emod, hk]
      have hkl : (k : Int) < (N : Int) + 7 := by
        have := Nat.mod_lt i (show 0 < N + 7 by omega)
        omega
      have hk0 : (0 : Int) ≤ (k : Int) := by omega
      have HK := Lib.hid hk
      have HKI := Lib.hid hkI
      clear hk hkI
      go_upto_region 10 with fail
      rw [HKI.out]
      go_cut [9] from 30 to 37 (fun u wx => u = .bool uB ∧ wx = wo)
      case first =>
        have hub : uB = (decide (5 ≤ k) && decide (k < 5 + N)) := by
          rw [← hu]
          unfold userB
          rw [HK.out, Bool.eq_iff_iff]
          simp
        have HUB := Lib.hid hub
        clear hub hu p0 p1 p2 p3 p4 p5 p6 xb1 xb2 xb3 hpe
        by_cases h5 : 5 ≤ k
        · have h5' : (5 : Int) ≤ (k : Int) := by omega
          by_cases h6 : k < 5 + N
          · have h6' : (k : Int) < 5 + (N : Int) := by omega
            go_wp2_with fail
            go_meet
            exact ⟨by rw [HUB.out, decide_eq_true h5, decide_eq_true h6]; rfl, rfl⟩
          · have h6' : ¬ (k : Int) < 5 + (N : Int) := by omega
            go_wp2_with fail
            go_meet
            exact ⟨by rw [HUB.out, decide_eq_true h5, decide_eq_false h6]; rfl, rfl⟩
        · have h5' : ¬ (5 : Int) ≤ (k : Int) := by omega
          go_wp2_with fail
          go_meet
          exact ⟨by rw [HUB.out, decide_eq_false h5]; rfl, rfl⟩
      case rest =>
        obtain ⟨rfl, rfl⟩ := hcut
        obtain ⟨wo, rfl⟩ : ∃ wo : World, wo = wc := ⟨_, rfl⟩
        rw [hu] at hpe
        clear hu hkl hk0
        generalize hvb : validB ⟨lba, mode, fi, ch, su, co, data⟩ = vB at *
        generalize hnb : nextB l i ⟨lba, mode, fi, ch, su, co, data⟩ = nB at *
        generalize hpb : passB N l i = pB at *
        have HPB := Lib.hid hpb
        have HNB := Lib.hid hnb
        have HVB := Lib.hid hvb
        have HPE := Lib.hid hpe
        clear hvb hnb hpb hpe
        go_upto_region 11 with fail
        go_cut [83] from 38 to 83 (fun r wx => r = .bool (!pB) ∧ Below wo.heap.size wo wx)
        case first =>
          cases vB with
          | false =>
            refine wp_region_held_drew (S := (fun w' => Below wo.heap.size wo w')) (by kernel_rfl) ((Below.refl _ _).drew) (fun hHeld => ?_)
            refine wpAnyH_take (i := 0) (oi := ?o55) (v := ?v55) ?hi55 (by kernel_rfl) (by kernel_rfl) (by kernel_rfl) ?hq55 ?hy55 (by assumption) ?hr55
            case hi55 => (simp only [List.getElem?_toArray, List.getElem?_cons_zero]; rfl)
            case hy55 => ((refine .inl ⟨by rfl, ?_⟩); intro w hS; go_simp; (try with_reducible rfl))
            case hq55 => exact fun _ _ _ h => h
            (simp only [Act.put, List.setIfInBounds_toArray, List.set_cons_zero, List.set_cons_succ])
            refine wpAnyH_take (i := 1) (oi := ?o56) (v := ?v56) ?hi56 (by kernel_rfl) (by kernel_rfl) (by kernel_rfl) ?hq56 ?hy56 (by assumption) ?hr56
            case hi56 => (simp only [List.getElem?_toArray, List.getElem?_cons_succ, List.getElem?_cons_zero]; rfl)
            case hy56 => ((refine .inl ⟨by rfl, ?_⟩); intro w hS; go_simp; (try with_reducible rfl))
            case hq56 => exact fun _ _ _ h => h
            (simp only [Act.put, List.setIfInBounds_toArray, List.set_cons_zero, List.set_cons_succ])
            refine wpAnyH_take (i := 2) (oi := ?o57) (v := ?v57) ?hi57 (by kernel_rfl) (by kernel_rfl) (by kernel_rfl) ?hq57 ?hy57 (by assumption) ?hr57
            case hi57 => (simp only [List.getElem?_toArray, List.getElem?_cons_succ, List.getElem?_cons_zero]; rfl)
            case hy57 => ((refine .inl ⟨by rfl, ?_⟩); intro w hS; go_simp; (try with_reducible rfl))
            case hq57 => exact fun _ _ _ h => h
            (simp only [Act.put, List.setIfInBounds_toArray, List.set_cons_zero, List.set_cons_succ])
            refine wpAnyH_take (i := 3) (oi := ?o58) (v := ?v58) ?hi58 (by kernel_rfl) (by kernel_rfl) (by kernel_rfl) ?hq58 ?hy58 (by assumption) ?hr58
            case hi58 => (simp only [List.getElem?_toArray, List.getElem?_cons_succ, List.getElem?_cons_zero]; rfl)
            case hy58 => ((refine .inl ⟨by rfl, ?_⟩); intro w hS; have q0 := (Below.cell hS (p := ⟨b, off + i * 7, none⟩) hbw).trans p0; have q1 := (Below.cell hS (p := ⟨b, off + i * 7 + 1, none⟩) hbw).trans p1; have q2 := (Below.cell hS (p := ⟨b, off + i * 7 + 2, none⟩) hbw).trans p2; have q3 := (Below.cell hS (p := ⟨b, off + i * 7 + 3, none⟩) hbw).trans p3; have q4 := (Below.cell hS (p := ⟨b, off + i * 7 + 4, none⟩) hbw).trans p4; have q5 := (Below.cell hS (p := ⟨b, off + i * 7 + 5, none⟩) hbw).trans p5; have q6 := (Below.cell hS (p := ⟨b, off + i * 7 + 6, none⟩) hbw).trans p6; go_simp; (try with_reducible rfl))
            case hq58 => exact fun _ _ _ h => h
            (simp only [Act.put, List.setIfInBounds_toArray, List.set_cons_zero, List.set_cons_succ])
            refine wpAnyH_ready (rs := [4]) (by kernel_rfl) (by simp) ?_
            refine AllReadyH.cons rfl (fun K hK => ?_) AllReadyH.nil
            go_simp
            go_wp2_with ((go_at_call 39; refine (CV.out _).mono ?_; rintro e w5 ⟨rfl, hb5⟩))
            refine hK.out _ _ (belowC' hb5 hHeld) (fun hHeld => ?_)
            clear hK K
            (try simp only [Act.put, List.setIfInBounds_toArray, List.set_cons_zero, List.set_cons_succ])
            refine wpAnyH_take (i := 5) (oi := ?o59) (v := ?v59) ?hi59 (by kernel_rfl) (by kernel_rfl) (by kernel_rfl) ?hq59 ?hy59 (by assumption) ?hr59
            case hi59 => (simp only [List.getElem?_toArray, List.getElem?_cons_succ, List.getElem?_cons_zero]; rfl)
            case hy59 => ((refine .inl ⟨by rfl, ?_⟩); intro w hS; go_simp; (try with_reducible rfl))
            case hq59 => exact fun _ _ _ h => h
            (simp only [Act.put, List.setIfInBounds_toArray, List.set_cons_zero, List.set_cons_succ])
            refine wpAnyH_take (i := 6) (oi := ?o60) (v := ?v60) ?hi60 (by kernel_rfl) (by kernel_rfl) (by kernel_rfl) ?hq60 ?hy60 (by assumption) ?hr60
            case hi60 => (simp only [List.getElem?_toArray, List.getElem?_cons_succ, List.getElem?_cons_zero]; rfl)
            case hy60 => ((refine .inl ⟨by rfl, ?_⟩); intro w hS; go_simp; (try with_reducible rfl))
            case hq60 => exact fun _ _ _ h => h
            (simp only [Act.put, List.setIfInBounds_toArray, List.set_cons_zero, List.set_cons_succ])
            refine wpAnyH_take (i := 7) (oi := ?o61) (v := undef) ?hi61 (by kernel_rfl) (by kernel_rfl) (by kernel_rfl) ?hq61 ?hy61 (by assumption) ?hr61
            case hi61 => (simp only [List.getElem?_toArray, List.getElem?_cons_succ, List.getElem?_cons_zero]; rfl)
            case hy61 => exact .inr ⟨by rfl, rfl⟩
            case hq61 => exact fun _ _ _ h => h
            (simp only [Act.put, List.setIfInBounds_toArray, List.set_cons_zero, List.set_cons_succ])
            refine wpAnyH_take (i := 8) (oi := ?o62) (v := undef) ?hi62 (by kernel_rfl) (by kernel_rfl) (by kernel_rfl) ?hq62 ?hy62 (by assumption) ?hr62
            case hi62 => (simp only [List.getElem?_toArray, List.getElem?_cons_succ, List.getElem?_cons_zero]; rfl)
            case hy62 => exact .inr ⟨by rfl, rfl⟩
            case hq62 => exact fun _ _ _ h => h
            (simp only [Act.put, List.setIfInBounds_toArray, List.set_cons_zero, List.set_cons_succ])
            refine wpAnyH_take (i := 9) (oi := ?o63) (v := undef) ?hi63 (by kernel_rfl) (by kernel_rfl) (by kernel_rfl) ?hq63 ?hy63 (by assumption) ?hr63
            case hi63 => (simp only [List.getElem?_toArray, List.getElem?_cons_succ, List.getElem?_cons_zero]; rfl)
            case hy63 => exact .inr ⟨by rfl, rfl⟩
            case hq63 => exact fun _ _ _ h => h
            (simp only [Act.put, List.setIfInBounds_toArray, List.set_cons_zero, List.set_cons_succ])
            refine wpAnyH_take (i := 10) (oi := ?o64) (v := undef) ?hi64 (by kernel_rfl) (by kernel_rfl) (by kernel_rfl) ?hq64 ?hy64 (by assumption) ?hr64
            case hi64 => (simp only [List.getElem?_toArray, List.getElem?_cons_succ, List.getElem?_cons_zero]; rfl)
            case hy64 => exact .inr ⟨by rfl, rfl⟩
            case hq64 => exact fun _ _ _ h => h
            (simp only [Act.put, List.setIfInBounds_toArray, List.set_cons_zero, List.set_cons_succ])
            refine wpAnyH_take (i := 11) (oi := ?o65) (v := undef) ?hi65 (by kernel_rfl) (by kernel_rfl) (by kernel_rfl) ?hq65 ?hy65 (by assumption) ?hr65
            case hi65 => (simp only [List.getElem?_toArray, List.getElem?_cons_succ, List.getElem?_cons_zero]; rfl)
            case hy65 => exact .inr ⟨by rfl, rfl⟩
            case hq65 => exact fun _ _ _ h => h
            (simp only [Act.put, List.setIfInBounds_toArray, List.set_cons_zero, List.set_cons_succ])
            refine wpAnyH_take (i := 12) (oi := ?o66) (v := undef) ?hi66 (by kernel_rfl) (by kernel_rfl) (by kernel_rfl) ?hq66 ?hy66 (by assumption) ?hr66
            case hi66 => (simp only [List.getElem?_toArray, List.getElem?_cons_succ, List.getElem?_cons_zero]; rfl)
            case hy66 => exact .inr ⟨by rfl, rfl⟩
            case hq66 => exact fun _ _ _ h => h
            (simp only [Act.put, List.setIfInBounds_toArray, List.set_cons_zero, List.set_cons_succ])
            refine wpAnyH_take (i := 13) (oi := ?o67) (v := ?v67) ?hi67 (by kernel_rfl) (by kernel_rfl) (by kernel_rfl) ?hq67 ?hy67 (by assumption) ?hr67
            case hi67 => (simp only [List.getElem?_toArray, List.getElem?_cons_succ, List.getElem?_cons_zero]; rfl)
            case hy67 => ((refine .inl ⟨by rfl, ?_⟩); intro w hS; go_simp; (try with_reducible rfl))
            case hq67 => exact fun _ _ _ h => h
            (simp only [Act.put, List.setIfInBounds_toArray, List.set_cons_zero, List.set_cons_succ])
            refine wpAnyH_take (i := 14) (oi := ?o68) (v := ?v68) ?hi68 (by kernel_rfl) (by kernel_rfl) (by kernel_rfl) ?hq68 ?hy68 (by assumption) ?hr68
            case hi68 => (simp only [List.getElem?_toArray, List.getElem?_cons_succ, List.getElem?_cons_zero]; rfl)
            case hy68 => ((refine .inl ⟨by rfl, ?_⟩); intro w hS; go_simp; (try with_reducible rfl))
            case hq68 => exact fun _ _ _ h => h
            (simp only [Act.put, List.setIfInBounds_toArray, List.set_cons_zero, List.set_cons_succ])
            refine wpAnyH_take (i := 15) (oi := ?o69) (v := undef) ?hi69 (by kernel_rfl) (by kernel_rfl) (by kernel_rfl) ?hq69 ?hy69 (by assumption) ?hr69
            case hi69 => (simp only [List.getElem?_toArray, List.getElem?_cons_succ, List.getElem?_cons_zero]; rfl)
            case hy69 => exact .inr ⟨by rfl, rfl⟩
            case hq69 => exact fun _ _ _ h => h
            (simp only [Act.put, List.setIfInBounds_toArray, List.set_cons_zero, List.set_cons_succ])
            refine wpAnyH_take (i := 16) (oi := ?o70) (v := undef) ?hi70 (by kernel_rfl) (by kernel_rfl) (by kernel_rfl) ?hq70 ?hy70 (by assumption) ?hr70
            case hi70 => (simp only [List.getElem?_toArray, List.getElem?_cons_succ, List.getElem?_cons_zero]; rfl)
            case hy70 => exact .inr ⟨by rfl, rfl⟩
            case hq70 => exact fun _ _ _ h => h
            (simp only [Act.put, List.setIfInBounds_toArray, List.set_cons_zero, List.set_cons_succ])
            refine wpAnyH_take (i := 17) (oi := ?o71) (v := undef) ?hi71 (by kernel_rfl) (by kernel_rfl) (by kernel_rfl) ?hq71 ?hy71 (by assumption) ?hr71
            case hi71 => (simp only [List.getElem?_toArray, List.getElem?_cons_succ, List.getElem?_cons_zero]; rfl)
            case hy71 => exact .inr ⟨by rfl, rfl⟩
            case hq71 => exact fun _ _ _ h => h
            (simp only [Act.put, List.setIfInBounds_toArray, List.set_cons_zero, List.set_cons_succ])
            refine wpAnyH_take (i := 18) (oi := ?o72) (v := undef) ?hi72 (by kernel_rfl) (by kernel_rfl) (by kernel_rfl) ?hq72 ?hy72 (by assumption) ?hr72
            case hi72 => (simp only [List.getElem?_toArray, List.getElem?_cons_succ, List.getElem?_cons_zero]; rfl)
            case hy72 => exact .inr ⟨by rfl, rfl⟩
            case hq72 => exact fun _ _ _ h => h
            (simp only [Act.put, List.setIfInBounds_toArray, List.set_cons_zero, List.set_cons_succ])
            refine wpAnyH_take (i := 19) (oi := ?o73) (v := undef) ?hi73 (by kernel_rfl) (by kernel_rfl) (by kernel_rfl) ?hq73 ?hy73 (by assumption) ?hr73
            case hi73 => (simp only [List.getElem?_toArray, List.getElem?_cons_succ, List.getElem?_cons_zero]; rfl)
            case hy73 => exact .inr ⟨by rfl, rfl⟩
            case hq73 => exact fun _ _ _ h => h
            (simp only [Act.put, List.setIfInBounds_toArray, List.set_cons_zero, List.set_cons_succ])
            refine wpAnyH_take (i := 20) (oi := ?o74) (v := undef) ?hi74 (by kernel_rfl) (by kernel_rfl) (by kernel_rfl) ?hq74 ?hy74 (by assumption) ?hr74
            case hi74 => (simp only [List.getElem?_toArray, List.getElem?_cons_succ, List.getElem?_cons_zero]; rfl)
            case hy74 => exact .inr ⟨by rfl, rfl⟩
            case hq74 => exact fun _ _ _ h => h
            (simp only [Act.put, List.setIfInBounds_toArray, List.set_cons_zero, List.set_cons_succ])
            refine wpAnyH_take (i := 21) (oi := ?o75) (v := undef) ?hi75 (by kernel_rfl) (by kernel_rfl) (by kernel_rfl) ?hq75 ?hy75 (by assumption) ?hr75
            case hi75 => (simp only [List.getElem?_toArray, List.getElem?_cons_succ, List.getElem?_cons_zero]; rfl)
            case hy75 => exact .inr ⟨by rfl, rfl⟩
            case hq75 => exact fun _ _ _ h => h
            (simp only [Act.put, List.setIfInBounds_toArray, List.set_cons_zero, List.set_cons_succ])
            refine wpAnyH_take (i := 22) (oi := ?o76) (v := undef) ?hi76 (by kernel_rfl) (by kernel_rfl) (by kernel_rfl) ?hq76 ?hy76 (by assumption) ?hr76
            case hi76 => (simp only [List.getElem?_toArray, List.getElem?_cons_succ, List.getElem?_cons_zero]; rfl)
            case hy76 => exact .inr ⟨by rfl, rfl⟩
            case hq76 => exact fun _ _ _ h => h
            (simp only [Act.put, List.setIfInBounds_toArray, List.set_cons_zero, List.set_cons_succ])
            refine wpAnyH_take (i := 23) (oi := ?o77) (v := undef) ?hi77 (by kernel_rfl) (by kernel_rfl) (by kernel_rfl) ?hq77 ?hy77 (by assumption) ?hr77
            case hi77 => (simp only [List.getElem?_toArray, List.getElem?_cons_succ, List.getElem?_cons_zero]; rfl)
            case hy77 => exact .inr ⟨by rfl, rfl⟩
            case hq77 => exact fun _ _ _ h => h
            (simp only [Act.put, List.setIfInBounds_toArray, List.set_cons_zero, List.set_cons_succ])
            refine wpAnyH_take (i := 24) (oi := ?o78) (v := undef) ?hi78 (by kernel_rfl) (by kernel_rfl) (by kernel_rfl) ?hq78 ?hy78 (by assumption) ?hr78
            case hi78 => (simp only [List.getElem?_toArray, List.getElem?_cons_succ, List.getElem?_cons_zero]; rfl)
            case hy78 => exact .inr ⟨by rfl, rfl⟩
            case hq78 => exact fun _ _ _ h => h
            (simp only [Act.put, List.setIfInBounds_toArray, List.set_cons_zero, List.set_cons_succ])
            refine wpAnyH_take (i := 25) (oi := ?o79) (v := undef) ?hi79 (by kernel_rfl) (by kernel_rfl) (by kernel_rfl) ?hq79 ?hy79 (by assumption) ?hr79
            case hi79 => (simp only [List.getElem?_toArray, List.getElem?_cons_succ, List.getElem?_cons_zero]; rfl)
            case hy79 => exact .inr ⟨by rfl, rfl⟩
            case hq79 => exact fun _ _ _ h => h
            (simp only [Act.put, List.setIfInBounds_toArray, List.set_cons_zero, List.set_cons_succ])
            refine wpAnyH_take (i := 26) (oi := ?o80) (v := undef) ?hi80 (by kernel_rfl) (by kernel_rfl) (by kernel_rfl) ?hq80 ?hy80 (by assumption) ?hr80
            case hi80 => (simp only [List.getElem?_toArray, List.getElem?_cons_succ, List.getElem?_cons_zero]; rfl)
            case hy80 => exact .inr ⟨by rfl, rfl⟩
            case hq80 => exact fun _ _ _ h => h
            (simp only [Act.put, List.setIfInBounds_toArray, List.set_cons_zero, List.set_cons_succ])
            refine wpAnyH_take (i := 27) (oi := ?o81) (v := undef) ?hi81 (by kernel_rfl) (by kernel_rfl) (by kernel_rfl) ?hq81 ?hy81 (by assumption) ?hr81
            case hi81 => (simp only [List.getElem?_toArray, List.getElem?_cons_succ, List.getElem?_cons_zero]; rfl)
            case hy81 => exact .inr ⟨by rfl, rfl⟩
            case hq81 => exact fun _ _ _ h => h
            (simp only [Act.put, List.setIfInBounds_toArray, List.set_cons_zero, List.set_cons_succ])
            refine wpAnyH_take (i := 28) (oi := ?o82) (v := undef) ?hi82 (by kernel_rfl) (by kernel_rfl) (by kernel_rfl) ?hq82 ?hy82 (by assumption) ?hr82
            case hi82 => (simp only [List.getElem?_toArray, List.getElem?_cons_succ, List.getElem?_cons_zero]; rfl)
            case hy82 => exact .inr ⟨by rfl, rfl⟩
            case hq82 => exact fun _ _ _ h => h
            (simp only [Act.put, List.setIfInBounds_toArray, List.set_cons_zero, List.set_cons_succ])
            refine wpAnyH_take (i := 29) (oi := ?o83) (v := undef) ?hi83 (by kernel_rfl) (by kernel_rfl) (by kernel_rfl) ?hq83 ?hy83 (by assumption) ?hr83
            case hi83 => (simp only [List.getElem?_toArray, List.getElem?_cons_succ, List.getElem?_cons_zero]; rfl)
            case hy83 => exact .inr ⟨by rfl, rfl⟩
            case hq83 => exact fun _ _ _ h => h
            (simp only [Act.put, List.setIfInBounds_toArray, List.set_cons_zero, List.set_cons_succ])
            refine wpAnyH_take (i := 30) (oi := ?o84) (v := undef) ?hi84 (by kernel_rfl) (by kernel_rfl) (by kernel_rfl) ?hq84 ?hy84 (by assumption) ?hr84
            case hi84 => (simp only [List.getElem?_toArray, List.getElem?_cons_succ, List.getElem?_cons_zero]; rfl)
            case hy84 => exact .inr ⟨by rfl, rfl⟩
            case hq84 => exact fun _ _ _ h => h
            (simp only [Act.put, List.setIfInBounds_toArray, List.set_cons_zero, List.set_cons_succ])
            refine wpAnyH_take (i := 31) (oi := ?o85) (v := undef) ?hi85 (by kernel_rfl) (by kernel_rfl) (by kernel_rfl) ?hq85 ?hy85 (by assumption) ?hr85
            case hi85 => (simp only [List.getElem?_toArray, List.getElem?_cons_succ, List.getElem?_cons_zero]; rfl)
            case hy85 => exact .inr ⟨by rfl, rfl⟩
            case hq85 => exact fun _ _ _ h => h
            (simp only [Act.put, List.setIfInBounds_toArray, List.set_cons_zero, List.set_cons_succ])
            refine wpAnyH_take (i := 32) (oi := ?o86) (v := ?v86) ?hi86 (by kernel_rfl) (by kernel_rfl) (by kernel_rfl) ?hq86 ?hy86 (by assumption) ?hr86
            case hi86 => (simp only [List.getElem?_toArray, List.getElem?_cons_succ, List.getElem?_cons_zero]; rfl)
            case hy86 => ((refine .inl ⟨by rfl, ?_⟩); intro w hS; go_simp; (try with_reducible rfl))
            case hq86 => exact fun _ _ _ h => h
            (simp only [Act.put, List.setIfInBounds_toArray, List.set_cons_zero, List.set_cons_succ])
            refine wpAnyH_take (i := 33) (oi := ?o87) (v := ?v87) ?hi87 (by kernel_rfl) (by kernel_rfl) (by kernel_rfl) ?hq87 ?hy87 (by assumption) ?hr87
            case hi87 => (simp only [List.getElem?_toArray, List.getElem?_cons_succ, List.getElem?_cons_zero]; rfl)
            case hy87 => ((refine .inl ⟨by rfl, ?_⟩); intro w hS; go_simp; (try with_reducible rfl))
            case hq87 => exact fun _ _ _ h => h
            (simp only [Act.put, List.setIfInBounds_toArray, List.set_cons_zero, List.set_cons_succ])
            refine wpAnyH_take (i := 34) (oi := ?o88) (v := undef) ?hi88 (by kernel_rfl) (by kernel_rfl) (by kernel_rfl) ?hq88 ?hy88 (by assumption) ?hr88
            case hi88 => (simp only [List.getElem?_toArray, List.getElem?_cons_succ, List.getElem?_cons_zero]; rfl)
            case hy88 => exact .inr ⟨by rfl, rfl⟩
            case hq88 => exact fun _ _ _ h => h
            (simp only [Act.put, List.setIfInBounds_toArray, List.set_cons_zero, List.set_cons_succ])
            refine wpAnyH_take (i := 35) (oi := ?o89) (v := undef) ?hi89 (by kernel_rfl) (by kernel_rfl) (by kernel_rfl) ?hq89 ?hy89 (by assumption) ?hr89
            case hi89 => (simp only [List.getElem?_toArray, List.getElem?_cons_succ, List.getElem?_cons_zero]; rfl)
            case hy89 => exact .inr ⟨by rfl, rfl⟩
            case hq89 => exact fun _ _ _ h => h
            (simp only [Act.put, List.setIfInBounds_toArray, List.set_cons_zero, List.set_cons_succ])
            refine wpAnyH_take (i := 36) (oi := ?o90) (v := undef) ?hi90 (by kernel_rfl) (by kernel_rfl) (by kernel_rfl) ?hq90 ?hy90 (by assumption) ?hr90
            case hi90 => (simp only [List.getElem?_toArray, List.getElem?_cons_succ, List.getElem?_cons_zero]; rfl)
            case hy90 => exact .inr ⟨by rfl, rfl⟩
            case hq90 => exact fun _ _ _ h => h
            (simp only [Act.put, List.setIfInBounds_toArray, List.set_cons_zero, List.set_cons_succ])
            refine wpAnyH_take (i := 37) (oi := ?o91) (v := undef) ?hi91 (by kernel_rfl) (by kernel_rfl) (by kernel_rfl) ?hq91 ?hy91 (by assumption) ?hr91
            case hi91 => (simp only [List.getElem?_toArray, List.getElem?_cons_succ, List.getElem?_cons_zero]; rfl)
            case hy91 => exact .inr ⟨by rfl, rfl⟩
            case hq91 => exact fun _ _ _ h => h
            (simp only [Act.put, List.setIfInBounds_toArray, List.set_cons_zero, List.set_cons_succ])
            refine wpAnyH_take (i := 38) (oi := ?o92) (v := undef) ?hi92 (by kernel_rfl) (by kernel_rfl) (by kernel_rfl) ?hq92 ?hy92 (by assumption) ?hr92
            case hi92 => (simp only [List.getElem?_toArray, List.getElem?_cons_succ, List.getElem?_cons_zero]; rfl)
            case hy92 => exact .inr ⟨by rfl, rfl⟩
            case hq92 => exact fun _ _ _ h => h
            (simp only [Act.put, List.setIfInBounds_toArray, List.set_cons_zero, List.set_cons_succ])
            refine wpAnyH_take (i := 39) (oi := ?o93) (v := undef) ?hi93 (by kernel_rfl) (by kernel_rfl) (by kernel_rfl) ?hq93 ?hy93 (by assumption) ?hr93
            case hi93 => (simp only [List.getElem?_toArray, List.getElem?_cons_succ, List.getElem?_cons_zero]; rfl)
            case hy93 => exact .inr ⟨by rfl, rfl⟩
            case hq93 => exact fun _ _ _ h => h
            (simp only [Act.put, List.setIfInBounds_toArray, List.set_cons_zero, List.set_cons_succ])
            refine wpAnyH_take (i := 40) (oi := ?o94) (v := undef) ?hi94 (by kernel_rfl) (by kernel_rfl) (by kernel_rfl) ?hq94 ?hy94 (by assumption) ?hr94
            case hi94 => (simp only [List.getElem?_toArray, List.getElem?_cons_succ, List.getElem?_cons_zero]; rfl)
            case hy94 => exact .inr ⟨by rfl, rfl⟩
            case hq94 => exact fun _ _ _ h => h
            (simp only [Act.put, List.setIfInBounds_toArray, List.set_cons_zero, List.set_cons_succ])
            refine wpAnyH_take (i := 41) (oi := ?o95) (v := undef) ?hi95 (by kernel_rfl) (by kernel_rfl) (by kernel_rfl) ?hq95 ?hy95 (by assumption) ?hr95
            case hi95 => (simp only [List.getElem?_toArray, List.getElem?_cons_succ, List.getElem?_cons_zero]; rfl)
            case hy95 => exact .inr ⟨by rfl, rfl⟩
            case hq95 => exact fun _ _ _ h => h
            (simp only [Act.put, List.setIfInBounds_toArray, List.set_cons_zero, List.set_cons_succ])
            refine wpAnyH_take (i := 42) (oi := ?o96) (v := undef) ?hi96 (by kernel_rfl) (by kernel_rfl) (by kernel_rfl) ?hq96 ?hy96 (by assumption) ?hr96
            case hi96 => (simp only [List.getElem?_toArray, List.getElem?_cons_succ, List.getElem?_cons_zero]; rfl)
            case hy96 => exact .inr ⟨by rfl, rfl⟩
            case hq96 => exact fun _ _ _ h => h
            (simp only [Act.put, List.setIfInBounds_toArray, List.set_cons_zero, List.set_cons_succ])
            refine wpAnyH_take (i := 43) (oi := ?o97) (v := undef) ?hi97 (by kernel_rfl) (by kernel_rfl) (by kernel_rfl) ?hq97 ?hy97 (by assumption) ?hr97
            case hi97 => (simp only [List.getElem?_toArray, List.getElem?_cons_succ, List.getElem?_cons_zero]; rfl)
            case hy97 => exact .inr ⟨by rfl, rfl⟩
            case hq97 => exact fun _ _ _ h => h
            (simp only [Act.put, List.setIfInBounds_toArray, List.set_cons_zero, List.set_cons_succ])
            refine wpAnyH_take (i := 44) (oi := ?o98) (v := undef) ?hi98 (by kernel_rfl) (by kernel_rfl) (by kernel_rfl) ?hq98 ?hy98 (by assumption) ?hr98
            case hi98 => (simp only [List.getElem?_toArray, List.getElem?_cons_succ, List.getElem?_cons_zero]; rfl)
            case hy98 => exact .inr ⟨by rfl, rfl⟩
            case hq98 => exact fun _ _ _ h => h
            (simp only [Act.put, List.setIfInBounds_toArray, List.set_cons_zero, List.set_cons_succ])
            refine wpAnyH_take (i := 45) (oi := ?o99) (v := ?v99) ?hi99 (by kernel_rfl) (by kernel_rfl) (by kernel_rfl) ?hq99 ?hy99 (by assumption) ?hr99
            case hi99 => (simp only [List.getElem?_toArray, List.getElem?_cons_succ, List.getElem?_cons_zero]; rfl)
            case hy99 => ((refine .inl ⟨by rfl, ?_⟩); intro w hS; go_simp; (try with_reducible rfl))
            case hq99 => exact fun _ _ _ h => h
            (simp only [Act.put, List.setIfInBounds_toArray, List.set_cons_zero, List.set_cons_succ])
            refine wpAnyH_done (by kernel_rfl) ?_ _
            go_wp2_with fail
            go_meet
            exact ⟨by rw [HPE.out]; rfl, hHeld⟩
          | true =>
            by_cases hmode : mode = 0
            · subst hmode
              by_cases hi0 : 0 < (i : Int)
              · obtain ⟨j, hj⟩ : ∃ j, i = j + 1 := ⟨i - 1, by omega⟩
                obtain ⟨y, hy⟩ : ∃ y, l[j]? = some y := ⟨l[j]'(by rw [HL.out]; omega), List.getElem?_eq_getElem _⟩
                have gy := (sec_cells (HSL.out.below hbel) rfl hy).1
                have hyb := passB_sec hy (HP.out j (by omega))
                have hnb : (lba != y.lba + 1) = !nB := by
                  rw [← HNB.out, hj, nextB_succ hy]
                  dsimp only
                  rw [Bool.eq_iff_iff]
                  simp
                obtain ⟨yl, hyl⟩ : ∃ n, y.lba = n := ⟨_, rfl⟩
                rw [hyl] at gy hyb hnb
                obtain ⟨yb0, yb1⟩ := hyb
                have ej : (i : Int) - 1 = (j : Int) := by omega
                have ej2 : IntKind.i64.wrap (j : Int) = (j : Int) := IntWalk.i64_in _ (by omega)
                have ey : IntKind.i64.wrap (yl + 1) = yl + 1 := IntWalk.i64_in _ (by omega)
                have hj0 : (0 : Int) ≤ (j : Int) := by omega
                have hjl : (j : Int) < (len : Int) := by omega
                clear hj hy hyl
                have hdi : decide (0 < i) = true := decide_eq_true (by omega)
                cases nB with
                | false =>
                  refine wp_region_held_drew (S := (fun w' => Below wo.heap.size wo w')) (by kernel_rfl) ((Below.refl _ _).drew) (fun hHeld => ?_)
                  refine wpAnyH_take (i := 0) (oi := ?o234) (v := ?v234) ?hi234 (by kernel_rfl) (by kernel_rfl) (by kernel_rfl) ?hq234 ?hy234 (by assumption) ?hr234
                  case hi234 => (simp only [List.getElem?_toArray, List.getElem?_cons_zero]; rfl)
                  case hy234 => ((refine .inl ⟨by rfl, ?_⟩); intro w hS; go_simp; (try with_reducible rfl))
                  case hq234 => exact fun _ _ _ h => h
                  (simp only [Act.put, List.setIfInBounds_toArray, List.set_cons_zero, List.set_cons_succ])
                  refine wpAnyH_take (i := 1) (oi := ?o235) (v := ?v235) ?hi235 (by kernel_rfl) (by kernel_rfl) (by kernel_rfl) ?hq235 ?hy235 (by assumption) ?hr235
                  case hi235 => (simp only [List.getElem?_toArray, List.getElem?_cons_succ, List.getElem?_cons_zero]; rfl)
                  case hy235 => ((refine .inl ⟨by rfl, ?_⟩); intro w hS; go_simp; (try with_reducible rfl))
                  case hq235 => exact fun _ _ _ h => h
                  (simp only [Act.put, List.setIfInBounds_toArray, List.set_cons_zero, List.set_cons_succ])
                  refine wpAnyH_take (i := 2) (oi := ?o236) (v := ?v236) ?hi236 (by kernel_rfl) (by kernel_rfl) (by kernel_rfl) ?hq236 ?hy236 (by assumption) ?hr236
                  case hi236 => (simp only [List.getElem?_toArray, List.getElem?_cons_succ, List.getElem?_cons_zero]; rfl)
                  case hy236 => ((refine .inl ⟨by rfl, ?_⟩); intro w hS; go_simp; (try with_reducible rfl))
                  case hq236 => exact fun _ _ _ h => h
                  (simp only [Act.put, List.setIfInBounds_toArray, List.set_cons_zero, List.set_cons_succ])
                  refine wpAnyH_take (i := 3) (oi := ?o237) (v := ?v237) ?hi237 (by kernel_rfl) (by kernel_rfl) (by kernel_rfl) ?hq237 ?hy237 (by assumption) ?hr237
                  case hi237 => (simp only [List.getElem?_toArray, List.getElem?_cons_succ, List.getElem?_cons_zero]; rfl)
                  case hy237 => ((refine .inl ⟨by rfl, ?_⟩); intro w hS; have q0 := (Below.cell hS (p := ⟨b, off + i * 7, none⟩) hbw).trans p0; have q1 := (Below.cell hS (p := ⟨b, off + i * 7 + 1, none⟩) hbw).trans p1; have q2 := (Below.cell hS (p := ⟨b, off + i * 7 + 2, none⟩) hbw).trans p2; have q3 := (Below.cell hS (p := ⟨b, off + i * 7 + 3, none⟩) hbw).trans p3; have q4 := (Below.cell hS (p := ⟨b, off + i * 7 + 4, none⟩) hbw).trans p4; have q5 := (Below.cell hS (p := ⟨b, off + i * 7 + 5, none⟩) hbw).trans p5; have q6 := (Below.cell hS (p := ⟨b, off + i * 7 + 6, none⟩) hbw).trans p6; go_simp; (try with_reducible rfl))
                  case hq237 => exact fun _ _ _ h => h
                  (simp only [Act.put, List.setIfInBounds_toArray, List.set_cons_zero, List.set_cons_succ])
                  refine wpAnyH_ready (rs := [4]) (by kernel_rfl) (by simp) ?_
                  refine AllReadyH.cons rfl (fun K hK => ?_) AllReadyH.nil
                  go_simp
                  go_wp2_with ((go_at_call 39; refine (CV.out _).mono ?_; rintro e w5 ⟨rfl, hb5⟩))
                  refine hK.out _ _ (belowC' hb5 hHeld) (fun hHeld => ?_)
                  clear hK K
                  (try simp only [Act.put, List.setIfInBounds_toArray, List.set_cons_zero, List.set_cons_succ])
                  refine wpAnyH_take (i := 5) (oi := ?o238) (v := ?v238) ?hi238 (by kernel_rfl) (by kernel_rfl) (by kernel_rfl) ?hq238 ?hy238 (by assumption) ?hr238
                  case hi238 => (simp only [List.getElem?_toArray, List.getElem?_cons_succ, List.getElem?_cons_zero]; rfl)
                  case hy238 => ((refine .inl ⟨by rfl, ?_⟩); intro w hS; go_simp; (try with_reducible rfl))
                  case hq238 => exact fun _ _ _ h => h
                  (simp only [Act.put, List.setIfInBounds_toArray, List.set_cons_zero, List.set_cons_succ])
                  refine wpAnyH_take (i := 6) (oi := ?o239) (v := ?v239) ?hi239 (by kernel_rfl) (by kernel_rfl) (by kernel_rfl) ?hq239 ?hy239 (by assumption) ?hr239
                  case hi239 => (simp only [List.getElem?_toArray, List.getElem?_cons_succ, List.getElem?_cons_zero]; rfl)
                  case hy239 => ((refine .inl ⟨by rfl, ?_⟩); intro w hS; go_simp; (try with_reducible rfl))
                  case hq239 => exact fun _ _ _ h => h
                  (simp only [Act.put, List.setIfInBounds_toArray, List.set_cons_zero, List.set_cons_succ])
                  refine wpAnyH_take (i := 7) (oi := ?o240) (v := ?v240) ?hi240 (by kernel_rfl) (by kernel_rfl) (by kernel_rfl) ?hq240 ?hy240 (by assumption) ?hr240
                  case hi240 => (simp only [List.getElem?_toArray, List.getElem?_cons_succ, List.getElem?_cons_zero]; rfl)
                  case hy240 => ((refine .inl ⟨by rfl, ?_⟩); intro w hS; go_simp; (try with_reducible rfl))
                  case hq240 => exact fun _ _ _ h => h
                  (simp only [Act.put, List.setIfInBounds_toArray, List.set_cons_zero, List.set_cons_succ])
                  refine wpAnyH_take (i := 8) (oi := ?o241) (v := ?v241) ?hi241 (by kernel_rfl) (by kernel_rfl) (by kernel_rfl) ?hq241 ?hy241 (by assumption) ?hr241
                  case hi241 => (simp only [List.getElem?_toArray, List.getElem?_cons_succ, List.getElem?_cons_zero]; rfl)
                  case hy241 => ((refine .inl ⟨by rfl, ?_⟩); intro w hS; go_simp; (try with_reducible rfl))
                  case hq241 => exact fun _ _ _ h => h
                  (simp only [Act.put, List.setIfInBounds_toArray, List.set_cons_zero, List.set_cons_succ])
                  refine wpAnyH_take (i := 9) (oi := ?o242) (v := ?v242) ?hi242 (by kernel_rfl) (by kernel_rfl) (by kernel_rfl) ?hq242 ?hy242 (by assumption) ?hr242
                  case hi242 => (simp only [List.getElem?_toArray, List.getElem?_cons_succ, List.getElem?_cons_zero]; rfl)
                  case hy242 => ((refine .inl ⟨by rfl, ?_⟩); intro w hS; go_simp; (try with_reducible rfl))
                  case hq242 => exact fun _ _ _ h => h
                  (simp only [Act.put, List.setIfInBounds_toArray, List.set_cons_zero, List.set_cons_succ])
                  refine wpAnyH_take (i := 10) (oi := ?o243) (v := ?v243) ?hi243 (by kernel_rfl) (by kernel_rfl) (by kernel_rfl) ?hq243 ?hy243 (by assumption) ?hr243
                  case hi243 => (simp only [List.getElem?_toArray, List.getElem?_cons_succ, List.getElem?_cons_zero]; rfl)
                  case hy243 => ((refine .inl ⟨by rfl, ?_⟩); intro w hS; go_simp; (try with_reducible rfl))
                  case hq243 => exact fun _ _ _ h => h
                  (simp only [Act.put, List.setIfInBounds_toArray, List.set_cons_zero, List.set_cons_succ])
                  refine wpAnyH_take (i := 11) (oi := ?o244) (v := ?v244) ?hi244 (by kernel_rfl) (by kernel_rfl) (by kernel_rfl) ?hq244 ?hy244 (by assumption) ?hr244
                  case hi244 => (simp only [List.getElem?_toArray, List.getElem?_cons_succ, List.getElem?_cons_zero]; rfl)
                  case hy244 => ((refine .inl ⟨by rfl, ?_⟩); intro w hS; have q := (Below.cell hS (p := ⟨b, off + i * 7 + 1, none⟩) hbw).trans p1; go_simp; (try with_reducible rfl))
                  case hq244 => exact fun _ _ _ h => h
                  (simp only [Act.put, List.setIfInBounds_toArray, List.set_cons_zero, List.set_cons_succ])
                  refine wpAnyH_take (i := 12) (oi := ?o245) (v := ?v245) ?hi245 (by kernel_rfl) (by kernel_rfl) (by kernel_rfl) ?hq245 ?hy245 (by assumption) ?hr245
                  case hi245 => (simp only [List.getElem?_toArray, List.getElem?_cons_succ, List.getElem?_cons_zero]; rfl)
                  case hy245 => ((refine .inl ⟨by rfl, ?_⟩); intro w hS; go_simp; (try with_reducible rfl))
                  case hq245 => exact fun _ _ _ h => h
                  (simp only [Act.put, List.setIfInBounds_toArray, List.set_cons_zero, List.set_cons_succ])
                  refine wpAnyH_take (i := 13) (oi := ?o246) (v := ?v246) ?hi246 (by kernel_rfl) (by kernel_rfl) (by kernel_rfl) ?hq246 ?hy246 (by assumption) ?hr246
                  case hi246 => (simp only [List.getElem?_toArray, List.getElem?_cons_succ, List.getElem?_cons_zero]; rfl)
                  case hy246 => ((refine .inl ⟨by rfl, ?_⟩); intro w hS; go_simp; (try with_reducible rfl))
                  case hq246 => exact fun _ _ _ h => h
                  (simp only [Act.put, List.setIfInBounds_toArray, List.set_cons_zero, List.set_cons_succ])
                  refine wpAnyH_take (i := 14) (oi := ?o247) (v := ?v247) ?hi247 (by kernel_rfl) (by kernel_rfl) (by kernel_rfl) ?hq247 ?hy247 (by assumption) ?hr247
                  case hi247 => (simp only [List.getElem?_toArray, List.getElem?_cons_succ, List.getElem?_cons_zero]; rfl)
                  case hy247 => ((refine .inl ⟨by rfl, ?_⟩); intro w hS; go_simp; (try with_reducible rfl))
                  case hq247 => exact fun _ _ _ h => h
                  (simp only [Act.put, List.setIfInBounds_toArray, List.set_cons_zero, List.set_cons_succ])
                  refine wpAnyH_take (i := 15) (oi := ?o248) (v := ?v248) ?hi248 (by kernel_rfl) (by kernel_rfl) (by kernel_rfl) ?hq248 ?hy248 (by assumption) ?hr248
                  case hi248 => (simp only [List.getElem?_toArray, List.getElem?_cons_succ, List.getElem?_cons_zero]; rfl)
                  case hy248 => ((refine .inl ⟨by rfl, ?_⟩); intro w hS; go_simp; (try with_reducible rfl))
                  case hq248 => exact fun _ _ _ h => h
                  (simp only [Act.put, List.setIfInBounds_toArray, List.set_cons_zero, List.set_cons_succ])
                  refine wpAnyH_take (i := 16) (oi := ?o249) (v := ?v249) ?hi249 (by kernel_rfl) (by kernel_rfl) (by kernel_rfl) ?hq249 ?hy249 (by assumption) ?hr249
                  case hi249 => (simp only [List.getElem?_toArray, List.getElem?_cons_succ, List.getElem?_cons_zero]; rfl)
                  case hy249 => ((refine .inl ⟨by rfl, ?_⟩); intro w hS; go_simp; (try with_reducible rfl))
                  case hq249 => exact fun _ _ _ h => h
                  (simp only [Act.put, List.setIfInBounds_toArray, List.set_cons_zero, List.set_cons_succ])
                  refine wpAnyH_take (i := 17) (oi := ?o250) (v := ?v250) ?hi250 (by kernel_rfl) (by kernel_rfl) (by kernel_rfl) ?hq250 ?hy250 (by assumption) ?hr250
                  case hi250 => (simp only [List.getElem?_toArray, List.getElem?_cons_succ, List.getElem?_cons_zero]; rfl)
                  case hy250 => ((refine .inl ⟨by rfl, ?_⟩); intro w hS; go_simp; (try with_reducible rfl))
                  case hq250 => exact fun _ _ _ h => h
                  (simp only [Act.put, List.setIfInBounds_toArray, List.set_cons_zero, List.set_cons_succ])
                  refine wpAnyH_take (i := 18) (oi := ?o251) (v := ?v251) ?hi251 (by kernel_rfl) (by kernel_rfl) (by kernel_rfl) ?hq251 ?hy251 (by assumption) ?hr251
                  case hi251 => (simp only [List.getElem?_toArray, List.getElem?_cons_succ, List.getElem?_cons_zero]; rfl)
                  case hy251 => ((refine .inl ⟨by rfl, ?_⟩); intro w hS; go_simp; (try with_reducible rfl))
                  case hq251 => exact fun _ _ _ h => h
                  (simp only [Act.put, List.setIfInBounds_toArray, List.set_cons_zero, List.set_cons_succ])
                  refine wpAnyH_take (i := 19) (oi := ?o252) (v := ?v252) ?hi252 (by kernel_rfl) (by kernel_rfl) (by kernel_rfl) ?hq252 ?hy252 (by assumption) ?hr252
                  case hi252 => (simp only [List.getElem?_toArray, List.getElem?_cons_succ, List.getElem?_cons_zero]; rfl)
                  case hy252 => ((refine .inl ⟨by rfl, ?_⟩); intro w hS; go_simp; (try with_reducible rfl))
                  case hq252 => exact fun _ _ _ h => h
                  (simp only [Act.put, List.setIfInBounds_toArray, List.set_cons_zero, List.set_cons_succ])
                  refine wpAnyH_take (i := 20) (oi := ?o253) (v := ?v253) ?hi253 (by kernel_rfl) (by kernel_rfl) (by kernel_rfl) ?hq253 ?hy253 (by assumption) ?hr253
                  case hi253 => (simp only [List.getElem?_toArray, List.getElem?_cons_succ, List.getElem?_cons_zero]; rfl)
                  case hy253 => ((refine .inl ⟨by rfl, ?_⟩); intro w hS; go_simp; (try with_reducible rfl))
                  case hq253 => exact fun _ _ _ h => h
                  (simp only [Act.put, List.setIfInBounds_toArray, List.set_cons_zero, List.set_cons_succ])
                  refine wpAnyH_take (i := 21) (oi := ?o254) (v := ?v254) ?hi254 (by kernel_rfl) (by kernel_rfl) (by kernel_rfl) ?hq254 ?hy254 (by assumption) ?hr254
                  case hi254 => (simp only [List.getElem?_toArray, List.getElem?_cons_succ, List.getElem?_cons_zero]; rfl)
                  case hy254 => ((refine .inl ⟨by rfl, ?_⟩); intro w hS; go_simp; (try with_reducible rfl))
                  case hq254 => exact fun _ _ _ h => h
                  (simp only [Act.put, List.setIfInBounds_toArray, List.set_cons_zero, List.set_cons_succ])
                  refine wpAnyH_take (i := 22) (oi := ?o255) (v := ?v255) ?hi255 (by kernel_rfl) (by kernel_rfl) (by kernel_rfl) ?hq255 ?hy255 (by assumption) ?hr255
                  case hi255 => (simp only [List.getElem?_toArray, List.getElem?_cons_succ, List.getElem?_cons_zero]; rfl)
                  case hy255 => ((refine .inl ⟨by rfl, ?_⟩); intro w hS; have q := (Below.cell hS (p := ⟨b, off + i * 7, none⟩) hbw).trans p0; go_simp; (try with_reducible rfl))
                  case hq255 => exact fun _ _ _ h => h
                  (simp only [Act.put, List.setIfInBounds_toArray, List.set_cons_zero, List.set_cons_succ])
                  refine wpAnyH_take (i := 23) (oi := ?o256) (v := ?v256) ?hi256 (by kernel_rfl) (by kernel_rfl) (by kernel_rfl) ?hq256 ?hy256 (by assumption) ?hr256
                  case hi256 => (simp only [List.getElem?_toArray, List.getElem?_cons_succ, List.getElem?_cons_zero]; rfl)
                  case hy256 => ((refine .inl ⟨by rfl, ?_⟩); intro w hS; go_simp; (try with_reducible rfl))
                  case hq256 => exact fun _ _ _ h => h
                  (simp only [Act.put, List.setIfInBounds_toArray, List.set_cons_zero, List.set_cons_succ])
                  refine wpAnyH_take (i := 24) (oi := ?o257) (v := ?v257) ?hi257 (by kernel_rfl) (by kernel_rfl) (by kernel_rfl) ?hq257 ?hy257 (by assumption) ?hr257
                  case hi257 => (simp only [List.getElem?_toArray, List.getElem?_cons_succ, List.getElem?_cons_zero]; rfl)
                  case hy257 => ((refine .inl ⟨by rfl, ?_⟩); intro w hS; go_simp; (try with_reducible rfl))
                  case hq257 => exact fun _ _ _ h => h
                  (simp only [Act.put, List.setIfInBounds_toArray, List.set_cons_zero, List.set_cons_succ])
                  refine wpAnyH_take (i := 25) (oi := ?o258) (v := ?v258) ?hi258 (by kernel_rfl) (by kernel_rfl) (by kernel_rfl) ?hq258 ?hy258 (by assumption) ?hr258
                  case hi258 => (simp only [List.getElem?_toArray, List.getElem?_cons_succ, List.getElem?_cons_zero]; rfl)
                  case hy258 => ((refine .inl ⟨by rfl, ?_⟩); intro w hS; go_simp; (try with_reducible rfl))
                  case hq258 => exact fun _ _ _ h => h
                  (simp only [Act.put, List.setIfInBounds_toArray, List.set_cons_zero, List.set_cons_succ])
                  refine wpAnyH_take (i := 26) (oi := ?o259) (v := ?v259) ?hi259 (by kernel_rfl) (by kernel_rfl) (by kernel_rfl) ?hq259 ?hy259 (by assumption) ?hr259
                  case hi259 => (simp only [List.getElem?_toArray, List.getElem?_cons_succ, List.getElem?_cons_zero]; rfl)
                  case hy259 => ((refine .inl ⟨by rfl, ?_⟩); intro w hS; go_simp; (try with_reducible rfl))
                  case hq259 => exact fun _ _ _ h => h
                  (simp only [Act.put, List.setIfInBounds_toArray, List.set_cons_zero, List.set_cons_succ])
                  refine wpAnyH_take (i := 27) (oi := ?o260) (v := ?v260) ?hi260 (by kernel_rfl) (by kernel_rfl) (by kernel_rfl) ?hq260 ?hy260 (by assumption) ?hr260
                  case hi260 => (simp only [List.getElem?_toArray, List.getElem?_cons_succ, List.getElem?_cons_zero]; rfl)
                  case hy260 => ((refine .inl ⟨by rfl, ?_⟩); intro w hS; go_simp; (try with_reducible rfl))
                  case hq260 => exact fun _ _ _ h => h
                  (simp only [Act.put, List.setIfInBounds_toArray, List.set_cons_zero, List.set_cons_succ])
                  refine wpAnyH_take (i := 28) (oi := ?o261) (v := ?v261) ?hi261 (by kernel_rfl) (by kernel_rfl) (by kernel_rfl) ?hq261 ?hy261 (by assumption) ?hr261
                  case hi261 => (simp only [List.getElem?_toArray, List.getElem?_cons_succ, List.getElem?_cons_zero]; rfl)
                  case hy261 => ((refine .inl ⟨by rfl, ?_⟩); intro w hS; have q := (Below.cell hS (p := ⟨b, off + j * 7, none⟩) hbw).trans gy; go_simp; (try with_reducible rfl))
                  case hq261 => exact fun _ _ _ h => h
                  (simp only [Act.put, List.setIfInBounds_toArray, List.set_cons_zero, List.set_cons_succ])
                  refine wpAnyH_take (i := 29) (oi := ?o262) (v := ?v262) ?hi262 (by kernel_rfl) (by kernel_rfl) (by kernel_rfl) ?hq262 ?hy262 (by assumption) ?hr262
                  case hi262 => (simp only [List.getElem?_toArray, List.getElem?_cons_succ, List.getElem?_cons_zero]; rfl)
                  case hy262 => ((refine .inl ⟨by rfl, ?_⟩); intro w hS; go_simp; (try with_reducible rfl))
                  case hq262 => exact fun _ _ _ h => h
                  (simp only [Act.put, List.setIfInBounds_toArray, List.set_cons_zero, List.set_cons_succ])
                  refine wpAnyH_take (i := 30) (oi := ?o263) (v := ?v263) ?hi263 (by kernel_rfl) (by kernel_rfl) (by kernel_rfl) ?hq263 ?hy263 (by assumption) ?hr263
                  case hi263 => (simp only [List.getElem?_toArray, List.getElem?_cons_succ, List.getElem?_cons_zero]; rfl)
                  case hy263 => ((refine .inl ⟨by rfl, ?_⟩); intro w hS; go_simp; (try with_reducible rfl))
                  case hq263 => exact fun _ _ _ h => h
                  (simp only [Act.put, List.setIfInBounds_toArray, List.set_cons_zero, List.set_cons_succ])
                  refine wpAnyH_take (i := 31) (oi := ?o264) (v := ?v264) ?hi264 (by kernel_rfl) (by kernel_rfl) (by kernel_rfl) ?hq264 ?hy264 (by assumption) ?hr264
                  case hi264 => (simp only [List.getElem?_toArray, List.getElem?_cons_succ, List.getElem?_cons_zero]; rfl)
                  case hy264 => ((refine .inl ⟨by rfl, ?_⟩); intro w hS; go_simp; (try with_reducible rfl))
                  case hq264 => exact fun _ _ _ h => h
                  (simp only [Act.put, List.setIfInBounds_toArray, List.set_cons_zero, List.set_cons_succ])
                  refine wpAnyH_take (i := 32) (oi := ?o265) (v := ?v265) ?hi265 (by kernel_rfl) (by kernel_rfl) (by kernel_rfl) ?hq265 ?hy265 (by assumption) ?hr265
                  case hi265 => (simp only [List.getElem?_toArray, List.getElem?_cons_succ, List.getElem?_cons_zero]; rfl)
                  case hy265 => ((refine .inl ⟨by rfl, ?_⟩); intro w hS; go_simp; (try with_reducible rfl))
                  case hq265 => exact fun _ _ _ h => h
                  (simp only [Act.put, List.setIfInBounds_toArray, List.set_cons_zero, List.set_cons_succ])
                  refine wpAnyH_take (i := 33) (oi := ?o266) (v := ?v266) ?hi266 (by kernel_rfl) (by kernel_rfl) (by kernel_rfl) ?hq266 ?hy266 (by assumption) ?hr266
                  case hi266 => (simp only [List.getElem?_toArray, List.getElem?_cons_succ, List.getElem?_cons_zero]; rfl)
                  case hy266 => ((refine .inl ⟨by rfl, ?_⟩); intro w hS; go_simp; (try with_reducible rfl))
                  case hq266 => exact fun _ _ _ h => h
                  (simp only [Act.put, List.setIfInBounds_toArray, List.set_cons_zero, List.set_cons_succ])
                  refine wpAnyH_take (i := 34) (oi := ?o267) (v := undef) ?hi267 (by kernel_rfl) (by kernel_rfl) (by kernel_rfl) ?hq267 ?hy267 (by assumption) ?hr267
                  case hi267 => (simp only [List.getElem?_toArray, List.getElem?_cons_succ, List.getElem?_cons_zero]; rfl)
                  case hy267 => exact .inr ⟨by rfl, rfl⟩
                  case hq267 => exact fun _ _ _ h => h
                  (simp only [Act.put, List.setIfInBounds_toArray, List.set_cons_zero, List.set_cons_succ])
                  refine wpAnyH_take (i := 35) (oi := ?o268) (v := undef) ?hi268 (by kernel_rfl) (by kernel_rfl) (by kernel_rfl) ?hq268 ?hy268 (by assumption) ?hr268
                  case hi268 => (simp only [List.getElem?_toArray, List.getElem?_cons_succ, List.getElem?_cons_zero]; rfl)
                  case hy268 => exact .inr ⟨by rfl, rfl⟩
                  case hq268 => exact fun _ _ _ h => h
                  (simp only [Act.put, List.setIfInBounds_toArray, List.set_cons_zero, List.set_cons_succ])
                  refine wpAnyH_take (i := 36) (oi := ?o269) (v := undef) ?hi269 (by kernel_rfl) (by kernel_rfl) (by kernel_rfl) ?hq269 ?hy269 (by assumption) ?hr269
                  case hi269 => (simp only [List.getElem?_toArray, List.getElem?_cons_succ, List.getElem?_cons_zero]; rfl)
                  case hy269 => exact .inr ⟨by rfl, rfl⟩
                  case hq269 => exact fun _ _ _ h => h
                  (simp only [Act.put, List.setIfInBounds_toArray, List.set_cons_zero, List.set_cons_succ])
                  refine wpAnyH_take (i := 37) (oi := ?o270) (v := undef) ?hi270 (by kernel_rfl) (by kernel_rfl) (by kernel_rfl) ?hq270 ?hy270 (by assumption) ?hr270
                  case hi270 => (simp only [List.getElem?_toArray, List.getElem?_cons_succ, List.getElem?_cons_zero]; rfl)
                  case hy270 => exact .inr ⟨by rfl, rfl⟩
                  case hq270 => exact fun _ _ _ h => h
                  (simp only [Act.put, List.setIfInBounds_toArray, List.set_cons_zero, List.set_cons_succ])
                  refine wpAnyH_take (i := 38) (oi := ?o271) (v := undef) ?hi271 (by kernel_rfl) (by kernel_rfl) (by kernel_rfl) ?hq271 ?hy271 (by assumption) ?hr271
                  case hi271 => (simp only [List.getElem?_toArray, List.getElem?_cons_succ, List.getElem?_cons_zero]; rfl)
                  case hy271 => exact .inr ⟨by rfl, rfl⟩
                  case hq271 => exact fun _ _ _ h => h
                  (simp only [Act.put, List.setIfInBounds_toArray, List.set_cons_zero, List.set_cons_succ])
                  refine wpAnyH_take (i := 39) (oi := ?o272) (v := undef) ?hi272 (by kernel_rfl) (by kernel_rfl) (by kernel_rfl) ?hq272 ?hy272 (by assumption) ?hr272
                  case hi272 => (simp only [List.getElem?_toArray, List.getElem?_cons_succ, List.getElem?_cons_zero]; rfl)
                  case hy272 => exact .inr ⟨by rfl, rfl⟩
                  case hq272 => exact fun _ _ _ h => h
                  (simp only [Act.put, List.setIfInBounds_toArray, List.set_cons_zero, List.set_cons_succ])
                  refine wpAnyH_take (i := 40) (oi := ?o273) (v := undef) ?hi273 (by kernel_rfl) (by kernel_rfl) (by kernel_rfl) ?hq273 ?hy273 (by assumption) ?hr273
                  case hi273 => (simp only [List.getElem?_toArray, List.getElem?_cons_succ, List.getElem?_cons_zero]; rfl)
                  case hy273 => exact .inr ⟨by rfl, rfl⟩
                  case hq273 => exact fun _ _ _ h => h
                  (simp only [Act.put, List.setIfInBounds_toArray, List.set_cons_zero, List.set_cons_succ])
                  refine wpAnyH_take (i := 41) (oi := ?o274) (v := undef) ?hi274 (by kernel_rfl) (by kernel_rfl) (by kernel_rfl) ?hq274 ?hy274 (by assumption) ?hr274
                  case hi274 => (simp only [List.getElem?_toArray, List.getElem?_cons_succ, List.getElem?_cons_zero]; rfl)
                  case hy274 => exact .inr ⟨by rfl, rfl⟩
                  case hq274 => exact fun _ _ _ h => h
                  (simp only [Act.put, List.setIfInBounds_toArray, List.set_cons_zero, List.set_cons_succ])
                  refine wpAnyH_take (i := 42) (oi := ?o275) (v := undef) ?hi275 (by kernel_rfl) (by kernel_rfl) (by kernel_rfl) ?hq275 ?hy275 (by assumption) ?hr275
                  case hi275 => (simp only [List.getElem?_toArray, List.getElem?_cons_succ, List.getElem?_cons_zero]; rfl)
                  case hy275 => exact .inr ⟨by rfl, rfl⟩
                  case hq275 => exact fun _ _ _ h => h
                  (simp only [Act.put, List.setIfInBounds_toArray, List.set_cons_zero, List.set_cons_succ])
                  refine wpAnyH_take (i := 43) (oi := ?o276) (v := undef) ?hi276 (by kernel_rfl) (by kernel_rfl) (by kernel_rfl) ?hq276 ?hy276 (by assumption) ?hr276
                  case hi276 => (simp only [List.getElem?_toArray, List.getElem?_cons_succ, List.getElem?_cons_zero]; rfl)
                  case hy276 => exact .inr ⟨by rfl, rfl⟩
                  case hq276 => exact fun _ _ _ h => h
                  (simp only [Act.put, List.setIfInBounds_toArray, List.set_cons_zero, List.set_cons_succ])
                  refine wpAnyH_take (i := 44) (oi := ?o277) (v := undef) ?hi277 (by kernel_rfl) (by kernel_rfl) (by kernel_rfl) ?hq277 ?hy277 (by assumption) ?hr277
                  case hi277 => (simp only [List.getElem?_toArray, List.getElem?_cons_succ, List.getElem?_cons_zero]; rfl)
                  case hy277 => exact .inr ⟨by rfl, rfl⟩
                  case hq277 => exact fun _ _ _ h => h
                  (simp only [Act.put, List.setIfInBounds_toArray, List.set_cons_zero, List.set_cons_succ])
                  refine wpAnyH_take (i := 45) (oi := ?o278) (v := ?v278) ?hi278 (by kernel_rfl) (by kernel_rfl) (by kernel_rfl) ?hq278 ?hy278 (by assumption) ?hr278
                  case hi278 => (simp only [List.getElem?_toArray, List.getElem?_cons_succ, List.getElem?_cons_zero]; rfl)
                  case hy278 => ((refine .inl ⟨by rfl, ?_⟩); intro w hS; go_simp; (try with_reducible rfl))
                  case hq278 => exact fun _ _ _ h => h
                  (simp only [Act.put, List.setIfInBounds_toArray, List.set_cons_zero, List.set_cons_succ])
                  refine wpAnyH_done (by kernel_rfl) ?_ _
                  go_wp2_with fail
                  go_meet
                  exact ⟨by rw [HPE.out]; rfl, hHeld⟩
                | true =>
                  cases uB with
                  | true =>
                    refine wp_region_held_drew (S := (fun w' => Below wo.heap.size wo w')) (by kernel_rfl) ((Below.refl _ _).drew) (fun hHeld => ?_)
                    refine wpAnyH_take (i := 0) (oi := ?o279) (v := ?v279) ?hi279 (by kernel_rfl) (by kernel_rfl) (by kernel_rfl) ?hq279 ?hy279 (by assumption) ?hr279
                    case hi279 => (simp only [List.getElem?_toArray, List.getElem?_cons_zero]; rfl)
                    case hy279 => ((refine .inl ⟨by rfl, ?_⟩); intro w hS; go_simp; (try with_reducible rfl))
                    case hq279 => exact fun _ _ _ h => h
                    (simp only [Act.put, List.setIfInBounds_toArray, List.set_cons_zero, List.set_cons_succ])
                    refine wpAnyH_take (i := 1) (oi := ?o280) (v := ?v280) ?hi280 (by kernel_rfl) (by kernel_rfl) (by kernel_rfl) ?hq280 ?hy280 (by assumption) ?hr280
                    case hi280 => (simp only [List.getElem?_toArray, List.getElem?_cons_succ, List.getElem?_cons_zero]; rfl)
                    case hy280 => ((refine .inl ⟨by rfl, ?_⟩); intro w hS; go_simp; (try with_reducible rfl))
                    case hq280 => exact fun _ _ _ h => h
                    (simp only [Act.put, List.setIfInBounds_toArray, List.set_cons_zero, List.set_cons_succ])
                    refine wpAnyH_take (i := 2) (oi := ?o281) (v := ?v281) ?hi281 (by kernel_rfl) (by kernel_rfl) (by kernel_rfl) ?hq281 ?hy281 (by assumption) ?hr281
                    case hi281 => (simp only [List.getElem?_toArray, List.getElem?_cons_succ, List.getElem?_cons_zero]; rfl)
                    case hy281 => ((refine .inl ⟨by rfl, ?_⟩); intro w hS; go_simp; (try with_reducible rfl))
                    case hq281 => exact fun _ _ _ h => h
                    (simp only [Act.put, List.setIfInBounds_toArray, List.set_cons_zero, List.set_cons_succ])
                    refine wpAnyH_take (i := 3) (oi := ?o282) (v := ?v282) ?hi282 (by kernel_rfl) (by kernel_rfl) (by kernel_rfl) ?hq282 ?hy282 (by assumption) ?hr282
                    case hi282 => (simp only [List.getElem?_toArray, List.getElem?_cons_succ, List.getElem?_cons_zero]; rfl)
                    case hy282 => ((refine .inl ⟨by rfl, ?_⟩); intro w hS; have q0 := (Below.cell hS (p := ⟨b, off + i * 7, none⟩) hbw).trans p0; have q1 := (Below.cell hS (p := ⟨b, off + i * 7 + 1, none⟩) hbw).trans p1; have q2 := (Below.cell hS (p := ⟨b, off + i * 7 + 2, none⟩) hbw).trans p2; have q3 := (Below.cell hS (p := ⟨b, off + i * 7 + 3, none⟩) hbw).trans p3; have q4 := (Below.cell hS (p := ⟨b, off + i * 7 + 4, none⟩) hbw).trans p4; have q5 := (Below.cell hS (p := ⟨b, off + i * 7 + 5, none⟩) hbw).trans p5; have q6 := (Below.cell hS (p := ⟨b, off + i * 7 + 6, none⟩) hbw).trans p6; go_simp; (try with_reducible rfl))
                    case hq282 => exact fun _ _ _ h => h
                    (simp only [Act.put, List.setIfInBounds_toArray, List.set_cons_zero, List.set_cons_succ])
                    refine wpAnyH_ready (rs := [4]) (by kernel_rfl) (by simp) ?_
                    refine AllReadyH.cons rfl (fun K hK => ?_) AllReadyH.nil
                    go_simp
                    go_wp2_with ((go_at_call 39; refine (CV.out _).mono ?_; rintro e w5 ⟨rfl, hb5⟩))
                    refine hK.out _ _ (belowC' hb5 hHeld) (fun hHeld => ?_)
                    clear hK K
                    (try simp only [Act.put, List.setIfInBounds_toArray, List.set_cons_zero, List.set_cons_succ])
                    refine wpAnyH_take (i := 5) (oi := ?o283) (v := ?v283) ?hi283 (by kernel_rfl) (by kernel_rfl) (by kernel_rfl) ?hq283 ?hy283 (by assumption) ?hr283
                    case hi283 => (simp only [List.getElem?_toArray, List.getElem?_cons_succ, List.getElem?_cons_zero]; rfl)
                    case hy283 => ((refine .inl ⟨by rfl, ?_⟩); intro w hS; go_simp; (try with_reducible rfl))
                    case hq283 => exact fun _ _ _ h => h
                    (simp only [Act.put, List.setIfInBounds_toArray, List.set_cons_zero, List.set_cons_succ])
                    refine wpAnyH_take (i := 6) (oi := ?o284) (v := ?v284) ?hi284 (by kernel_rfl) (by kernel_rfl) (by kernel_rfl) ?hq284 ?hy284 (by assumption) ?hr284
                    case hi284 => (simp only [List.getElem?_toArray, List.getElem?_cons_succ, List.getElem?_cons_zero]; rfl)
                    case hy284 => ((refine .inl ⟨by rfl, ?_⟩); intro w hS; go_simp; (try with_reducible rfl))
                    case hq284 => exact fun _ _ _ h => h
                    (simp only [Act.put, List.setIfInBounds_toArray, List.set_cons_zero, List.set_cons_succ])
                    refine wpAnyH_take (i := 7) (oi := ?o285) (v := ?v285) ?hi285 (by kernel_rfl) (by kernel_rfl) (by kernel_rfl) ?hq285 ?hy285 (by assumption) ?hr285
                    case hi285 => (simp only [List.getElem?_toArray, List.getElem?_cons_succ, List.getElem?_cons_zero]; rfl)
                    case hy285 => ((refine .inl ⟨by rfl, ?_⟩); intro w hS; go_simp; (try with_reducible rfl))
                    case hq285 => exact fun _ _ _ h => h
                    (simp only [Act.put, List.setIfInBounds_toArray, List.set_cons_zero, List.set_cons_succ])
                    refine wpAnyH_take (i := 8) (oi := ?o286) (v := ?v286) ?hi286 (by kernel_rfl) (by kernel_rfl) (by kernel_rfl) ?hq286 ?hy286 (by assumption) ?hr286
                    case hi286 => (simp only [List.getElem?_toArray, List.getElem?_cons_succ, List.getElem?_cons_zero]; rfl)
                    case hy286 => ((refine .inl ⟨by rfl, ?_⟩); intro w hS; go_simp; (try with_reducible rfl))
                    case hq286 => exact fun _ _ _ h => h
                    (simp only [Act.put, List.setIfInBounds_toArray, List.set_cons_zero, List.set_cons_succ])
                    refine wpAnyH_take (i := 9) (oi := ?o287) (v := ?v287) ?hi287 (by kernel_rfl) (by kernel_rfl) (by kernel_rfl) ?hq287 ?hy287 (by assumption) ?hr287
                    case hi287 => (simp only [List.getElem?_toArray, List.getElem?_cons_succ, List.getElem?_cons_zero]; rfl)
                    case hy287 => ((refine .inl ⟨by rfl, ?_⟩); intro w hS; go_simp; (try with_reducible rfl))
                    case hq287 => exact fun _ _ _ h => h
                    (simp only [Act.put, List.setIfInBounds_toArray, List.set_cons_zero, List.set_cons_succ])
                    refine wpAnyH_take (i := 10) (oi := ?o288) (v := ?v288) ?hi288 (by kernel_rfl) (by kernel_rfl) (by kernel_rfl) ?hq288 ?hy288 (by assumption) ?hr288
                    case hi288 => (simp only [List.getElem?_toArray, List.getElem?_cons_succ, List.getElem?_cons_zero]; rfl)
                    case hy288 => ((refine .inl ⟨by rfl, ?_⟩); intro w hS; go_simp; (try with_reducible rfl))
                    case hq288 => exact fun _ _ _ h => h
                    (simp only [Act.put, List.setIfInBounds_toArray, List.set_cons_zero, List.set_cons_succ])
                    refine wpAnyH_take (i := 11) (oi := ?o289) (v := ?v289) ?hi289 (by kernel_rfl) (by kernel_rfl) (by kernel_rfl) ?hq289 ?hy289 (by assumption) ?hr289
                    case hi289 => (simp only [List.getElem?_toArray, List.getElem?_cons_succ, List.getElem?_cons_zero]; rfl)
                    case hy289 => ((refine .inl ⟨by rfl, ?_⟩); intro w hS; have q := (Below.cell hS (p := ⟨b, off + i * 7 + 1, none⟩) hbw).trans p1; go_simp; (try with_reducible rfl))
                    case hq289 => exact fun _ _ _ h => h
                    (simp only [Act.put, List.setIfInBounds_toArray, List.set_cons_zero, List.set_cons_succ])
                    refine wpAnyH_take (i := 12) (oi := ?o290) (v := ?v290) ?hi290 (by kernel_rfl) (by kernel_rfl) (by kernel_rfl) ?hq290 ?hy290 (by assumption) ?hr290
                    case hi290 => (simp only [List.getElem?_toArray, List.getElem?_cons_succ, List.getElem?_cons_zero]; rfl)
                    case hy290 => ((refine .inl ⟨by rfl, ?_⟩); intro w hS; go_simp; (try with_reducible rfl))
                    case hq290 => exact fun _ _ _ h => h
                    (simp only [Act.put, List.setIfInBounds_toArray, List.set_cons_zero, List.set_cons_succ])
                    refine wpAnyH_take (i := 13) (oi := ?o291) (v := ?v291) ?hi291 (by kernel_rfl) (by kernel_rfl) (by kernel_rfl) ?hq291 ?hy291 (by assumption) ?hr291
                    case hi291 => (simp only [List.getElem?_toArray, List.getElem?_cons_succ, List.getElem?_cons_zero]; rfl)
                    case hy291 => ((refine .inl ⟨by rfl, ?_⟩); intro w hS; go_simp; (try with_reducible rfl))
                    case hq291 => exact fun _ _ _ h => h
                    (simp only [Act.put, List.setIfInBounds_toArray, List.set_cons_zero, List.set_cons_succ])
                    refine wpAnyH_take (i := 14) (oi := ?o292) (v := ?v292) ?hi292 (by kernel_rfl) (by kernel_rfl) (by kernel_rfl) ?hq292 ?hy292 (by assumption) ?hr292
                    case hi292 => (simp only [List.getElem?_toArray, List.getElem?_cons_succ, List.getElem?_cons_zero]; rfl)
                    case hy292 => ((refine .inl ⟨by rfl, ?_⟩); intro w hS; go_simp; (try with_reducible rfl))
                    case hq292 => exact fun _ _ _ h => h
                    (simp only [Act.put, List.setIfInBounds_toArray, List.set_cons_zero, List.set_cons_succ])
                    refine wpAnyH_take (i := 15) (oi := ?o293) (v := ?v293) ?hi293 (by kernel_rfl) (by kernel_rfl) (by kernel_rfl) ?hq293 ?hy293 (by assumption) ?hr293
                    case hi293 => (simp only [List.getElem?_toArray, List.getElem?_cons_succ, List.getElem?_cons_zero]; rfl)
                    case hy293 => ((refine .inl ⟨by rfl, ?_⟩); intro w hS; go_simp; (try with_reducible rfl))
                    case hq293 => exact fun _ _ _ h => h
                    (simp only [Act.put, List.setIfInBounds_toArray, List.set_cons_zero, List.set_cons_succ])
                    refine wpAnyH_take (i := 16) (oi := ?o294) (v := ?v294) ?hi294 (by kernel_rfl) (by kernel_rfl) (by kernel_rfl) ?hq294 ?hy294 (by assumption) ?hr294
                    case hi294 => (simp only [List.getElem?_toArray, List.getElem?_cons_succ, List.getElem?_cons_zero]; rfl)
                    case hy294 => ((refine .inl ⟨by rfl, ?_⟩); intro w hS; go_simp; (try with_reducible rfl))
                    case hq294 => exact fun _ _ _ h => h
                    (simp only [Act.put, List.setIfInBounds_toArray, List.set_cons_zero, List.set_cons_succ])
                    refine wpAnyH_take (i := 17) (oi := ?o295) (v := ?v295) ?hi295 (by kernel_rfl) (by kernel_rfl) (by kernel_rfl) ?hq295 ?hy295 (by assumption) ?hr295
                    case hi295 => (simp only [List.getElem?_toArray, List.getElem?_cons_succ, List.getElem?_cons_zero]; rfl)
                    case hy295 => ((refine .inl ⟨by rfl, ?_⟩); intro w hS; go_simp; (try with_reducible rfl))
                    case hq295 => exact fun _ _ _ h => h
                    (simp only [Act.put, List.setIfInBounds_toArray, List.set_cons_zero, List.set_cons_succ])
                    refine wpAnyH_take (i := 18) (oi := ?o296) (v := ?v296) ?hi296 (by kernel_rfl) (by kernel_rfl) (by kernel_rfl) ?hq296 ?hy296 (by assumption) ?hr296
                    case hi296 => (simp only [List.getElem?_toArray, List.getElem?_cons_succ, List.getElem?_cons_zero]; rfl)
                    case hy296 => ((refine .inl ⟨by rfl, ?_⟩); intro w hS; go_simp; (try with_reducible rfl))
                    case hq296 => exact fun _ _ _ h => h
                    (simp only [Act.put, List.setIfInBounds_toArray, List.set_cons_zero, List.set_cons_succ])
                    refine wpAnyH_take (i := 19) (oi := ?o297) (v := ?v297) ?hi297 (by kernel_rfl) (by kernel_rfl) (by kernel_rfl) ?hq297 ?hy297 (by assumption) ?hr297
                    case hi297 => (simp only [List.getElem?_toArray, List.getElem?_cons_succ, List.getElem?_cons_zero]; rfl)
                    case hy297 => ((refine .inl ⟨by rfl, ?_⟩); intro w hS; go_simp; (try with_reducible rfl))
                    case hq297 => exact fun _ _ _ h => h
                    (simp only [Act.put, List.setIfInBounds_toArray, List.set_cons_zero, List.set_cons_succ])
                    refine wpAnyH_take (i := 20) (oi := ?o298) (v := ?v298) ?hi298 (by kernel_rfl) (by kernel_rfl) (by kernel_rfl) ?hq298 ?hy298 (by assumption) ?hr298
                    case hi298 => (simp only [List.getElem?_toArray, List.getElem?_cons_succ, List.getElem?_cons_zero]; rfl)
                    case hy298 => ((refine .inl ⟨by rfl, ?_⟩); intro w hS; go_simp; (try with_reducible rfl))
                    case hq298 => exact fun _ _ _ h => h
                    (simp only [Act.put, List.setIfInBounds_toArray, List.set_cons_zero, List.set_cons_succ])
                    refine wpAnyH_take (i := 21) (oi := ?o299) (v := ?v299) ?hi299 (by kernel_rfl) (by kernel_rfl) (by kernel_rfl) ?hq299 ?hy299 (by assumption) ?hr299
                    case hi299 => (simp only [List.getElem?_toArray, List.getElem?_cons_succ, List.getElem?_cons_zero]; rfl)
                    case hy299 => ((refine .inl ⟨by rfl, ?_⟩); intro w hS; go_simp; (try with_reducible rfl))
                    case hq299 => exact fun _ _ _ h => h
                    (simp only [Act.put, List.setIfInBounds_toArray, List.set_cons_zero, List.set_cons_succ])
                    refine wpAnyH_take (i := 22) (oi := ?o300) (v := ?v300) ?hi300 (by kernel_rfl) (by kernel_rfl) (by kernel_rfl) ?hq300 ?hy300 (by assumption) ?hr300
                    case hi300 => (simp only [List.getElem?_toArray, List.getElem?_cons_succ, List.getElem?_cons_zero]; rfl)
                    case hy300 => ((refine .inl ⟨by rfl, ?_⟩); intro w hS; have q := (Below.cell hS (p := ⟨b, off + i * 7, none⟩) hbw).trans p0; go_simp; (try with_reducible rfl))
                    case hq300 => exact fun _ _ _ h => h
                    (simp only [Act.put, List.setIfInBounds_toArray, List.set_cons_zero, List.set_cons_succ])
                    refine wpAnyH_take (i := 23) (oi := ?o301) (v := ?v301) ?hi301 (by kernel_rfl) (by kernel_rfl) (by kernel_rfl) ?hq301 ?hy301 (by assumption) ?hr301
                    case hi301 => (simp only [List.getElem?_toArray, List.getElem?_cons_succ, List.getElem?_cons_zero]; rfl)
                    case hy301 => ((refine .inl ⟨by rfl, ?_⟩); intro w hS; go_simp; (try with_reducible rfl))
                    case hq301 => exact fun _ _ _ h => h
                    (simp only [Act.put, List.setIfInBounds_toArray, List.set_cons_zero, List.set_cons_succ])
                    refine wpAnyH_take (i := 24) (oi := ?o302) (v := ?v302) ?hi302 (by kernel_rfl) (by kernel_rfl) (by kernel_rfl) ?hq302 ?hy302 (by assumption) ?hr302
                    case hi302 => (simp only [List.getElem?_toArray, List.getElem?_cons_succ, List.getElem?_cons_zero]; rfl)
                    case hy302 => ((refine .inl ⟨by rfl, ?_⟩); intro w hS; go_simp; (try with_reducible rfl))
                    case hq302 => exact fun _ _ _ h => h
                    (simp only [Act.put, List.setIfInBounds_toArray, List.set_cons_zero, List.set_cons_succ])
                    refine wpAnyH_take (i := 25) (oi := ?o303) (v := ?v303) ?hi303 (by kernel_rfl) (by kernel_rfl) (by kernel_rfl) ?hq303 ?hy303 (by assumption) ?hr303
                    case hi303 => (simp only [List.getElem?_toArray, List.getElem?_cons_succ, List.getElem?_cons_zero]; rfl)
                    case hy303 => ((refine .inl ⟨by rfl, ?_⟩); intro w hS; go_simp; (try with_reducible rfl))
                    case hq303 => exact fun _ _ _ h => h
                    (simp only [Act.put, List.setIfInBounds_toArray, List.set_cons_zero, List.set_cons_succ])
                    refine wpAnyH_take (i := 26) (oi := ?o304) (v := ?v304) ?hi304 (by kernel_rfl) (by kernel_rfl) (by kernel_rfl) ?hq304 ?hy304 (by assumption) ?hr304
                    case hi304 => (simp only [List.getElem?_toArray, List.getElem?_cons_succ, List.getElem?_cons_zero]; rfl)
                    case hy304 => ((refine .inl ⟨by rfl, ?_⟩); intro w hS; go_simp; (try with_reducible rfl))
                    case hq304 => exact fun _ _ _ h => h
                    (simp only [Act.put, List.setIfInBounds_toArray, List.set_cons_zero, List.set_cons_succ])
                    refine wpAnyH_take (i := 27) (oi := ?o305) (v := ?v305) ?hi305 (by kernel_rfl) (by kernel_rfl) (by kernel_rfl) ?hq305 ?hy305 (by assumption) ?hr305
                    case hi305 => (simp only [List.getElem?_toArray, List.getElem?_cons_succ, List.getElem?_cons_zero]; rfl)
                    case hy305 => ((refine .inl ⟨by rfl, ?_⟩); intro w hS; go_simp; (try with_reducible rfl))
                    case hq305 => exact fun _ _ _ h => h
                    (simp only [Act.put, List.setIfInBounds_toArray, List.set_cons_zero, List.set_cons_succ])
                    refine wpAnyH_take (i := 28) (oi := ?o306) (v := ?v306) ?hi306 (by kernel_rfl) (by kernel_rfl) (by kernel_rfl) ?hq306 ?hy306 (by assumption) ?hr306
                    case hi306 => (simp only [List.getElem?_toArray, List.getElem?_cons_succ, List.getElem?_cons_zero]; rfl)
                    case hy306 => ((refine .inl ⟨by rfl, ?_⟩); intro w hS; have q := (Below.cell hS (p := ⟨b, off + j * 7, none⟩) hbw).trans gy; go_simp; (try with_reducible rfl))
                    case hq306 => exact fun _ _ _ h => h
                    (simp only [Act.put, List.setIfInBounds_toArray, List.set_cons_zero, List.set_cons_succ])
                    refine wpAnyH_take (i := 29) (oi := ?o307) (v := ?v307) ?hi307 (by kernel_rfl) (by kernel_rfl) (by kernel_rfl) ?hq307 ?hy307 (by assumption) ?hr307
                    case hi307 => (simp only [List.getElem?_toArray, List.getElem?_cons_succ, List.getElem?_cons_zero]; rfl)
                    case hy307 => ((refine .inl ⟨by rfl, ?_⟩); intro w hS; go_simp; (try with_reducible rfl))
                    case hq307 => exact fun _ _ _ h => h
                    (simp only [Act.put, List.setIfInBounds_toArray, List.set_cons_zero, List.set_cons_succ])
                    refine wpAnyH_take (i := 30) (oi := ?o308) (v := ?v308) ?hi308 (by kernel_rfl) (by kernel_rfl) (by kernel_rfl) ?hq308 ?hy308 (by assumption) ?hr308
                    case hi308 => (simp only [List.getElem?_toArray, List.getElem?_cons_succ, List.getElem?_cons_zero]; rfl)
                    case hy308 => ((refine .inl ⟨by rfl, ?_⟩); intro w hS; go_simp; (try with_reducible rfl))
                    case hq308 => exact fun _ _ _ h => h
                    (simp only [Act.put, List.setIfInBounds_toArray, List.set_cons_zero, List.set_cons_succ])
                    refine wpAnyH_take (i := 31) (oi := ?o309) (v := ?v309) ?hi309 (by kernel_rfl) (by kernel_rfl) (by kernel_rfl) ?hq309 ?hy309 (by assumption) ?hr309
                    case hi309 => (simp only [List.getElem?_toArray, List.getElem?_cons_succ, List.getElem?_cons_zero]; rfl)
                    case hy309 => ((refine .inl ⟨by rfl, ?_⟩); intro w hS; go_simp; (try with_reducible rfl))
                    case hq309 => exact fun _ _ _ h => h
                    (simp only [Act.put, List.setIfInBounds_toArray, List.set_cons_zero, List.set_cons_succ])
                    refine wpAnyH_take (i := 32) (oi := ?o310) (v := ?v310) ?hi310 (by kernel_rfl) (by kernel_rfl) (by kernel_rfl) ?hq310 ?hy310 (by assumption) ?hr310
                    case hi310 => (simp only [List.getElem?_toArray, List.getElem?_cons_succ, List.getElem?_cons_zero]; rfl)
                    case hy310 => ((refine .inl ⟨by rfl, ?_⟩); intro w hS; go_simp; (try with_reducible rfl))
                    case hq310 => exact fun _ _ _ h => h
                    (simp only [Act.put, List.setIfInBounds_toArray, List.set_cons_zero, List.set_cons_succ])
                    refine wpAnyH_take (i := 33) (oi := ?o311) (v := ?v311) ?hi311 (by kernel_rfl) (by kernel_rfl) (by kernel_rfl) ?hq311 ?hy311 (by assumption) ?hr311
                    case hi311 => (simp only [List.getElem?_toArray, List.getElem?_cons_succ, List.getElem?_cons_zero]; rfl)
                    case hy311 => ((refine .inl ⟨by rfl, ?_⟩); intro w hS; go_simp; (try with_reducible rfl))
                    case hq311 => exact fun _ _ _ h => h
                    (simp only [Act.put, List.setIfInBounds_toArray, List.set_cons_zero, List.set_cons_succ])
                    refine wpAnyH_take (i := 34) (oi := ?o312) (v := ?v312) ?hi312 (by kernel_rfl) (by kernel_rfl) (by kernel_rfl) ?hq312 ?hy312 (by assumption) ?hr312
                    case hi312 => (simp only [List.getElem?_toArray, List.getElem?_cons_succ, List.getElem?_cons_zero]; rfl)
                    case hy312 => ((refine .inl ⟨by rfl, ?_⟩); intro w hS; go_simp; (try with_reducible rfl))
                    case hq312 => exact fun _ _ _ h => h
                    (simp only [Act.put, List.setIfInBounds_toArray, List.set_cons_zero, List.set_cons_succ])
                    refine wpAnyH_take (i := 35) (oi := ?o313) (v := ?v313) ?hi313 (by kernel_rfl) (by kernel_rfl) (by kernel_rfl) ?hq313 ?hy313 (by assumption) ?hr313
                    case hi313 => (simp only [List.getElem?_toArray, List.getElem?_cons_succ, List.getElem?_cons_zero]; rfl)
                    case hy313 => ((refine .inl ⟨by rfl, ?_⟩); intro w hS; go_simp; (try with_reducible rfl))
                    case hq313 => exact fun _ _ _ h => h
                    (simp only [Act.put, List.setIfInBounds_toArray, List.set_cons_zero, List.set_cons_succ])
                    refine wpAnyH_take (i := 36) (oi := ?o314) (v := ?v314) ?hi314 (by kernel_rfl) (by kernel_rfl) (by kernel_rfl) ?hq314 ?hy314 (by assumption) ?hr314
                    case hi314 => (simp only [List.getElem?_toArray, List.getElem?_cons_succ, List.getElem?_cons_zero]; rfl)
                    case hy314 => ((refine .inl ⟨by rfl, ?_⟩); intro w hS; go_simp; (try with_reducible rfl))
                    case hq314 => exact fun _ _ _ h => h
                    (simp only [Act.put, List.setIfInBounds_toArray, List.set_cons_zero, List.set_cons_succ])
                    refine wpAnyH_take (i := 37) (oi := ?o315) (v := undef) ?hi315 (by kernel_rfl) (by kernel_rfl) (by kernel_rfl) ?hq315 ?hy315 (by assumption) ?hr315
                    case hi315 => (simp only [List.getElem?_toArray, List.getElem?_cons_succ, List.getElem?_cons_zero]; rfl)
                    case hy315 => exact .inr ⟨by rfl, rfl⟩
                    case hq315 => exact fun _ _ _ h => h
                    (simp only [Act.put, List.setIfInBounds_toArray, List.set_cons_zero, List.set_cons_succ])
                    refine wpAnyH_take (i := 38) (oi := ?o316) (v := undef) ?hi316 (by kernel_rfl) (by kernel_rfl) (by kernel_rfl) ?hq316 ?hy316 (by assumption) ?hr316
                    case hi316 => (simp only [List.getElem?_toArray, List.getElem?_cons_succ, List.getElem?_cons_zero]; rfl)
                    case hy316 => exact .inr ⟨by rfl, rfl⟩
                    case hq316 => exact fun _ _ _ h => h
                    (simp only [Act.put, List.setIfInBounds_toArray, List.set_cons_zero, List.set_cons_succ])
                    refine wpAnyH_take (i := 39) (oi := ?o317) (v := undef) ?hi317 (by kernel_rfl) (by kernel_rfl) (by kernel_rfl) ?hq317 ?hy317 (by assumption) ?hr317
                    case hi317 => (simp only [List.getElem?_toArray, List.getElem?_cons_succ, List.getElem?_cons_zero]; rfl)
                    case hy317 => exact .inr ⟨by rfl, rfl⟩
                    case hq317 => exact fun _ _ _ h => h
                    (simp only [Act.put, List.setIfInBounds_toArray, List.set_cons_zero, List.set_cons_succ])
                    refine wpAnyH_take (i := 40) (oi := ?o318) (v := undef) ?hi318 (by kernel_rfl) (by kernel_rfl) (by kernel_rfl) ?hq318 ?hy318 (by assumption) ?hr318
                    case hi318 => (simp only [List.getElem?_toArray, List.getElem?_cons_succ, List.getElem?_cons_zero]; rfl)
                    case hy318 => exact .inr ⟨by rfl, rfl⟩
                    case hq318 => exact fun _ _ _ h => h
                    (simp only [Act.put, List.setIfInBounds_toArray, List.set_cons_zero, List.set_cons_succ])
                    refine wpAnyH_take (i := 41) (oi := ?o319) (v := undef) ?hi319 (by kernel_rfl) (by kernel_rfl) (by kernel_rfl) ?hq319 ?hy319 (by assumption) ?hr319
                    case hi319 => (simp only [List.getElem?_toArray, List.getElem?_cons_succ, List.getElem?_cons_zero]; rfl)
                    case hy319 => exact .inr ⟨by rfl, rfl⟩
                    case hq319 => exact fun _ _ _ h => h
                    (simp only [Act.put, List.setIfInBounds_toArray, List.set_cons_zero, List.set_cons_succ])
                    refine wpAnyH_take (i := 42) (oi := ?o320) (v := undef) ?hi320 (by kernel_rfl) (by kernel_rfl) (by kernel_rfl) ?hq320 ?hy320 (by assumption) ?hr320
                    case hi320 => (simp only [List.getElem?_toArray, List.getElem?_cons_succ, List.getElem?_cons_zero]; rfl)
                    case hy320 => exact .inr ⟨by rfl, rfl⟩
                    case hq320 => exact fun _ _ _ h => h
                    (simp only [Act.put, List.setIfInBounds_toArray, List.set_cons_zero, List.set_cons_succ])
                    refine wpAnyH_take (i := 43) (oi := ?o321) (v := undef) ?hi321 (by kernel_rfl) (by kernel_rfl) (by kernel_rfl) ?hq321 ?hy321 (by assumption) ?hr321
                    case hi321 => (simp only [List.getElem?_toArray, List.getElem?_cons_succ, List.getElem?_cons_zero]; rfl)
                    case hy321 => exact .inr ⟨by rfl, rfl⟩
                    case hq321 => exact fun _ _ _ h => h
                    (simp only [Act.put, List.setIfInBounds_toArray, List.set_cons_zero, List.set_cons_succ])
                    refine wpAnyH_take (i := 44) (oi := ?o322) (v := ?v322) ?hi322 (by kernel_rfl) (by kernel_rfl) (by kernel_rfl) ?hq322 ?hy322 (by assumption) ?hr322
                    case hi322 => (simp only [List.getElem?_toArray, List.getElem?_cons_succ, List.getElem?_cons_zero]; rfl)
                    case hy322 => ((refine .inl ⟨by rfl, ?_⟩); intro w hS; go_simp; (try with_reducible rfl))
                    case hq322 => exact fun _ _ _ h => h
                    (simp only [Act.put, List.setIfInBounds_toArray, List.set_cons_zero, List.set_cons_succ])
                    refine wpAnyH_take (i := 45) (oi := ?o323) (v := ?v323) ?hi323 (by kernel_rfl) (by kernel_rfl) (by kernel_rfl) ?hq323 ?hy323 (by assumption) ?hr323
                    case hi323 => (simp only [List.getElem?_toArray, List.getElem?_cons_succ, List.getElem?_cons_zero]; rfl)
                    case hy323 => ((refine .inl ⟨by rfl, ?_⟩); intro w hS; go_simp; (try with_reducible rfl))
                    case hq323 => exact fun _ _ _ h => h
                    (simp only [Act.put, List.setIfInBounds_toArray, List.set_cons_zero, List.set_cons_succ])
                    refine wpAnyH_done (by kernel_rfl) ?_ _
                    go_wp2_with fail
                    go_meet
                    exact ⟨by rw [HPE.out]; rfl, hHeld⟩
                  | false =>
                    refine wp_region_held_drew (S := (fun w' => Below wo.heap.size wo w')) (by kernel_rfl) ((Below.refl _ _).drew) (fun hHeld => ?_)
                    refine wpAnyH_take (i := 0) (oi := ?o324) (v := ?v324) ?hi324 (by kernel_rfl) (by kernel_rfl) (by kernel_rfl) ?hq324 ?hy324 (by assumption) ?hr324
                    case hi324 => (simp only [List.getElem?_toArray, List.getElem?_cons_zero]; rfl)
                    case hy324 => ((refine .inl ⟨by rfl, ?_⟩); intro w hS; go_simp; (try with_reducible rfl))
                    case hq324 => exact fun _ _ _ h => h
                    (simp only [Act.put, List.setIfInBounds_toArray, List.set_cons_zero, List.set_cons_succ])
                    refine wpAnyH_take (i := 1) (oi := ?o325) (v := ?v325) ?hi325 (by kernel_rfl) (by kernel_rfl) (by kernel_rfl) ?hq325 ?hy325 (by assumption) ?hr325
                    case hi325 => (simp only [List.getElem?_toArray, List.getElem?_cons_succ, List.getElem?_cons_zero]; rfl)
                    case hy325 => ((refine .inl ⟨by rfl, ?_⟩); intro w hS; go_simp; (try with_reducible rfl))
                    case hq325 => exact fun _ _ _ h => h
                    (simp only [Act.put, List.setIfInBounds_toArray, List.set_cons_zero, List.set_cons_succ])
                    refine wpAnyH_take (i := 2) (oi := ?o326) (v := ?v326) ?hi326 (by kernel_rfl) (by kernel_rfl) (by kernel_rfl) ?hq326 ?hy326 (by assumption) ?hr326
                    case hi326 => (simp only [List.getElem?_toArray, List.getElem?_cons_succ, List.getElem?_cons_zero]; rfl)
                    case hy326 => ((refine .inl ⟨by rfl, ?_⟩); intro w hS; go_simp; (try with_reducible rfl))
                    case hq326 => exact fun _ _ _ h => h
                    (simp only [Act.put, List.setIfInBounds_toArray, List.set_cons_zero, List.set_cons_succ])
                    refine wpAnyH_take (i := 3) (oi := ?o327) (v := ?v327) ?hi327 (by kernel_rfl) (by kernel_rfl) (by kernel_rfl) ?hq327 ?hy327 (by assumption) ?hr327
                    case hi327 => (simp only [List.getElem?_toArray, List.getElem?_cons_succ, List.getElem?_cons_zero]; rfl)
                    case hy327 => ((refine .inl ⟨by rfl, ?_⟩); intro w hS; have q0 := (Below.cell hS (p := ⟨b, off + i * 7, none⟩) hbw).trans p0; have q1 := (Below.cell hS (p := ⟨b, off + i * 7 + 1, none⟩) hbw).trans p1; have q2 := (Below.cell hS (p := ⟨b, off + i * 7 + 2, none⟩) hbw).trans p2; have q3 := (Below.cell hS (p := ⟨b, off + i * 7 + 3, none⟩) hbw).trans p3; have q4 := (Below.cell hS (p := ⟨b, off + i * 7 + 4, none⟩) hbw).trans p4; have q5 := (Below.cell hS (p := ⟨b, off + i * 7 + 5, none⟩) hbw).trans p5; have q6 := (Below.cell hS (p := ⟨b, off + i * 7 + 6, none⟩) hbw).trans p6; go_simp; (try with_reducible rfl))
                    case hq327 => exact fun _ _ _ h => h
                    (simp only [Act.put, List.setIfInBounds_toArray, List.set_cons_zero, List.set_cons_succ])
                    refine wpAnyH_ready (rs := [4]) (by kernel_rfl) (by simp) ?_
                    refine AllReadyH.cons rfl (fun K hK => ?_) AllReadyH.nil
                    go_simp
                    go_wp2_with ((go_at_call 39; refine (CV.out _).mono ?_; rintro e w5 ⟨rfl, hb5⟩))
                    refine hK.out _ _ (belowC' hb5 hHeld) (fun hHeld => ?_)
                    clear hK K
                    (try simp only [Act.put, List.setIfInBounds_toArray, List.set_cons_zero, List.set_cons_succ])
                    refine wpAnyH_take (i := 5) (oi := ?o328) (v := ?v328) ?hi328 (by kernel_rfl) (by kernel_rfl) (by kernel_rfl) ?hq328 ?hy328 (by assumption) ?hr328
                    case hi328 => (simp only [List.getElem?_toArray, List.getElem?_cons_succ, List.getElem?_cons_zero]; rfl)
                    case hy328 => ((refine .inl ⟨by rfl, ?_⟩); intro w hS; go_simp; (try with_reducible rfl))
                    case hq328 => exact fun _ _ _ h => h
                    (simp only [Act.put, List.setIfInBounds_toArray, List.set_cons_zero, List.set_cons_succ])
                    refine wpAnyH_take (i := 6) (oi := ?o329) (v := ?v329) ?hi329 (by kernel_rfl) (by kernel_rfl) (by kernel_rfl) ?hq329 ?hy329 (by assumption) ?hr329
                    case hi329 => (simp only [List.getElem?_toArray, List.getElem?_cons_succ, List.getElem?_cons_zero]; rfl)
                    case hy329 => ((refine .inl ⟨by rfl, ?_⟩); intro w hS; go_simp; (try with_reducible rfl))
                    case hq329 => exact fun _ _ _ h => h
                    (simp only [Act.put, List.setIfInBounds_toArray, List.set_cons_zero, List.set_cons_succ])
                    refine wpAnyH_take (i := 7) (oi := ?o330) (v := ?v330) ?hi330 (by kernel_rfl) (by kernel_rfl) (by kernel_rfl) ?hq330 ?hy330 (by assumption) ?hr330
                    case hi330 => (simp only [List.getElem?_toArray, List.getElem?_cons_succ, List.getElem?_cons_zero]; rfl)
                    case hy330 => ((refine .inl ⟨by rfl, ?_⟩); intro w hS; go_simp; (try with_reducible rfl))
                    case hq330 => exact fun _ _ _ h => h
                    (simp only [Act.put, List.setIfInBounds_toArray, List.set_cons_zero, List.set_cons_succ])
                    refine wpAnyH_take (i := 8) (oi := ?o331) (v := ?v331) ?hi331 (by kernel_rfl) (by kernel_rfl) (by kernel_rfl) ?hq331 ?hy331 (by assumption) ?hr331
                    case hi331 => (simp only [List.getElem?_toArray, List.getElem?_cons_succ, List.getElem?_cons_zero]; rfl)
                    case hy331 => ((refine .inl ⟨by rfl, ?_⟩); intro w hS; go_simp; (try with_reducible rfl))
                    case hq331 => exact fun _ _ _ h => h
                    (simp only [Act.put, List.setIfInBounds_toArray, List.set_cons_zero, List.set_cons_succ])
                    refine wpAnyH_take (i := 9) (oi := ?o332) (v := ?v332) ?hi332 (by kernel_rfl) (by kernel_rfl) (by kernel_rfl) ?hq332 ?hy332 (by assumption) ?hr332
                    case hi332 => (simp only [List.getElem?_toArray, List.getElem?_cons_succ, List.getElem?_cons_zero]; rfl)
                    case hy332 => ((refine .inl ⟨by rfl, ?_⟩); intro w hS; go_simp; (try with_reducible rfl))
                    case hq332 => exact fun _ _ _ h => h
                    (simp only [Act.put, List.setIfInBounds_toArray, List.set_cons_zero, List.set_cons_succ])
                    refine wpAnyH_take (i := 10) (oi := ?o333) (v := ?v333) ?hi333 (by kernel_rfl) (by kernel_rfl) (by kernel_rfl) ?hq333 ?hy333 (by assumption) ?hr333
                    case hi333 => (simp only [List.getElem?_toArray, List.getElem?_cons_succ, List.getElem?_cons_zero]; rfl)
                    case hy333 => ((refine .inl ⟨by rfl, ?_⟩); intro w hS; go_simp; (try with_reducible rfl))
                    case hq333 => exact fun _ _ _ h => h
                    (simp only [Act.put, List.setIfInBounds_toArray, List.set_cons_zero, List.set_cons_succ])
                    refine wpAnyH_take (i := 11) (oi := ?o334) (v := ?v334) ?hi334 (by kernel_rfl) (by kernel_rfl) (by kernel_rfl) ?hq334 ?hy334 (by assumption) ?hr334
                    case hi334 => (simp only [List.getElem?_toArray, List.getElem?_cons_succ, List.getElem?_cons_zero]; rfl)
                    case hy334 => ((refine .inl ⟨by rfl, ?_⟩); intro w hS; have q := (Below.cell hS (p := ⟨b, off + i * 7 + 1, none⟩) hbw).trans p1; go_simp; (try with_reducible rfl))
                    case hq334 => exact fun _ _ _ h => h
                    (simp only [Act.put, List.setIfInBounds_toArray, List.set_cons_zero, List.set_cons_succ])
                    refine wpAnyH_take (i := 12) (oi := ?o335) (v := ?v335) ?hi335 (by kernel_rfl) (by kernel_rfl) (by kernel_rfl) ?hq335 ?hy335 (by assumption) ?hr335
                    case hi335 => (simp only [List.getElem?_toArray, List.getElem?_cons_succ, List.getElem?_cons_zero]; rfl)
                    case hy335 => ((refine .inl ⟨by rfl, ?_⟩); intro w hS; go_simp; (try with_reducible rfl))
                    case hq335 => exact fun _ _ _ h => h
                    (simp only [Act.put, List.setIfInBounds_toArray, List.set_cons_zero, List.set_cons_succ])
                    refine wpAnyH_take (i := 13) (oi := ?o336) (v := ?v336) ?hi336 (by kernel_rfl) (by kernel_rfl) (by kernel_rfl) ?hq336 ?hy336 (by assumption) ?hr336
                    case hi336 => (simp only [List.getElem?_toArray, List.getElem?_cons_succ, List.getElem?_cons_zero]; rfl)
                    case hy336 => ((refine .inl ⟨by rfl, ?_⟩); intro w hS; go_simp; (try with_reducible rfl))
                    case hq336 => exact fun _ _ _ h => h
                    (simp only [Act.put, List.setIfInBounds_toArray, List.set_cons_zero, List.set_cons_succ])
                    refine wpAnyH_take (i := 14) (oi := ?o337) (v := ?v337) ?hi337 (by kernel_rfl) (by kernel_rfl) (by kernel_rfl) ?hq337 ?hy337 (by assumption) ?hr337
                    case hi337 => (simp only [List.getElem?_toArray, List.getElem?_cons_succ, List.getElem?_cons_zero]; rfl)
                    case hy337 => ((refine .inl ⟨by rfl, ?_⟩); intro w hS; go_simp; (try with_reducible rfl))
                    case hq337 => exact fun _ _ _ h => h
                    (simp only [Act.put, List.setIfInBounds_toArray, List.set_cons_zero, List.set_cons_succ])
                    refine wpAnyH_take (i := 15) (oi := ?o338) (v := ?v338) ?hi338 (by kernel_rfl) (by kernel_rfl) (by kernel_rfl) ?hq338 ?hy338 (by assumption) ?hr338
                    case hi338 => (simp only [List.getElem?_toArray, List.getElem?_cons_succ, List.getElem?_cons_zero]; rfl)
                    case hy338 => ((refine .inl ⟨by rfl, ?_⟩); intro w hS; go_simp; (try with_reducible rfl))
                    case hq338 => exact fun _ _ _ h => h
                    (simp only [Act.put, List.setIfInBounds_toArray, List.set_cons_zero, List.set_cons_succ])
                    refine wpAnyH_take (i := 16) (oi := ?o339) (v := ?v339) ?hi339 (by kernel_rfl) (by kernel_rfl) (by kernel_rfl) ?hq339 ?hy339 (by assumption) ?hr339
                    case hi339 => (simp only [List.getElem?_toArray, List.getElem?_cons_succ, List.getElem?_cons_zero]; rfl)
                    case hy339 => ((refine .inl ⟨by rfl, ?_⟩); intro w hS; go_simp; (try with_reducible rfl))
                    case hq339 => exact fun _ _ _ h => h
                    (simp only [Act.put, List.setIfInBounds_toArray, List.set_cons_zero, List.set_cons_succ])
                    refine wpAnyH_take (i := 17) (oi := ?o340) (v := ?v340) ?hi340 (by kernel_rfl) (by kernel_rfl) (by kernel_rfl) ?hq340 ?hy340 (by assumption) ?hr340
                    case hi340 => (simp only [List.getElem?_toArray, List.getElem?_cons_succ, List.getElem?_cons_zero]; rfl)
                    case hy340 => ((refine .inl ⟨by rfl, ?_⟩); intro w hS; go_simp; (try with_reducible rfl))
                    case hq340 => exact fun _ _ _ h => h
                    (simp only [Act.put, List.setIfInBounds_toArray, List.set_cons_zero, List.set_cons_succ])
                    refine wpAnyH_take (i := 18) (oi := ?o341) (v := ?v341) ?hi341 (by kernel_rfl) (by kernel_rfl) (by kernel_rfl) ?hq341 ?hy341 (by assumption) ?hr341
                    case hi341 => (simp only [List.getElem?_toArray, List.getElem?_cons_succ, List.getElem?_cons_zero]; rfl)
                    case hy341 => ((refine .inl ⟨by rfl, ?_⟩); intro w hS; go_simp; (try with_reducible rfl))
                    case hq341 => exact fun _ _ _ h => h
                    (simp only [Act.put, List.setIfInBounds_toArray, List.set_cons_zero, List.set_cons_succ])
                    refine wpAnyH_take (i := 19) (oi := ?o342) (v := ?v342) ?hi342 (by kernel_rfl) (by kernel_rfl) (by kernel_rfl) ?hq342 ?hy342 (by assumption) ?hr342
                    case hi342 => (simp only [List.getElem?_toArray, List.getElem?_cons_succ, List.getElem?_cons_zero]; rfl)
                    case hy342 => ((refine .inl ⟨by rfl, ?_⟩); intro w hS; go_simp; (try with_reducible rfl))
                    case hq342 => exact fun _ _ _ h => h
                    (simp only [Act.put, List.setIfInBounds_toArray, List.set_cons_zero, List.set_cons_succ])
                    refine wpAnyH_take (i := 20) (oi := ?o343) (v := ?v343) ?hi343 (by kernel_rfl) (by kernel_rfl) (by kernel_rfl) ?hq343 ?hy343 (by assumption) ?hr343
                    case hi343 => (simp only [List.getElem?_toArray, List.getElem?_cons_succ, List.getElem?_cons_zero]; rfl)
                    case hy343 => ((refine .inl ⟨by rfl, ?_⟩); intro w hS; go_simp; (try with_reducible rfl))
                    case hq343 => exact fun _ _ _ h => h
                    (simp only [Act.put, List.setIfInBounds_toArray, List.set_cons_zero, List.set_cons_succ])
                    refine wpAnyH_take (i := 21) (oi := ?o344) (v := ?v344) ?hi344 (by kernel_rfl) (by kernel_rfl) (by kernel_rfl) ?hq344 ?hy344 (by assumption) ?hr344
                    case hi344 => (simp only [List.getElem?_toArray, List.getElem?_cons_succ, List.getElem?_cons_zero]; rfl)
                    case hy344 => ((refine .inl ⟨by rfl, ?_⟩); intro w hS; go_simp; (try with_reducible rfl))
                    case hq344 => exact fun _ _ _ h => h
                    (simp only [Act.put, List.setIfInBounds_toArray, List.set_cons_zero, List.set_cons_succ])
                    refine wpAnyH_take (i := 22) (oi := ?o345) (v := ?v345) ?hi345 (by kernel_rfl) (by kernel_rfl) (by kernel_rfl) ?hq345 ?hy345 (by assumption) ?hr345
                    case hi345 => (simp only [List.getElem?_toArray, List.getElem?_cons_succ, List.getElem?_cons_zero]; rfl)
                    case hy345 => ((refine .inl ⟨by rfl, ?_⟩); intro w hS; have q := (Below.cell hS (p := ⟨b, off + i * 7, none⟩) hbw).trans p0; go_simp; (try with_reducible rfl))
                    case hq345 => exact fun _ _ _ h => h
                    (simp only [Act.put, List.setIfInBounds_toArray, List.set_cons_zero, List.set_cons_succ])
                    refine wpAnyH_take (i := 23) (oi := ?o346) (v := ?v346) ?hi346 (by kernel_rfl) (by kernel_rfl) (by kernel_rfl) ?hq346 ?hy346 (by assumption) ?hr346
                    case hi346 => (simp only [List.getElem?_toArray, List.getElem?_cons_succ, List.getElem?_cons_zero]; rfl)
                    case hy346 => ((refine .inl ⟨by rfl, ?_⟩); intro w hS; go_simp; (try with_reducible rfl))
                    case hq346 => exact fun _ _ _ h => h
                    (simp only [Act.put, List.setIfInBounds_toArray, List.set_cons_zero, List.set_cons_succ])
                    refine wpAnyH_take (i := 24) (oi := ?o347) (v := ?v347) ?hi347 (by kernel_rfl) (by kernel_rfl) (by kernel_rfl) ?hq347 ?hy347 (by assumption) ?hr347
                    case hi347 => (simp only [List.getElem?_toArray, List.getElem?_cons_succ, List.getElem?_cons_zero]; rfl)
                    case hy347 => ((refine .inl ⟨by rfl, ?_⟩); intro w hS; go_simp; (try with_reducible rfl))
                    case hq347 => exact fun _ _ _ h => h
                    (simp only [Act.put, List.setIfInBounds_toArray, List.set_cons_zero, List.set_cons_succ])
                    refine wpAnyH_take (i := 25) (oi := ?o348) (v := ?v348) ?hi348 (by kernel_rfl) (by kernel_rfl) (by kernel_rfl) ?hq348 ?hy348 (by assumption) ?hr348
                    case hi348 => (simp only [List.getElem?_toArray, List.getElem?_cons_succ, List.getElem?_cons_zero]; rfl)
                    case hy348 => ((refine .inl ⟨by rfl, ?_⟩); intro w hS; go_simp; (try with_reducible rfl))
                    case hq348 => exact fun _ _ _ h => h
                    (simp only [Act.put, List.setIfInBounds_toArray, List.set_cons_zero, List.set_cons_succ])
                    refine wpAnyH_take (i := 26) (oi := ?o349) (v := ?v349) ?hi349 (by kernel_rfl) (by kernel_rfl) (by kernel_rfl) ?hq349 ?hy349 (by assumption) ?hr349
                    case hi349 => (simp only [List.getElem?_toArray, List.getElem?_cons_succ, List.getElem?_cons_zero]; rfl)
                    case hy349 => ((refine .inl ⟨by rfl, ?_⟩); intro w hS; go_simp; (try with_reducible rfl))
                    case hq349 => exact fun _ _ _ h => h
                    (simp only [Act.put, List.setIfInBounds_toArray, List.set_cons_zero, List.set_cons_succ])
                    refine wpAnyH_take (i := 27) (oi := ?o350) (v := ?v350) ?hi350 (by kernel_rfl) (by kernel_rfl) (by kernel_rfl) ?hq350 ?hy350 (by assumption) ?hr350
                    case hi350 => (simp only [List.getElem?_toArray, List.getElem?_cons_succ, List.getElem?_cons_zero]; rfl)
                    case hy350 => ((refine .inl ⟨by rfl, ?_⟩); intro w hS; go_simp; (try with_reducible rfl))
                    case hq350 => exact fun _ _ _ h => h
                    (simp only [Act.put, List.setIfInBounds_toArray, List.set_cons_zero, List.set_cons_succ])
                    refine wpAnyH_take (i := 28) (oi := ?o351) (v := ?v351) ?hi351 (by kernel_rfl) (by kernel_rfl) (by kernel_rfl) ?hq351 ?hy351 (by assumption) ?hr351
                    case hi351 => (simp only [List.getElem?_toArray, List.getElem?_cons_succ, List.getElem?_cons_zero]; rfl)
                    case hy351 => ((refine .inl ⟨by rfl, ?_⟩); intro w hS; have q := (Below.cell hS (p := ⟨b, off + j * 7, none⟩) hbw).trans gy; go_simp; (try with_reducible rfl))
                    case hq351 => exact fun _ _ _ h => h
                    (simp only [Act.put, List.setIfInBounds_toArray, List.set_cons_zero, List.set_cons_succ])
                    refine wpAnyH_take (i := 29) (oi := ?o352) (v := ?v352) ?hi352 (by kernel_rfl) (by kernel_rfl) (by kernel_rfl) ?hq352 ?hy352 (by assumption) ?hr352
                    case hi352 => (simp only [List.getElem?_toArray, List.getElem?_cons_succ, List.getElem?_cons_zero]; rfl)
                    case hy352 => ((refine .inl ⟨by rfl, ?_⟩); intro w hS; go_simp; (try with_reducible rfl))
                    case hq352 => exact fun _ _ _ h => h
                    (simp only [Act.put, List.setIfInBounds_toArray, List.set_cons_zero, List.set_cons_succ])
                    refine wpAnyH_take (i := 30) (oi := ?o353) (v := ?v353) ?hi353 (by kernel_rfl) (by kernel_rfl) (by kernel_rfl) ?hq353 ?hy353 (by assumption) ?hr353
                    case hi353 => (simp only [List.getElem?_toArray, List.getElem?_cons_succ, List.getElem?_cons_zero]; rfl)
                    case hy353 => ((refine .inl ⟨by rfl, ?_⟩); intro w hS; go_simp; (try with_reducible rfl))
                    case hq353 => exact fun _ _ _ h => h
                    (simp only [Act.put, List.setIfInBounds_toArray, List.set_cons_zero, List.set_cons_succ])
                    refine wpAnyH_take (i := 31) (oi := ?o354) (v := ?v354) ?hi354 (by kernel_rfl) (by kernel_rfl) (by kernel_rfl) ?hq354 ?hy354 (by assumption) ?hr354
                    case hi354 => (simp only [List.getElem?_toArray, List.getElem?_cons_succ, List.getElem?_cons_zero]; rfl)
                    case hy354 => ((refine .inl ⟨by rfl, ?_⟩); intro w hS; go_simp; (try with_reducible rfl))
                    case hq354 => exact fun _ _ _ h => h
                    (simp only [Act.put, List.setIfInBounds_toArray, List.set_cons_zero, List.set_cons_succ])
                    refine wpAnyH_take (i := 32) (oi := ?o355) (v := ?v355) ?hi355 (by kernel_rfl) (by kernel_rfl) (by kernel_rfl) ?hq355 ?hy355 (by assumption) ?hr355
                    case hi355 => (simp only [List.getElem?_toArray, List.getElem?_cons_succ, List.getElem?_cons_zero]; rfl)
                    case hy355 => ((refine .inl ⟨by rfl, ?_⟩); intro w hS; go_simp; (try with_reducible rfl))
                    case hq355 => exact fun _ _ _ h => h
                    (simp only [Act.put, List.setIfInBounds_toArray, List.set_cons_zero, List.set_cons_succ])
                    refine wpAnyH_take (i := 33) (oi := ?o356) (v := ?v356) ?hi356 (by kernel_rfl) (by kernel_rfl) (by kernel_rfl) ?hq356 ?hy356 (by assumption) ?hr356
                    case hi356 => (simp only [List.getElem?_toArray, List.getElem?_cons_succ, List.getElem?_cons_zero]; rfl)
                    case hy356 => ((refine .inl ⟨by rfl, ?_⟩); intro w hS; go_simp; (try with_reducible rfl))
                    case hq356 => exact fun _ _ _ h => h
                    (simp only [Act.put, List.setIfInBounds_toArray, List.set_cons_zero, List.set_cons_succ])
                    refine wpAnyH_take (i := 34) (oi := ?o357) (v := ?v357) ?hi357 (by kernel_rfl) (by kernel_rfl) (by kernel_rfl) ?hq357 ?hy357 (by assumption) ?hr357
                    case hi357 => (simp only [List.getElem?_toArray, List.getElem?_cons_succ, List.getElem?_cons_zero]; rfl)
                    case hy357 => ((refine .inl ⟨by rfl, ?_⟩); intro w hS; go_simp; (try with_reducible rfl))
                    case hq357 => exact fun _ _ _ h => h
                    (simp only [Act.put, List.setIfInBounds_toArray, List.set_cons_zero, List.set_cons_succ])
                    refine wpAnyH_take (i := 35) (oi := ?o358) (v := ?v358) ?hi358 (by kernel_rfl) (by kernel_rfl) (by kernel_rfl) ?hq358 ?hy358 (by assumption) ?hr358
                    case hi358 => (simp only [List.getElem?_toArray, List.getElem?_cons_succ, List.getElem?_cons_zero]; rfl)
                    case hy358 => ((refine .inl ⟨by rfl, ?_⟩); intro w hS; go_simp; (try with_reducible rfl))
                    case hq358 => exact fun _ _ _ h => h
                    (simp only [Act.put, List.setIfInBounds_toArray, List.set_cons_zero, List.set_cons_succ])
                    refine wpAnyH_take (i := 36) (oi := ?o359) (v := ?v359) ?hi359 (by kernel_rfl) (by kernel_rfl) (by kernel_rfl) ?hq359 ?hy359 (by assumption) ?hr359
                    case hi359 => (simp only [List.getElem?_toArray, List.getElem?_cons_succ, List.getElem?_cons_zero]; rfl)
                    case hy359 => ((refine .inl ⟨by rfl, ?_⟩); intro w hS; go_simp; (try with_reducible rfl))
                    case hq359 => exact fun _ _ _ h => h
                    (simp only [Act.put, List.setIfInBounds_toArray, List.set_cons_zero, List.set_cons_succ])
                    refine wpAnyH_take (i := 37) (oi := ?o360) (v := ?v360) ?hi360 (by kernel_rfl) (by kernel_rfl) (by kernel_rfl) ?hq360 ?hy360 (by assumption) ?hr360
                    case hi360 => (simp only [List.getElem?_toArray, List.getElem?_cons_succ, List.getElem?_cons_zero]; rfl)
                    case hy360 => ((refine .inl ⟨by rfl, ?_⟩); intro w hS; go_simp; (try with_reducible rfl))
                    case hq360 => exact fun _ _ _ h => h
                    (simp only [Act.put, List.setIfInBounds_toArray, List.set_cons_zero, List.set_cons_succ])
                    refine wpAnyH_take (i := 38) (oi := ?o361) (v := ?v361) ?hi361 (by kernel_rfl) (by kernel_rfl) (by kernel_rfl) ?hq361 ?hy361 (by assumption) ?hr361
                    case hi361 => (simp only [List.getElem?_toArray, List.getElem?_cons_succ, List.getElem?_cons_zero]; rfl)
                    case hy361 => ((refine .inl ⟨by rfl, ?_⟩); intro w hS; go_simp; (try with_reducible rfl))
                    case hq361 => exact fun _ _ _ h => h
                    (simp only [Act.put, List.setIfInBounds_toArray, List.set_cons_zero, List.set_cons_succ])
                    refine wpAnyH_take (i := 39) (oi := ?o362) (v := ?v362) ?hi362 (by kernel_rfl) (by kernel_rfl) (by kernel_rfl) ?hq362 ?hy362 (by assumption) ?hr362
                    case hi362 => (simp only [List.getElem?_toArray, List.getElem?_cons_succ, List.getElem?_cons_zero]; rfl)
                    case hy362 => ((refine .inl ⟨by rfl, ?_⟩); intro w hS; go_simp; (try with_reducible rfl))
                    case hq362 => exact fun _ _ _ h => h
                    (simp only [Act.put, List.setIfInBounds_toArray, List.set_cons_zero, List.set_cons_succ])
                    refine wpAnyH_take (i := 40) (oi := ?o363) (v := ?v363) ?hi363 (by kernel_rfl) (by kernel_rfl) (by kernel_rfl) ?hq363 ?hy363 (by assumption) ?hr363
                    case hi363 => (simp only [List.getElem?_toArray, List.getElem?_cons_succ, List.getElem?_cons_zero]; rfl)
                    case hy363 => ((refine .inl ⟨by rfl, ?_⟩); intro w hS; go_simp; (try with_reducible rfl))
                    case hq363 => exact fun _ _ _ h => h
                    (simp only [Act.put, List.setIfInBounds_toArray, List.set_cons_zero, List.set_cons_succ])
                    refine wpAnyH_take (i := 41) (oi := ?o364) (v := ?v364) ?hi364 (by kernel_rfl) (by kernel_rfl) (by kernel_rfl) ?hq364 ?hy364 (by assumption) ?hr364
                    case hi364 => (simp only [List.getElem?_toArray, List.getElem?_cons_succ, List.getElem?_cons_zero]; rfl)
                    case hy364 => ((refine .inl ⟨by rfl, ?_⟩); intro w hS; have q := (Below.cell hS (p := ⟨b, off + i * 7 + 6, none⟩) hbw).trans p6; go_simp; (try with_reducible rfl))
                    case hq364 => exact fun _ _ _ h => h
                    (simp only [Act.put, List.setIfInBounds_toArray, List.set_cons_zero, List.set_cons_succ])
                    refine wpAnyH_ready (rs := [42]) (by kernel_rfl) (by simp) ?_
                    refine AllReadyH.cons rfl (fun K hK => ?_) AllReadyH.nil
                    go_simp
                    go_wp2_with ((go_at_call 28; refine (rzero_any _).mono ?_; rintro e w6 ⟨rfl, hb6⟩))
                    refine hK.out _ _ (belowC' hb6 hHeld) (fun hHeld => ?_)
                    clear hK K
                    (try simp only [Act.put, List.setIfInBounds_toArray, List.set_cons_zero, List.set_cons_succ])
                    refine wpAnyH_take (i := 43) (oi := ?o365) (v := ?v365) ?hi365 (by kernel_rfl) (by kernel_rfl) (by kernel_rfl) ?hq365 ?hy365 (by assumption) ?hr365
                    case hi365 => (simp only [List.getElem?_toArray, List.getElem?_cons_succ, List.getElem?_cons_zero]; rfl)
                    case hy365 => ((refine .inl ⟨by rfl, ?_⟩); intro w hS; go_simp; (try with_reducible rfl))
                    case hq365 => exact fun _ _ _ h => h
                    (simp only [Act.put, List.setIfInBounds_toArray, List.set_cons_zero, List.set_cons_succ])
                    refine wpAnyH_take (i := 44) (oi := ?o366) (v := ?v366) ?hi366 (by kernel_rfl) (by kernel_rfl) (by kernel_rfl) ?hq366 ?hy366 (by assumption) ?hr366
                    case hi366 => (simp only [List.getElem?_toArray, List.getElem?_cons_succ, List.getElem?_cons_zero]; rfl)
                    case hy366 => ((refine .inl ⟨by rfl, ?_⟩); intro w hS; go_simp; (try with_reducible rfl))
                    case hq366 => exact fun _ _ _ h => h
                    (simp only [Act.put, List.setIfInBounds_toArray, List.set_cons_zero, List.set_cons_succ])
                    refine wpAnyH_take (i := 45) (oi := ?o367) (v := ?v367) ?hi367 (by kernel_rfl) (by kernel_rfl) (by kernel_rfl) ?hq367 ?hy367 (by assumption) ?hr367
                    case hi367 => (simp only [List.getElem?_toArray, List.getElem?_cons_succ, List.getElem?_cons_zero]; rfl)
                    case hy367 => ((refine .inl ⟨by rfl, ?_⟩); intro w hS; go_simp; (try with_reducible rfl))
                    case hq367 => exact fun _ _ _ h => h
                    (simp only [Act.put, List.setIfInBounds_toArray, List.set_cons_zero, List.set_cons_succ])
                    refine wpAnyH_done (by kernel_rfl) ?_ _
                    go_wp2_with fail
                    go_meet
                    exact ⟨by rw [HPE.out]; first | rfl | simp, hHeld⟩
              · have hn : nB = true := by
                  rw [← HNB.out, show i = 0 by omega]
                  exact nextB_zero _ _
                subst hn
                have hdi : decide (0 < i) = false := decide_eq_false (by omega)
                cases uB with
                | true =>
                  refine wp_region_held_drew (S := (fun w' => Below wo.heap.size wo w')) (by kernel_rfl) ((Below.refl _ _).drew) (fun hHeld => ?_)
                  refine wpAnyH_take (i := 0) (oi := ?o145) (v := ?v145) ?hi145 (by kernel_rfl) (by kernel_rfl) (by kernel_rfl) ?hq145 ?hy145 (by assumption) ?hr145
                  case hi145 => (simp only [List.getElem?_toArray, List.getElem?_cons_zero]; rfl)
                  case hy145 => ((refine .inl ⟨by rfl, ?_⟩); intro w hS; go_simp; (try with_reducible rfl))
                  case hq145 => exact fun _ _ _ h => h
                  (simp only [Act.put, List.setIfInBounds_toArray, List.set_cons_zero, List.set_cons_succ])
                  refine wpAnyH_take (i := 1) (oi := ?o146) (v := ?v146) ?hi146 (by kernel_rfl) (by kernel_rfl) (by kernel_rfl) ?hq146 ?hy146 (by assumption) ?hr146
                  case hi146 => (simp only [List.getElem?_toArray, List.getElem?_cons_succ, List.getElem?_cons_zero]; rfl)
                  case hy146 => ((refine .inl ⟨by rfl, ?_⟩); intro w hS; go_simp; (try with_reducible rfl))
                  case hq146 => exact fun _ _ _ h => h
                  (simp only [Act.put, List.setIfInBounds_toArray, List.set_cons_zero, List.set_cons_succ])
                  refine wpAnyH_take (i := 2) (oi := ?o147) (v := ?v147) ?hi147 (by kernel_rfl) (by kernel_rfl) (by kernel_rfl) ?hq147 ?hy147 (by assumption) ?hr147
                  case hi147 => (simp only [List.getElem?_toArray, List.getElem?_cons_succ, List.getElem?_cons_zero]; rfl)
                  case hy147 => ((refine .inl ⟨by rfl, ?_⟩); intro w hS; go_simp; (try with_reducible rfl))
                  case hq147 => exact fun _ _ _ h => h
                  (simp only [Act.put, List.setIfInBounds_toArray, List.set_cons_zero, List.set_cons_succ])
                  refine wpAnyH_take (i := 3) (oi := ?o148) (v := ?v148) ?hi148 (by kernel_rfl) (by kernel_rfl) (by kernel_rfl) ?hq148 ?hy148 (by assumption) ?hr148
                  case hi148 => (simp only [List.getElem?_toArray, List.getElem?_cons_succ, List.getElem?_cons_zero]; rfl)
                  case hy148 => ((refine .inl ⟨by rfl, ?_⟩); intro w hS; have q0 := (Below.cell hS (p := ⟨b, off + i * 7, none⟩) hbw).trans p0; have q1 := (Below.cell hS (p := ⟨b, off + i * 7 + 1, none⟩) hbw).trans p1; have q2 := (Below.cell hS (p := ⟨b, off + i * 7 + 2, none⟩) hbw).trans p2; have q3 := (Below.cell hS (p := ⟨b, off + i * 7 + 3, none⟩) hbw).trans p3; have q4 := (Below.cell hS (p := ⟨b, off + i * 7 + 4, none⟩) hbw).trans p4; have q5 := (Below.cell hS (p := ⟨b, off + i * 7 + 5, none⟩) hbw).trans p5; have q6 := (Below.cell hS (p := ⟨b, off + i * 7 + 6, none⟩) hbw).trans p6; go_simp; (try with_reducible rfl))
                  case hq148 => exact fun _ _ _ h => h
                  (simp only [Act.put, List.setIfInBounds_toArray, List.set_cons_zero, List.set_cons_succ])
                  refine wpAnyH_ready (rs := [4]) (by kernel_rfl) (by simp) ?_
                  refine AllReadyH.cons rfl (fun K hK => ?_) AllReadyH.nil
                  go_simp
                  go_wp2_with ((go_at_call 39; refine (CV.out _).mono ?_; rintro e w5 ⟨rfl, hb5⟩))
                  refine hK.out _ _ (belowC' hb5 hHeld) (fun hHeld => ?_)
                  clear hK K
                  (try simp only [Act.put, List.setIfInBounds_toArray, List.set_cons_zero, List.set_cons_succ])
                  refine wpAnyH_take (i := 5) (oi := ?o149) (v := ?v149) ?hi149 (by kernel_rfl) (by kernel_rfl) (by kernel_rfl) ?hq149 ?hy149 (by assumption) ?hr149
                  case hi149 => (simp only [List.getElem?_toArray, List.getElem?_cons_succ, List.getElem?_cons_zero]; rfl)
                  case hy149 => ((refine .inl ⟨by rfl, ?_⟩); intro w hS; go_simp; (try with_reducible rfl))
                  case hq149 => exact fun _ _ _ h => h
                  (simp only [Act.put, List.setIfInBounds_toArray, List.set_cons_zero, List.set_cons_succ])
                  refine wpAnyH_take (i := 6) (oi := ?o150) (v := ?v150) ?hi150 (by kernel_rfl) (by kernel_rfl) (by kernel_rfl) ?hq150 ?hy150 (by assumption) ?hr150
                  case hi150 => (simp only [List.getElem?_toArray, List.getElem?_cons_succ, List.getElem?_cons_zero]; rfl)
                  case hy150 => ((refine .inl ⟨by rfl, ?_⟩); intro w hS; go_simp; (try with_reducible rfl))
                  case hq150 => exact fun _ _ _ h => h
                  (simp only [Act.put, List.setIfInBounds_toArray, List.set_cons_zero, List.set_cons_succ])
                  refine wpAnyH_take (i := 7) (oi := ?o151) (v := ?v151) ?hi151 (by kernel_rfl) (by kernel_rfl) (by kernel_rfl) ?hq151 ?hy151 (by assumption) ?hr151
                  case hi151 => (simp only [List.getElem?_toArray, List.getElem?_cons_succ, List.getElem?_cons_zero]; rfl)
                  case hy151 => ((refine .inl ⟨by rfl, ?_⟩); intro w hS; go_simp; (try with_reducible rfl))
                  case hq151 => exact fun _ _ _ h => h
                  (simp only [Act.put, List.setIfInBounds_toArray, List.set_cons_zero, List.set_cons_succ])
                  refine wpAnyH_take (i := 8) (oi := ?o152) (v := ?v152) ?hi152 (by kernel_rfl) (by kernel_rfl) (by kernel_rfl) ?hq152 ?hy152 (by assumption) ?hr152
                  case hi152 => (simp only [List.getElem?_toArray, List.getElem?_cons_succ, List.getElem?_cons_zero]; rfl)
                  case hy152 => ((refine .inl ⟨by rfl, ?_⟩); intro w hS; go_simp; (try with_reducible rfl))
                  case hq152 => exact fun _ _ _ h => h
                  (simp only [Act.put, List.setIfInBounds_toArray, List.set_cons_zero, List.set_cons_succ])
                  refine wpAnyH_take (i := 9) (oi := ?o153) (v := ?v153) ?hi153 (by kernel_rfl) (by kernel_rfl) (by kernel_rfl) ?hq153 ?hy153 (by assumption) ?hr153
                  case hi153 => (simp only [List.getElem?_toArray, List.getElem?_cons_succ, List.getElem?_cons_zero]; rfl)
                  case hy153 => ((refine .inl ⟨by rfl, ?_⟩); intro w hS; go_simp; (try with_reducible rfl))
                  case hq153 => exact fun _ _ _ h => h
                  (simp only [Act.put, List.setIfInBounds_toArray, List.set_cons_zero, List.set_cons_succ])
                  refine wpAnyH_take (i := 10) (oi := ?o154) (v := ?v154) ?hi154 (by kernel_rfl) (by kernel_rfl) (by kernel_rfl) ?hq154 ?hy154 (by assumption) ?hr154
                  case hi154 => (simp only [List.getElem?_toArray, List.getElem?_cons_succ, List.getElem?_cons_zero]; rfl)
                  case hy154 => ((refine .inl ⟨by rfl, ?_⟩); intro w hS; go_simp; (try with_reducible rfl))
                  case hq154 => exact fun _ _ _ h => h
                  (simp only [Act.put, List.setIfInBounds_toArray, List.set_cons_zero, List.set_cons_succ])
                  refine wpAnyH_take (i := 11) (oi := ?o155) (v := ?v155) ?hi155 (by kernel_rfl) (by kernel_rfl) (by kernel_rfl) ?hq155 ?hy155 (by assumption) ?hr155
                  case hi155 => (simp only [List.getElem?_toArray, List.getElem?_cons_succ, List.getElem?_cons_zero]; rfl)
                  case hy155 => ((refine .inl ⟨by rfl, ?_⟩); intro w hS; have q := (Below.cell hS (p := ⟨b, off + i * 7 + 1, none⟩) hbw).trans p1; go_simp; (try with_reducible rfl))
                  case hq155 => exact fun _ _ _ h => h
                  (simp only [Act.put, List.setIfInBounds_toArray, List.set_cons_zero, List.set_cons_succ])
                  refine wpAnyH_take (i := 12) (oi := ?o156) (v := ?v156) ?hi156 (by kernel_rfl) (by kernel_rfl) (by kernel_rfl) ?hq156 ?hy156 (by assumption) ?hr156
                  case hi156 => (simp only [List.getElem?_toArray, List.getElem?_cons_succ, List.getElem?_cons_zero]; rfl)
                  case hy156 => ((refine .inl ⟨by rfl, ?_⟩); intro w hS; go_simp; (try with_reducible rfl))
                  case hq156 => exact fun _ _ _ h => h
                  (simp only [Act.put, List.setIfInBounds_toArray, List.set_cons_zero, List.set_cons_succ])
                  refine wpAnyH_take (i := 13) (oi := ?o157) (v := ?v157) ?hi157 (by kernel_rfl) (by kernel_rfl) (by kernel_rfl) ?hq157 ?hy157 (by assumption) ?hr157
                  case hi157 => (simp only [List.getElem?_toArray, List.getElem?_cons_succ, List.getElem?_cons_zero]; rfl)
                  case hy157 => ((refine .inl ⟨by rfl, ?_⟩); intro w hS; go_simp; (try with_reducible rfl))
                  case hq157 => exact fun _ _ _ h => h
                  (simp only [Act.put, List.setIfInBounds_toArray, List.set_cons_zero, List.set_cons_succ])
                  refine wpAnyH_take (i := 14) (oi := ?o158) (v := ?v158) ?hi158 (by kernel_rfl) (by kernel_rfl) (by kernel_rfl) ?hq158 ?hy158 (by assumption) ?hr158
                  case hi158 => (simp only [List.getElem?_toArray, List.getElem?_cons_succ, List.getElem?_cons_zero]; rfl)
                  case hy158 => ((refine .inl ⟨by rfl, ?_⟩); intro w hS; go_simp; (try with_reducible rfl))
                  case hq158 => exact fun _ _ _ h => h
                  (simp only [Act.put, List.setIfInBounds_toArray, List.set_cons_zero, List.set_cons_succ])
                  refine wpAnyH_take (i := 15) (oi := ?o159) (v := ?v159) ?hi159 (by kernel_rfl) (by kernel_rfl) (by kernel_rfl) ?hq159 ?hy159 (by assumption) ?hr159
                  case hi159 => (simp only [List.getElem?_toArray, List.getElem?_cons_succ, List.getElem?_cons_zero]; rfl)
                  case hy159 => ((refine .inl ⟨by rfl, ?_⟩); intro w hS; go_simp; (try with_reducible rfl))
                  case hq159 => exact fun _ _ _ h => h
                  (simp only [Act.put, List.setIfInBounds_toArray, List.set_cons_zero, List.set_cons_succ])
                  refine wpAnyH_take (i := 16) (oi := ?o160) (v := ?v160) ?hi160 (by kernel_rfl) (by kernel_rfl) (by kernel_rfl) ?hq160 ?hy160 (by assumption) ?hr160
                  case hi160 => (simp only [List.getElem?_toArray, List.getElem?_cons_succ, List.getElem?_cons_zero]; rfl)
                  case hy160 => ((refine .inl ⟨by rfl, ?_⟩); intro w hS; go_simp; (try with_reducible rfl))
                  case hq160 => exact fun _ _ _ h => h
                  (simp only [Act.put, List.setIfInBounds_toArray, List.set_cons_zero, List.set_cons_succ])
                  refine wpAnyH_take (i := 17) (oi := ?o161) (v := ?v161) ?hi161 (by kernel_rfl) (by kernel_rfl) (by kernel_rfl) ?hq161 ?hy161 (by assumption) ?hr161
                  case hi161 => (simp only [List.getElem?_toArray, List.getElem?_cons_succ, List.getElem?_cons_zero]; rfl)
                  case hy161 => ((refine .inl ⟨by rfl, ?_⟩); intro w hS; go_simp; (try with_reducible rfl))
                  case hq161 => exact fun _ _ _ h => h
                  (simp only [Act.put, List.setIfInBounds_toArray, List.set_cons_zero, List.set_cons_succ])
                  refine wpAnyH_take (i := 18) (oi := ?o162) (v := undef) ?hi162 (by kernel_rfl) (by kernel_rfl) (by kernel_rfl) ?hq162 ?hy162 (by assumption) ?hr162
                  case hi162 => (simp only [List.getElem?_toArray, List.getElem?_cons_succ, List.getElem?_cons_zero]; rfl)
                  case hy162 => exact .inr ⟨by rfl, rfl⟩
                  case hq162 => exact fun _ _ _ h => h
                  (simp only [Act.put, List.setIfInBounds_toArray, List.set_cons_zero, List.set_cons_succ])
                  refine wpAnyH_take (i := 19) (oi := ?o163) (v := undef) ?hi163 (by kernel_rfl) (by kernel_rfl) (by kernel_rfl) ?hq163 ?hy163 (by assumption) ?hr163
                  case hi163 => (simp only [List.getElem?_toArray, List.getElem?_cons_succ, List.getElem?_cons_zero]; rfl)
                  case hy163 => exact .inr ⟨by rfl, rfl⟩
                  case hq163 => exact fun _ _ _ h => h
                  (simp only [Act.put, List.setIfInBounds_toArray, List.set_cons_zero, List.set_cons_succ])
                  refine wpAnyH_take (i := 20) (oi := ?o164) (v := undef) ?hi164 (by kernel_rfl) (by kernel_rfl) (by kernel_rfl) ?hq164 ?hy164 (by assumption) ?hr164
                  case hi164 => (simp only [List.getElem?_toArray, List.getElem?_cons_succ, List.getElem?_cons_zero]; rfl)
                  case hy164 => exact .inr ⟨by rfl, rfl⟩
                  case hq164 => exact fun _ _ _ h => h
                  (simp only [Act.put, List.setIfInBounds_toArray, List.set_cons_zero, List.set_cons_succ])
                  refine wpAnyH_take (i := 21) (oi := ?o165) (v := undef) ?hi165 (by kernel_rfl) (by kernel_rfl) (by kernel_rfl) ?hq165 ?hy165 (by assumption) ?hr165
                  case hi165 => (simp only [List.getElem?_toArray, List.getElem?_cons_succ, List.getElem?_cons_zero]; rfl)
                  case hy165 => exact .inr ⟨by rfl, rfl⟩
                  case hq165 => exact fun _ _ _ h => h
                  (simp only [Act.put, List.setIfInBounds_toArray, List.set_cons_zero, List.set_cons_succ])
                  refine wpAnyH_take (i := 22) (oi := ?o166) (v := undef) ?hi166 (by kernel_rfl) (by kernel_rfl) (by kernel_rfl) ?hq166 ?hy166 (by assumption) ?hr166
                  case hi166 => (simp only [List.getElem?_toArray, List.getElem?_cons_succ, List.getElem?_cons_zero]; rfl)
                  case hy166 => exact .inr ⟨by rfl, rfl⟩
                  case hq166 => exact fun _ _ _ h => h
                  (simp only [Act.put, List.setIfInBounds_toArray, List.set_cons_zero, List.set_cons_succ])
                  refine wpAnyH_take (i := 23) (oi := ?o167) (v := undef) ?hi167 (by kernel_rfl) (by kernel_rfl) (by kernel_rfl) ?hq167 ?hy167 (by assumption) ?hr167
                  case hi167 => (simp only [List.getElem?_toArray, List.getElem?_cons_succ, List.getElem?_cons_zero]; rfl)
                  case hy167 => exact .inr ⟨by rfl, rfl⟩
                  case hq167 => exact fun _ _ _ h => h
                  (simp only [Act.put, List.setIfInBounds_toArray, List.set_cons_zero, List.set_cons_succ])
                  refine wpAnyH_take (i := 24) (oi := ?o168) (v := undef) ?hi168 (by kernel_rfl) (by kernel_rfl) (by kernel_rfl) ?hq168 ?hy168 (by assumption) ?hr168
                  case hi168 => (simp only [List.getElem?_toArray, List.getElem?_cons_succ, List.getElem?_cons_zero]; rfl)
                  case hy168 => exact .inr ⟨by rfl, rfl⟩
                  case hq168 => exact fun _ _ _ h => h
                  (simp only [Act.put, List.setIfInBounds_toArray, List.set_cons_zero, List.set_cons_succ])
                  refine wpAnyH_take (i := 25) (oi := ?o169) (v := undef) ?hi169 (by kernel_rfl) (by kernel_rfl) (by kernel_rfl) ?hq169 ?hy169 (by assumption) ?hr169
                  case hi169 => (simp only [List.getElem?_toArray, List.getElem?_cons_succ, List.getElem?_cons_zero]; rfl)
                  case hy169 => exact .inr ⟨by rfl, rfl⟩
                  case hq169 => exact fun _ _ _ h => h
                  (simp only [Act.put, List.setIfInBounds_toArray, List.set_cons_zero, List.set_cons_succ])
                  refine wpAnyH_take (i := 26) (oi := ?o170) (v := undef) ?hi170 (by kernel_rfl) (by kernel_rfl) (by kernel_rfl) ?hq170 ?hy170 (by assumption) ?hr170
                  case hi170 => (simp only [List.getElem?_toArray, List.getElem?_cons_succ, List.getElem?_cons_zero]; rfl)
                  case hy170 => exact .inr ⟨by rfl, rfl⟩
                  case hq170 => exact fun _ _ _ h => h
                  (simp only [Act.put, List.setIfInBounds_toArray, List.set_cons_zero, List.set_cons_succ])
                  refine wpAnyH_take (i := 27) (oi := ?o171) (v := undef) ?hi171 (by kernel_rfl) (by kernel_rfl) (by kernel_rfl) ?hq171 ?hy171 (by assumption) ?hr171
                  case hi171 => (simp only [List.getElem?_toArray, List.getElem?_cons_succ, List.getElem?_cons_zero]; rfl)
                  case hy171 => exact .inr ⟨by rfl, rfl⟩
                  case hq171 => exact fun _ _ _ h => h
                  (simp only [Act.put, List.setIfInBounds_toArray, List.set_cons_zero, List.set_cons_succ])
                  refine wpAnyH_take (i := 28) (oi := ?o172) (v := undef) ?hi172 (by kernel_rfl) (by kernel_rfl) (by kernel_rfl) ?hq172 ?hy172 (by assumption) ?hr172
                  case hi172 => (simp only [List.getElem?_toArray, List.getElem?_cons_succ, List.getElem?_cons_zero]; rfl)
                  case hy172 => exact .inr ⟨by rfl, rfl⟩
                  case hq172 => exact fun _ _ _ h => h
                  (simp only [Act.put, List.setIfInBounds_toArray, List.set_cons_zero, List.set_cons_succ])
                  refine wpAnyH_take (i := 29) (oi := ?o173) (v := undef) ?hi173 (by kernel_rfl) (by kernel_rfl) (by kernel_rfl) ?hq173 ?hy173 (by assumption) ?hr173
                  case hi173 => (simp only [List.getElem?_toArray, List.getElem?_cons_succ, List.getElem?_cons_zero]; rfl)
                  case hy173 => exact .inr ⟨by rfl, rfl⟩
                  case hq173 => exact fun _ _ _ h => h
                  (simp only [Act.put, List.setIfInBounds_toArray, List.set_cons_zero, List.set_cons_succ])
                  refine wpAnyH_take (i := 30) (oi := ?o174) (v := undef) ?hi174 (by kernel_rfl) (by kernel_rfl) (by kernel_rfl) ?hq174 ?hy174 (by assumption) ?hr174
                  case hi174 => (simp only [List.getElem?_toArray, List.getElem?_cons_succ, List.getElem?_cons_zero]; rfl)
                  case hy174 => exact .inr ⟨by rfl, rfl⟩
                  case hq174 => exact fun _ _ _ h => h
                  (simp only [Act.put, List.setIfInBounds_toArray, List.set_cons_zero, List.set_cons_succ])
                  refine wpAnyH_take (i := 31) (oi := ?o175) (v := ?v175) ?hi175 (by kernel_rfl) (by kernel_rfl) (by kernel_rfl) ?hq175 ?hy175 (by assumption) ?hr175
                  case hi175 => (simp only [List.getElem?_toArray, List.getElem?_cons_succ, List.getElem?_cons_zero]; rfl)
                  case hy175 => ((refine .inl ⟨by rfl, ?_⟩); intro w hS; go_simp; (try with_reducible rfl))
                  case hq175 => exact fun _ _ _ h => h
                  (simp only [Act.put, List.setIfInBounds_toArray, List.set_cons_zero, List.set_cons_succ])
                  refine wpAnyH_take (i := 32) (oi := ?o176) (v := ?v176) ?hi176 (by kernel_rfl) (by kernel_rfl) (by kernel_rfl) ?hq176 ?hy176 (by assumption) ?hr176
                  case hi176 => (simp only [List.getElem?_toArray, List.getElem?_cons_succ, List.getElem?_cons_zero]; rfl)
                  case hy176 => ((refine .inl ⟨by rfl, ?_⟩); intro w hS; go_simp; (try with_reducible rfl))
                  case hq176 => exact fun _ _ _ h => h
                  (simp only [Act.put, List.setIfInBounds_toArray, List.set_cons_zero, List.set_cons_succ])
                  refine wpAnyH_take (i := 33) (oi := ?o177) (v := ?v177) ?hi177 (by kernel_rfl) (by kernel_rfl) (by kernel_rfl) ?hq177 ?hy177 (by assumption) ?hr177
                  case hi177 => (simp only [List.getElem?_toArray, List.getElem?_cons_succ, List.getElem?_cons_zero]; rfl)
                  case hy177 => ((refine .inl ⟨by rfl, ?_⟩); intro w hS; go_simp; (try with_reducible rfl))
                  case hq177 => exact fun _ _ _ h => h
                  (simp only [Act.put, List.setIfInBounds_toArray, List.set_cons_zero, List.set_cons_succ])
                  refine wpAnyH_take (i := 34) (oi := ?o178) (v := ?v178) ?hi178 (by kernel_rfl) (by kernel_rfl) (by kernel_rfl) ?hq178 ?hy178 (by assumption) ?hr178
                  case hi178 => (simp only [List.getElem?_toArray, List.getElem?_cons_succ, List.getElem?_cons_zero]; rfl)
                  case hy178 => ((refine .inl ⟨by rfl, ?_⟩); intro w hS; go_simp; (try with_reducible rfl))
                  case hq178 => exact fun _ _ _ h => h
                  (simp only [Act.put, List.setIfInBounds_toArray, List.set_cons_zero, List.set_cons_succ])
                  refine wpAnyH_take (i := 35) (oi := ?o179) (v := ?v179) ?hi179 (by kernel_rfl) (by kernel_rfl) (by kernel_rfl) ?hq179 ?hy179 (by assumption) ?hr179
                  case hi179 => (simp only [List.getElem?_toArray, List.getElem?_cons_succ, List.getElem?_cons_zero]; rfl)
                  case hy179 => ((refine .inl ⟨by rfl, ?_⟩); intro w hS; go_simp; (try with_reducible rfl))
                  case hq179 => exact fun _ _ _ h => h
                  (simp only [Act.put, List.setIfInBounds_toArray, List.set_cons_zero, List.set_cons_succ])
                  refine wpAnyH_take (i := 36) (oi := ?o180) (v := ?v180) ?hi180 (by kernel_rfl) (by kernel_rfl) (by kernel_rfl) ?hq180 ?hy180 (by assumption) ?hr180
                  case hi180 => (simp only [List.getElem?_toArray, List.getElem?_cons_succ, List.getElem?_cons_zero]; rfl)
                  case hy180 => ((refine .inl ⟨by rfl, ?_⟩); intro w hS; go_simp; (try with_reducible rfl))
                  case hq180 => exact fun _ _ _ h => h
                  (simp only [Act.put, List.setIfInBounds_toArray, List.set_cons_zero, List.set_cons_succ])
                  refine wpAnyH_take (i := 37) (oi := ?o181) (v := undef) ?hi181 (by kernel_rfl) (by kernel_rfl) (by kernel_rfl) ?hq181 ?hy181 (by assumption) ?hr181
                  case hi181 => (simp only [List.getElem?_toArray, List.getElem?_cons_succ, List.getElem?_cons_zero]; rfl)
                  case hy181 => exact .inr ⟨by rfl, rfl⟩
                  case hq181 => exact fun _ _ _ h => h
                  (simp only [Act.put, List.setIfInBounds_toArray, List.set_cons_zero, List.set_cons_succ])
                  refine wpAnyH_take (i := 38) (oi := ?o182) (v := undef) ?hi182 (by kernel_rfl) (by kernel_rfl) (by kernel_rfl) ?hq182 ?hy182 (by assumption) ?hr182
                  case hi182 => (simp only [List.getElem?_toArray, List.getElem?_cons_succ, List.getElem?_cons_zero]; rfl)
                  case hy182 => exact .inr ⟨by rfl, rfl⟩
                  case hq182 => exact fun _ _ _ h => h
                  (simp only [Act.put, List.setIfInBounds_toArray, List.set_cons_zero, List.set_cons_succ])
                  refine wpAnyH_take (i := 39) (oi := ?o183) (v := undef) ?hi183 (by kernel_rfl) (by kernel_rfl) (by kernel_rfl) ?hq183 ?hy183 (by assumption) ?hr183
                  case hi183 => (simp only [List.getElem?_toArray, List.getElem?_cons_succ, List.getElem?_cons_zero]; rfl)
                  case hy183 => exact .inr ⟨by rfl, rfl⟩
                  case hq183 => exact fun _ _ _ h => h
                  (simp only [Act.put, List.setIfInBounds_toArray, List.set_cons_zero, List.set_cons_succ])
                  refine wpAnyH_take (i := 40) (oi := ?o184) (v := undef) ?hi184 (by kernel_rfl) (by kernel_rfl) (by kernel_rfl) ?hq184 ?hy184 (by assumption) ?hr184
                  case hi184 => (simp only [List.getElem?_toArray, List.getElem?_cons_succ, List.getElem?_cons_zero]; rfl)
                  case hy184 => exact .inr ⟨by rfl, rfl⟩
                  case hq184 => exact fun _ _ _ h => h
                  (simp only [Act.put, List.setIfInBounds_toArray, List.set_cons_zero, List.set_cons_succ])
                  refine wpAnyH_take (i := 41) (oi := ?o185) (v := undef) ?hi185 (by kernel_rfl) (by kernel_rfl) (by kernel_rfl) ?hq185 ?hy185 (by assumption) ?hr185
                  case hi185 => (simp only [List.getElem?_toArray, List.getElem?_cons_succ, List.getElem?_cons_zero]; rfl)
                  case hy185 => exact .inr ⟨by rfl, rfl⟩
                  case hq185 => exact fun _ _ _ h => h
                  (simp only [Act.put, List.setIfInBounds_toArray, List.set_cons_zero, List.set_cons_succ])
                  refine wpAnyH_take (i := 42) (oi := ?o186) (v := undef) ?hi186 (by kernel_rfl) (by kernel_rfl) (by kernel_rfl) ?hq186 ?hy186 (by assumption) ?hr186
                  case hi186 => (simp only [List.getElem?_toArray, List.getElem?_cons_succ, List.getElem?_cons_zero]; rfl)
                  case hy186 => exact .inr ⟨by rfl, rfl⟩
                  case hq186 => exact fun _ _ _ h => h
                  (simp only [Act.put, List.setIfInBounds_toArray, List.set_cons_zero, List.set_cons_succ])
                  refine wpAnyH_take (i := 43) (oi := ?o187) (v := undef) ?hi187 (by kernel_rfl) (by kernel_rfl) (by kernel_rfl) ?hq187 ?hy187 (by assumption) ?hr187
                  case hi187 => (simp only [List.getElem?_toArray, List.getElem?_cons_succ, List.getElem?_cons_zero]; rfl)
                  case hy187 => exact .inr ⟨by rfl, rfl⟩
                  case hq187 => exact fun _ _ _ h => h
                  (simp only [Act.put, List.setIfInBounds_toArray, List.set_cons_zero, List.set_cons_succ])
                  refine wpAnyH_take (i := 44) (oi := ?o188) (v := ?v188) ?hi188 (by kernel_rfl) (by kernel_rfl) (by kernel_rfl) ?hq188 ?hy188 (by assumption) ?hr188
                  case hi188 => (simp only [List.getElem?_toArray, List.getElem?_cons_succ, List.getElem?_cons_zero]; rfl)
                  case hy188 => ((refine .inl ⟨by rfl, ?_⟩); intro w hS; go_simp; (try with_reducible rfl))
                  case hq188 => exact fun _ _ _ h => h
                  (simp only [Act.put, List.setIfInBounds_toArray, List.set_cons_zero, List.set_cons_succ])
                  refine wpAnyH_take (i := 45) (oi := ?o189) (v := ?v189) ?hi189 (by kernel_rfl) (by kernel_rfl) (by kernel_rfl) ?hq189 ?hy189 (by assumption) ?hr189
                  case hi189 => (simp only [List.getElem?_toArray, List.getElem?_cons_succ, List.getElem?_cons_zero]; rfl)
                  case hy189 => ((refine .inl ⟨by rfl, ?_⟩); intro w hS; go_simp; (try with_reducible rfl))
                  case hq189 => exact fun _ _ _ h => h
                  (simp only [Act.put, List.setIfInBounds_toArray, List.set_cons_zero, List.set_cons_succ])
                  refine wpAnyH_done (by kernel_rfl) ?_ _
                  go_wp2_with fail
                  go_meet
                  exact ⟨by rw [HPE.out]; rfl, hHeld⟩
                | false =>
                  refine wp_region_held_drew (S := (fun w' => Below wo.heap.size wo w')) (by kernel_rfl) ((Below.refl _ _).drew) (fun hHeld => ?_)
                  refine wpAnyH_take (i := 0) (oi := ?o190) (v := ?v190) ?hi190 (by kernel_rfl) (by kernel_rfl) (by kernel_rfl) ?hq190 ?hy190 (by assumption) ?hr190
                  case hi190 => (simp only [List.getElem?_toArray, List.getElem?_cons_zero]; rfl)
                  case hy190 => ((refine .inl ⟨by rfl, ?_⟩); intro w hS; go_simp; (try with_reducible rfl))
                  case hq190 => exact fun _ _ _ h => h
                  (simp only [Act.put, List.setIfInBounds_toArray, List.set_cons_zero, List.set_cons_succ])
                  refine wpAnyH_take (i := 1) (oi := ?o191) (v := ?v191) ?hi191 (by kernel_rfl) (by kernel_rfl) (by kernel_rfl) ?hq191 ?hy191 (by assumption) ?hr191
                  case hi191 => (simp only [List.getElem?_toArray, List.getElem?_cons_succ, List.getElem?_cons_zero]; rfl)
                  case hy191 => ((refine .inl ⟨by rfl, ?_⟩); intro w hS; go_simp; (try with_reducible rfl))
                  case hq191 => exact fun _ _ _ h => h
                  (simp only [Act.put, List.setIfInBounds_toArray, List.set_cons_zero, List.set_cons_succ])
                  refine wpAnyH_take (i := 2) (oi := ?o192) (v := ?v192) ?hi192 (by kernel_rfl) (by kernel_rfl) (by kernel_rfl) ?hq192 ?hy192 (by assumption) ?hr192
                  case hi192 => (simp only [List.getElem?_toArray, List.getElem?_cons_succ, List.getElem?_cons_zero]; rfl)
                  case hy192 => ((refine .inl ⟨by rfl, ?_⟩); intro w hS; go_simp; (try with_reducible rfl))
                  case hq192 => exact fun _ _ _ h => h
                  (simp only [Act.put, List.setIfInBounds_toArray, List.set_cons_zero, List.set_cons_succ])
                  refine wpAnyH_take (i := 3) (oi := ?o193) (v := ?v193) ?hi193 (by kernel_rfl) (by kernel_rfl) (by kernel_rfl) ?hq193 ?hy193 (by assumption) ?hr193
                  case hi193 => (simp only [List.getElem?_toArray, List.getElem?_cons_succ, List.getElem?_cons_zero]; rfl)
                  case hy193 => ((refine .inl ⟨by rfl, ?_⟩); intro w hS; have q0 := (Below.cell hS (p := ⟨b, off + i * 7, none⟩) hbw).trans p0; have q1 := (Below.cell hS (p := ⟨b, off + i * 7 + 1, none⟩) hbw).trans p1; have q2 := (Below.cell hS (p := ⟨b, off + i * 7 + 2, none⟩) hbw).trans p2; have q3 := (Below.cell hS (p := ⟨b, off + i * 7 + 3, none⟩) hbw).trans p3; have q4 := (Below.cell hS (p := ⟨b, off + i * 7 + 4, none⟩) hbw).trans p4; have q5 := (Below.cell hS (p := ⟨b, off + i * 7 + 5, none⟩) hbw).trans p5; have q6 := (Below.cell hS (p := ⟨b, off + i * 7 + 6, none⟩) hbw).trans p6; go_simp; (try with_reducible rfl))
                  case hq193 => exact fun _ _ _ h => h
                  (simp only [Act.put, List.setIfInBounds_toArray, List.set_cons_zero, List.set_cons_succ])
                  refine wpAnyH_ready (rs := [4]) (by kernel_rfl) (by simp) ?_
                  refine AllReadyH.cons rfl (fun K hK => ?_) AllReadyH.nil
                  go_simp
                  go_wp2_with ((go_at_call 39; refine (CV.out _).mono ?_; rintro e w5 ⟨rfl, hb5⟩))
                  refine hK.out _ _ (belowC' hb5 hHeld) (fun hHeld => ?_)
                  clear hK K
                  (try simp only [Act.put, List.setIfInBounds_toArray, List.set_cons_zero, List.set_cons_succ])
                  refine wpAnyH_take (i := 5) (oi := ?o194) (v := ?v194) ?hi194 (by kernel_rfl) (by kernel_rfl) (by kernel_rfl) ?hq194 ?hy194 (by assumption) ?hr194
                  case hi194 => (simp only [List.getElem?_toArray, List.getElem?_cons_succ, List.getElem?_cons_zero]; rfl)
                  case hy194 => ((refine .inl ⟨by rfl, ?_⟩); intro w hS; go_simp; (try with_reducible rfl))
                  case hq194 => exact fun _ _ _ h => h
                  (simp only [Act.put, List.setIfInBounds_toArray, List.set_cons_zero, List.set_cons_succ])
                  refine wpAnyH_take (i := 6) (oi := ?o195) (v := ?v195) ?hi195 (by kernel_rfl) (by kernel_rfl) (by kernel_rfl) ?hq195 ?hy195 (by assumption) ?hr195
                  case hi195 => (simp only [List.getElem?_toArray, List.getElem?_cons_succ, List.getElem?_cons_zero]; rfl)
                  case hy195 => ((refine .inl ⟨by rfl, ?_⟩); intro w hS; go_simp; (try with_reducible rfl))
                  case hq195 => exact fun _ _ _ h => h
                  (simp only [Act.put, List.setIfInBounds_toArray, List.set_cons_zero, List.set_cons_succ])
                  refine wpAnyH_take (i := 7) (oi := ?o196) (v := ?v196) ?hi196 (by kernel_rfl) (by kernel_rfl) (by kernel_rfl) ?hq196 ?hy196 (by assumption) ?hr196
                  case hi196 => (simp only [List.getElem?_toArray, List.getElem?_cons_succ, List.getElem?_cons_zero]; rfl)
                  case hy196 => ((refine .inl ⟨by rfl, ?_⟩); intro w hS; go_simp; (try with_reducible rfl))
                  case hq196 => exact fun _ _ _ h => h
                  (simp only [Act.put, List.setIfInBounds_toArray, List.set_cons_zero, List.set_cons_succ])
                  refine wpAnyH_take (i := 8) (oi := ?o197) (v := ?v197) ?hi197 (by kernel_rfl) (by kernel_rfl) (by kernel_rfl) ?hq197 ?hy197 (by assumption) ?hr197
                  case hi197 => (simp only [List.getElem?_toArray, List.getElem?_cons_succ, List.getElem?_cons_zero]; rfl)
                  case hy197 => ((refine .inl ⟨by rfl, ?_⟩); intro w hS; go_simp; (try with_reducible rfl))
                  case hq197 => exact fun _ _ _ h => h
                  (simp only [Act.put, List.setIfInBounds_toArray, List.set_cons_zero, List.set_cons_succ])
                  refine wpAnyH_take (i := 9) (oi := ?o198) (v := ?v198) ?hi198 (by kernel_rfl) (by kernel_rfl) (by kernel_rfl) ?hq198 ?hy198 (by assumption) ?hr198
                  case hi198 => (simp only [List.getElem?_toArray, List.getElem?_cons_succ, List.getElem?_cons_zero]; rfl)
                  case hy198 => ((refine .inl ⟨by rfl, ?_⟩); intro w hS; go_simp; (try with_reducible rfl))
                  case hq198 => exact fun _ _ _ h => h
                  (simp only [Act.put, List.setIfInBounds_toArray, List.set_cons_zero, List.set_cons_succ])
                  refine wpAnyH_take (i := 10) (oi := ?o199) (v := ?v199) ?hi199 (by kernel_rfl) (by kernel_rfl) (by kernel_rfl) ?hq199 ?hy199 (by assumption) ?hr199
                  case hi199 => (simp only [List.getElem?_toArray, List.getElem?_cons_succ, List.getElem?_cons_zero]; rfl)
                  case hy199 => ((refine .inl ⟨by rfl, ?_⟩); intro w hS; go_simp; (try with_reducible rfl))
                  case hq199 => exact fun _ _ _ h => h
                  (simp only [Act.put, List.setIfInBounds_toArray, List.set_cons_zero, List.set_cons_succ])
                  refine wpAnyH_take (i := 11) (oi := ?o200) (v := ?v200) ?hi200 (by kernel_rfl) (by kernel_rfl) (by kernel_rfl) ?hq200 ?hy200 (by assumption) ?hr200
                  case hi200 => (simp only [List.getElem?_toArray, List.getElem?_cons_succ, List.getElem?_cons_zero]; rfl)
                  case hy200 => ((refine .inl ⟨by rfl, ?_⟩); intro w hS; have q := (Below.cell hS (p := ⟨b, off + i * 7 + 1, none⟩) hbw).trans p1; go_simp; (try with_reducible rfl))
                  case hq200 => exact fun _ _ _ h => h
                  (simp only [Act.put, List.setIfInBounds_toArray, List.set_cons_zero, List.set_cons_succ])
                  refine wpAnyH_take (i := 12) (oi := ?o201) (v := ?v201) ?hi201 (by kernel_rfl) (by kernel_rfl) (by kernel_rfl) ?hq201 ?hy201 (by assumption) ?hr201
                  case hi201 => (simp only [List.getElem?_toArray, List.getElem?_cons_succ, List.getElem?_cons_zero]; rfl)
                  case hy201 => ((refine .inl ⟨by rfl, ?_⟩); intro w hS; go_simp; (try with_reducible rfl))
                  case hq201 => exact fun _ _ _ h => h
                  (simp only [Act.put, List.setIfInBounds_toArray, List.set_cons_zero, List.set_cons_succ])
                  refine wpAnyH_take (i := 13) (oi := ?o202) (v := ?v202) ?hi202 (by kernel_rfl) (by kernel_rfl) (by kernel_rfl) ?hq202 ?hy202 (by assumption) ?hr202
                  case hi202 => (simp only [List.getElem?_toArray, List.getElem?_cons_succ, List.getElem?_cons_zero]; rfl)
                  case hy202 => ((refine .inl ⟨by rfl, ?_⟩); intro w hS; go_simp; (try with_reducible rfl))
                  case hq202 => exact fun _ _ _ h => h
                  (simp only [Act.put, List.setIfInBounds_toArray, List.set_cons_zero, List.set_cons_succ])
                  refine wpAnyH_take (i := 14) (oi := ?o203) (v := ?v203) ?hi203 (by kernel_rfl) (by kernel_rfl) (by kernel_rfl) ?hq203 ?hy203 (by assumption) ?hr203
                  case hi203 => (simp only [List.getElem?_toArray, List.getElem?_cons_succ, List.getElem?_cons_zero]; rfl)
                  case hy203 => ((refine .inl ⟨by rfl, ?_⟩); intro w hS; go_simp; (try with_reducible rfl))
                  case hq203 => exact fun _ _ _ h => h
                  (simp only [Act.put, List.setIfInBounds_toArray, List.set_cons_zero, List.set_cons_succ])
                  refine wpAnyH_take (i := 15) (oi := ?o204) (v := ?v204) ?hi204 (by kernel_rfl) (by kernel_rfl) (by kernel_rfl) ?hq204 ?hy204 (by assumption) ?hr204
                  case hi204 => (simp only [List.getElem?_toArray, List.getElem?_cons_succ, List.getElem?_cons_zero]; rfl)
                  case hy204 => ((refine .inl ⟨by rfl, ?_⟩); intro w hS; go_simp; (try with_reducible rfl))
                  case hq204 => exact fun _ _ _ h => h
                  (simp only [Act.put, List.setIfInBounds_toArray, List.set_cons_zero, List.set_cons_succ])
                  refine wpAnyH_take (i := 16) (oi := ?o205) (v := ?v205) ?hi205 (by kernel_rfl) (by kernel_rfl) (by kernel_rfl) ?hq205 ?hy205 (by assumption) ?hr205
                  case hi205 => (simp only [List.getElem?_toArray, List.getElem?_cons_succ, List.getElem?_cons_zero]; rfl)
                  case hy205 => ((refine .inl ⟨by rfl, ?_⟩); intro w hS; go_simp; (try with_reducible rfl))
                  case hq205 => exact fun _ _ _ h => h
                  (simp only [Act.put, List.setIfInBounds_toArray, List.set_cons_zero, List.set_cons_succ])
                  refine wpAnyH_take (i := 17) (oi := ?o206) (v := ?v206) ?hi206 (by kernel_rfl) (by kernel_rfl) (by kernel_rfl) ?hq206 ?hy206 (by assumption) ?hr206
                  case hi206 => (simp only [List.getElem?_toArray, List.getElem?_cons_succ, List.getElem?_cons_zero]; rfl)
                  case hy206 => ((refine .inl ⟨by rfl, ?_⟩); intro w hS; go_simp; (try with_reducible rfl))
                  case hq206 => exact fun _ _ _ h => h
                  (simp only [Act.put, List.setIfInBounds_toArray, List.set_cons_zero, List.set_cons_succ])
                  refine wpAnyH_take (i := 18) (oi := ?o207) (v := undef) ?hi207 (by kernel_rfl) (by kernel_rfl) (by kernel_rfl) ?hq207 ?hy207 (by assumption) ?hr207
                  case hi207 => (simp only [List.getElem?_toArray, List.getElem?_cons_succ, List.getElem?_cons_zero]; rfl)
                  case hy207 => exact .inr ⟨by rfl, rfl⟩
                  case hq207 => exact fun _ _ _ h => h
                  (simp only [Act.put, List.setIfInBounds_toArray, List.set_cons_zero, List.set_cons_succ])
                  refine wpAnyH_take (i := 19) (oi := ?o208) (v := undef) ?hi208 (by kernel_rfl) (by kernel_rfl) (by kernel_rfl) ?hq208 ?hy208 (by assumption) ?hr208
                  case hi208 => (simp only [List.getElem?_toArray, List.getElem?_cons_succ, List.getElem?_cons_zero]; rfl)
                  case hy208 => exact .inr ⟨by rfl, rfl⟩
                  case hq208 => exact fun _ _ _ h => h
                  (simp only [Act.put, List.setIfInBounds_toArray, List.set_cons_zero, List.set_cons_succ])
                  refine wpAnyH_take (i := 20) (oi := ?o209) (v := undef) ?hi209 (by kernel_rfl) (by kernel_rfl) (by kernel_rfl) ?hq209 ?hy209 (by assumption) ?hr209
                  case hi209 => (simp only [List.getElem?_toArray, List.getElem?_cons_succ, List.getElem?_cons_zero]; rfl)
                  case hy209 => exact .inr ⟨by rfl, rfl⟩
                  case hq209 => exact fun _ _ _ h => h
                  (simp only [Act.put, List.setIfInBounds_toArray, List.set_cons_zero, List.set_cons_succ])
                  refine wpAnyH_take (i := 21) (oi := ?o210) (v := undef) ?hi210 (by kernel_rfl) (by kernel_rfl) (by kernel_rfl) ?hq210 ?hy210 (by assumption) ?hr210
                  case hi210 => (simp only [List.getElem?_toArray, List.getElem?_cons_succ, List.getElem?_cons_zero]; rfl)
                  case hy210 => exact .inr ⟨by rfl, rfl⟩
                  case hq210 => exact fun _ _ _ h => h
                  (simp only [Act.put, List.setIfInBounds_toArray, List.set_cons_zero, List.set_cons_succ])
                  refine wpAnyH_take (i := 22) (oi := ?o211) (v := undef) ?hi211 (by kernel_rfl) (by kernel_rfl) (by kernel_rfl) ?hq211 ?hy211 (by assumption) ?hr211
                  case hi211 => (simp only [List.getElem?_toArray, List.getElem?_cons_succ, List.getElem?_cons_zero]; rfl)
                  case hy211 => exact .inr ⟨by rfl, rfl⟩
                  case hq211 => exact fun _ _ _ h => h
                  (simp only [Act.put, List.setIfInBounds_toArray, List.set_cons_zero, List.set_cons_succ])
                  refine wpAnyH_take (i := 23) (oi := ?o212) (v := undef) ?hi212 (by kernel_rfl) (by kernel_rfl) (by kernel_rfl) ?hq212 ?hy212 (by assumption) ?hr212
                  case hi212 => (simp only [List.getElem?_toArray, List.getElem?_cons_succ, List.getElem?_cons_zero]; rfl)
                  case hy212 => exact .inr ⟨by rfl, rfl⟩
                  case hq212 => exact fun _ _ _ h => h
                  (simp only [Act.put, List.setIfInBounds_toArray, List.set_cons_zero, List.set_cons_succ])
                  refine wpAnyH_take (i := 24) (oi := ?o213) (v := undef) ?hi213 (by kernel_rfl) (by kernel_rfl) (by kernel_rfl) ?hq213 ?hy213 (by assumption) ?hr213
                  case hi213 => (simp only [List.getElem?_toArray, List.getElem?_cons_succ, List.getElem?_cons_zero]; rfl)
                  case hy213 => exact .inr ⟨by rfl, rfl⟩
                  case hq213 => exact fun _ _ _ h => h
                  (simp only [Act.put, List.setIfInBounds_toArray, List.set_cons_zero, List.set_cons_succ])
                  refine wpAnyH_take (i := 25) (oi := ?o214) (v := undef) ?hi214 (by kernel_rfl) (by kernel_rfl) (by kernel_rfl) ?hq214 ?hy214 (by assumption) ?hr214
                  case hi214 => (simp only [List.getElem?_toArray, List.getElem?_cons_succ, List.getElem?_cons_zero]; rfl)
                  case hy214 => exact .inr ⟨by rfl, rfl⟩
                  case hq214 => exact fun _ _ _ h => h
                  (simp only [Act.put, List.setIfInBounds_toArray, List.set_cons_zero, List.set_cons_succ])
                  refine wpAnyH_take (i := 26) (oi := ?o215) (v := undef) ?hi215 (by kernel_rfl) (by kernel_rfl) (by kernel_rfl) ?hq215 ?hy215 (by assumption) ?hr215
                  case hi215 => (simp only [List.getElem?_toArray, List.getElem?_cons_succ, List.getElem?_cons_zero]; rfl)
                  case hy215 => exact .inr ⟨by rfl, rfl⟩
                  case hq215 => exact fun _ _ _ h => h
                  (simp only [Act.put, List.setIfInBounds_toArray, List.set_cons_zero, List.set_cons_succ])
                  refine wpAnyH_take (i := 27) (oi := ?o216) (v := undef) ?hi216 (by kernel_rfl) (by kernel_rfl) (by kernel_rfl) ?hq216 ?hy216 (by assumption) ?hr216
                  case hi216 => (simp only [List.getElem?_toArray, List.getElem?_cons_succ, List.getElem?_cons_zero]; rfl)
                  case hy216 => exact .inr ⟨by rfl, rfl⟩
                  case hq216 => exact fun _ _ _ h => h
                  (simp only [Act.put, List.setIfInBounds_toArray, List.set_cons_zero, List.set_cons_succ])
                  refine wpAnyH_take (i := 28) (oi := ?o217) (v := undef) ?hi217 (by kernel_rfl) (by kernel_rfl) (by kernel_rfl) ?hq217 ?hy217 (by assumption) ?hr217
                  case hi217 => (simp only [List.getElem?_toArray, List.getElem?_cons_succ, List.getElem?_cons_zero]; rfl)
                  case hy217 => exact .inr ⟨by rfl, rfl⟩
                  case hq217 => exact fun _ _ _ h => h
                  (simp only [Act.put, List.setIfInBounds_toArray, List.set_cons_zero, List.set_cons_succ])
                  refine wpAnyH_take (i := 29) (oi := ?o218) (v := undef) ?hi218 (by kernel_rfl) (by kernel_rfl) (by kernel_rfl) ?hq218 ?hy218 (by assumption) ?hr218
                  case hi218 => (simp only [List.getElem?_toArray, List.getElem?_cons_succ, List.getElem?_cons_zero]; rfl)
                  case hy218 => exact .inr ⟨by rfl, rfl⟩
                  case hq218 => exact fun _ _ _ h => h
                  (simp only [Act.put, List.setIfInBounds_toArray, List.set_cons_zero, List.set_cons_succ])
                  refine wpAnyH_take (i := 30) (oi := ?o219) (v := undef) ?hi219 (by kernel_rfl) (by kernel_rfl) (by kernel_rfl) ?hq219 ?hy219 (by assumption) ?hr219
                  case hi219 => (simp only [List.getElem?_toArray, List.getElem?_cons_succ, List.getElem?_cons_zero]; rfl)
                  case hy219 => exact .inr ⟨by rfl, rfl⟩
                  case hq219 => exact fun _ _ _ h => h
                  (simp only [Act.put, List.setIfInBounds_toArray, List.set_cons_zero, List.set_cons_succ])
                  refine wpAnyH_take (i := 31) (oi := ?o220) (v := ?v220) ?hi220 (by kernel_rfl) (by kernel_rfl) (by kernel_rfl) ?hq220 ?hy220 (by assumption) ?hr220
                  case hi220 => (simp only [List.getElem?_toArray, List.getElem?_cons_succ, List.getElem?_cons_zero]; rfl)
                  case hy220 => ((refine .inl ⟨by rfl, ?_⟩); intro w hS; go_simp; (try with_reducible rfl))
                  case hq220 => exact fun _ _ _ h => h
                  (simp only [Act.put, List.setIfInBounds_toArray, List.set_cons_zero, List.set_cons_succ])
                  refine wpAnyH_take (i := 32) (oi := ?o221) (v := ?v221) ?hi221 (by kernel_rfl) (by kernel_rfl) (by kernel_rfl) ?hq221 ?hy221 (by assumption) ?hr221
                  case hi221 => (simp only [List.getElem?_toArray, List.getElem?_cons_succ, List.getElem?_cons_zero]; rfl)
                  case hy221 => ((refine .inl ⟨by rfl, ?_⟩); intro w hS; go_simp; (try with_reducible rfl))
                  case hq221 => exact fun _ _ _ h => h
                  (simp only [Act.put, List.setIfInBounds_toArray, List.set_cons_zero, List.set_cons_succ])
                  refine wpAnyH_take (i := 33) (oi := ?o222) (v := ?v222) ?hi222 (by kernel_rfl) (by kernel_rfl) (by kernel_rfl) ?hq222 ?hy222 (by assumption) ?hr222
                  case hi222 => (simp only [List.getElem?_toArray, List.getElem?_cons_succ, List.getElem?_cons_zero]; rfl)
                  case hy222 => ((refine .inl ⟨by rfl, ?_⟩); intro w hS; go_simp; (try with_reducible rfl))
                  case hq222 => exact fun _ _ _ h => h
                  (simp only [Act.put, List.setIfInBounds_toArray, List.set_cons_zero, List.set_cons_succ])
                  refine wpAnyH_take (i := 34) (oi := ?o223) (v := ?v223) ?hi223 (by kernel_rfl) (by kernel_rfl) (by kernel_rfl) ?hq223 ?hy223 (by assumption) ?hr223
                  case hi223 => (simp only [List.getElem?_toArray, List.getElem?_cons_succ, List.getElem?_cons_zero]; rfl)
                  case hy223 => ((refine .inl ⟨by rfl, ?_⟩); intro w hS; go_simp; (try with_reducible rfl))
                  case hq223 => exact fun _ _ _ h => h
                  (simp only [Act.put, List.setIfInBounds_toArray, List.set_cons_zero, List.set_cons_succ])
                  refine wpAnyH_take (i := 35) (oi := ?o224) (v := ?v224) ?hi224 (by kernel_rfl) (by kernel_rfl) (by kernel_rfl) ?hq224 ?hy224 (by assumption) ?hr224
                  case hi224 => (simp only [List.getElem?_toArray, List.getElem?_cons_succ, List.getElem?_cons_zero]; rfl)
                  case hy224 => ((refine .inl ⟨by rfl, ?_⟩); intro w hS; go_simp; (try with_reducible rfl))
                  case hq224 => exact fun _ _ _ h => h
                  (simp only [Act.put, List.setIfInBounds_toArray, List.set_cons_zero, List.set_cons_succ])
                  refine wpAnyH_take (i := 36) (oi := ?o225) (v := ?v225) ?hi225 (by kernel_rfl) (by kernel_rfl) (by kernel_rfl) ?hq225 ?hy225 (by assumption) ?hr225
                  case hi225 => (simp only [List.getElem?_toArray, List.getElem?_cons_succ, List.getElem?_cons_zero]; rfl)
                  case hy225 => ((refine .inl ⟨by rfl, ?_⟩); intro w hS; go_simp; (try with_reducible rfl))
                  case hq225 => exact fun _ _ _ h => h
                  (simp only [Act.put, List.setIfInBounds_toArray, List.set_cons_zero, List.set_cons_succ])
                  refine wpAnyH_take (i := 37) (oi := ?o226) (v := ?v226) ?hi226 (by kernel_rfl) (by kernel_rfl) (by kernel_rfl) ?hq226 ?hy226 (by assumption) ?hr226
                  case hi226 => (simp only [List.getElem?_toArray, List.getElem?_cons_succ, List.getElem?_cons_zero]; rfl)
                  case hy226 => ((refine .inl ⟨by rfl, ?_⟩); intro w hS; go_simp; (try with_reducible rfl))
                  case hq226 => exact fun _ _ _ h => h
                  (simp only [Act.put, List.setIfInBounds_toArray, List.set_cons_zero, List.set_cons_succ])
                  refine wpAnyH_take (i := 38) (oi := ?o227) (v := ?v227) ?hi227 (by kernel_rfl) (by kernel_rfl) (by kernel_rfl) ?hq227 ?hy227 (by assumption) ?hr227
                  case hi227 => (simp only [List.getElem?_toArray, List.getElem?_cons_succ, List.getElem?_cons_zero]; rfl)
                  case hy227 => ((refine .inl ⟨by rfl, ?_⟩); intro w hS; go_simp; (try with_reducible rfl))
                  case hq227 => exact fun _ _ _ h => h
                  (simp only [Act.put, List.setIfInBounds_toArray, List.set_cons_zero, List.set_cons_succ])
                  refine wpAnyH_take (i := 39) (oi := ?o228) (v := ?v228) ?hi228 (by kernel_rfl) (by kernel_rfl) (by kernel_rfl) ?hq228 ?hy228 (by assumption) ?hr228
                  case hi228 => (simp only [List.getElem?_toArray, List.getElem?_cons_succ, List.getElem?_cons_zero]; rfl)
                  case hy228 => ((refine .inl ⟨by rfl, ?_⟩); intro w hS; go_simp; (try with_reducible rfl))
                  case hq228 => exact fun _ _ _ h => h
                  (simp only [Act.put, List.setIfInBounds_toArray, List.set_cons_zero, List.set_cons_succ])
                  refine wpAnyH_take (i := 40) (oi := ?o229) (v := ?v229) ?hi229 (by kernel_rfl) (by kernel_rfl) (by kernel_rfl) ?hq229 ?hy229 (by assumption) ?hr229
                  case hi229 => (simp only [List.getElem?_toArray, List.getElem?_cons_succ, List.getElem?_cons_zero]; rfl)
                  case hy229 => ((refine .inl ⟨by rfl, ?_⟩); intro w hS; go_simp; (try with_reducible rfl))
                  case hq229 => exact fun _ _ _ h => h
                  (simp only [Act.put, List.setIfInBounds_toArray, List.set_cons_zero, List.set_cons_succ])
                  refine wpAnyH_take (i := 41) (oi := ?o230) (v := ?v230) ?hi230 (by kernel_rfl) (by kernel_rfl) (by kernel_rfl) ?hq230 ?hy230 (by assumption) ?hr230
                  case hi230 => (simp only [List.getElem?_toArray, List.getElem?_cons_succ, List.getElem?_cons_zero]; rfl)
                  case hy230 => ((refine .inl ⟨by rfl, ?_⟩); intro w hS; have q := (Below.cell hS (p := ⟨b, off + i * 7 + 6, none⟩) hbw).trans p6; go_simp; (try with_reducible rfl))
                  case hq230 => exact fun _ _ _ h => h
                  (simp only [Act.put, List.setIfInBounds_toArray, List.set_cons_zero, List.set_cons_succ])
                  refine wpAnyH_ready (rs := [42]) (by kernel_rfl) (by simp) ?_
                  refine AllReadyH.cons rfl (fun K hK => ?_) AllReadyH.nil
                  go_simp
                  go_wp2_with ((go_at_call 28; refine (rzero_any _).mono ?_; rintro e w6 ⟨rfl, hb6⟩))
                  refine hK.out _ _ (belowC' hb6 hHeld) (fun hHeld => ?_)
                  clear hK K
                  (try simp only [Act.put, List.setIfInBounds_toArray, List.set_cons_zero, List.set_cons_succ])
                  refine wpAnyH_take (i := 43) (oi := ?o231) (v := ?v231) ?hi231 (by kernel_rfl) (by kernel_rfl) (by kernel_rfl) ?hq231 ?hy231 (by assumption) ?hr231
                  case hi231 => (simp only [List.getElem?_toArray, List.getElem?_cons_succ, List.getElem?_cons_zero]; rfl)
                  case hy231 => ((refine .inl ⟨by rfl, ?_⟩); intro w hS; go_simp; (try with_reducible rfl))
                  case hq231 => exact fun _ _ _ h => h
                  (simp only [Act.put, List.setIfInBounds_toArray, List.set_cons_zero, List.set_cons_succ])
                  refine wpAnyH_take (i := 44) (oi := ?o232) (v := ?v232) ?hi232 (by kernel_rfl) (by kernel_rfl) (by kernel_rfl) ?hq232 ?hy232 (by assumption) ?hr232
                  case hi232 => (simp only [List.getElem?_toArray, List.getElem?_cons_succ, List.getElem?_cons_zero]; rfl)
                  case hy232 => ((refine .inl ⟨by rfl, ?_⟩); intro w hS; go_simp; (try with_reducible rfl))
                  case hq232 => exact fun _ _ _ h => h
                  (simp only [Act.put, List.setIfInBounds_toArray, List.set_cons_zero, List.set_cons_succ])
                  refine wpAnyH_take (i := 45) (oi := ?o233) (v := ?v233) ?hi233 (by kernel_rfl) (by kernel_rfl) (by kernel_rfl) ?hq233 ?hy233 (by assumption) ?hr233
                  case hi233 => (simp only [List.getElem?_toArray, List.getElem?_cons_succ, List.getElem?_cons_zero]; rfl)
                  case hy233 => ((refine .inl ⟨by rfl, ?_⟩); intro w hS; go_simp; (try with_reducible rfl))
                  case hq233 => exact fun _ _ _ h => h
                  (simp only [Act.put, List.setIfInBounds_toArray, List.set_cons_zero, List.set_cons_succ])
                  refine wpAnyH_done (by kernel_rfl) ?_ _
                  go_wp2_with fail
                  go_meet
                  exact ⟨by rw [HPE.out]; first | rfl | simp, hHeld⟩
            · have hmb : (mode != 0) = true := by rw [bne_iff_ne]; exact hmode
              have hmf : pB = false := by rw [HPE.out, decide_eq_false hmode]; rfl
              have HMF := Lib.hid hmf
              clear hmf hmode
              refine wp_region_held_drew (S := (fun w' => Below wo.heap.size wo w')) (by kernel_rfl) ((Below.refl _ _).drew) (fun hHeld => ?_)
              refine wpAnyH_take (i := 0) (oi := ?o100) (v := ?v100) ?hi100 (by kernel_rfl) (by kernel_rfl) (by kernel_rfl) ?hq100 ?hy100 (by assumption) ?hr100
              case hi100 => (simp only [List.getElem?_toArray, List.getElem?_cons_zero]; rfl)
              case hy100 => ((refine .inl ⟨by rfl, ?_⟩); intro w hS; go_simp; (try with_reducible rfl))
              case hq100 => exact fun _ _ _ h => h
              (simp only [Act.put, List.setIfInBounds_toArray, List.set_cons_zero, List.set_cons_succ])
              refine wpAnyH_take (i := 1) (oi := ?o101) (v := ?v101) ?hi101 (by kernel_rfl) (by kernel_rfl) (by kernel_rfl) ?hq101 ?hy101 (by assumption) ?hr101
              case hi101 => (simp only [List.getElem?_toArray, List.getElem?_cons_succ, List.getElem?_cons_zero]; rfl)
              case hy101 => ((refine .inl ⟨by rfl, ?_⟩); intro w hS; go_simp; (try with_reducible rfl))
              case hq101 => exact fun _ _ _ h => h
              (simp only [Act.put, List.setIfInBounds_toArray, List.set_cons_zero, List.set_cons_succ])
              refine wpAnyH_take (i := 2) (oi := ?o102) (v := ?v102) ?hi102 (by kernel_rfl) (by kernel_rfl) (by kernel_rfl) ?hq102 ?hy102 (by assumption) ?hr102
              case hi102 => (simp only [List.getElem?_toArray, List.getElem?_cons_succ, List.getElem?_cons_zero]; rfl)
              case hy102 => ((refine .inl ⟨by rfl, ?_⟩); intro w hS; go_simp; (try with_reducible rfl))
              case hq102 => exact fun _ _ _ h => h
              (simp only [Act.put, List.setIfInBounds_toArray, List.set_cons_zero, List.set_cons_succ])
              refine wpAnyH_take (i := 3) (oi := ?o103) (v := ?v103) ?hi103 (by kernel_rfl) (by kernel_rfl) (by kernel_rfl) ?hq103 ?hy103 (by assumption) ?hr103
              case hi103 => (simp only [List.getElem?_toArray, List.getElem?_cons_succ, List.getElem?_cons_zero]; rfl)
              case hy103 => ((refine .inl ⟨by rfl, ?_⟩); intro w hS; have q0 := (Below.cell hS (p := ⟨b, off + i * 7, none⟩) hbw).trans p0; have q1 := (Below.cell hS (p := ⟨b, off + i * 7 + 1, none⟩) hbw).trans p1; have q2 := (Below.cell hS (p := ⟨b, off + i * 7 + 2, none⟩) hbw).trans p2; have q3 := (Below.cell hS (p := ⟨b, off + i * 7 + 3, none⟩) hbw).trans p3; have q4 := (Below.cell hS (p := ⟨b, off + i * 7 + 4, none⟩) hbw).trans p4; have q5 := (Below.cell hS (p := ⟨b, off + i * 7 + 5, none⟩) hbw).trans p5; have q6 := (Below.cell hS (p := ⟨b, off + i * 7 + 6, none⟩) hbw).trans p6; go_simp; (try with_reducible rfl))
              case hq103 => exact fun _ _ _ h => h
              (simp only [Act.put, List.setIfInBounds_toArray, List.set_cons_zero, List.set_cons_succ])
              refine wpAnyH_ready (rs := [4]) (by kernel_rfl) (by simp) ?_
              refine AllReadyH.cons rfl (fun K hK => ?_) AllReadyH.nil
              go_simp
              go_wp2_with ((go_at_call 39; refine (CV.out _).mono ?_; rintro e w5 ⟨rfl, hb5⟩))
              refine hK.out _ _ (belowC' hb5 hHeld) (fun hHeld => ?_)
              clear hK K
              (try simp only [Act.put, List.setIfInBounds_toArray, List.set_cons_zero, List.set_cons_succ])
              refine wpAnyH_take (i := 5) (oi := ?o104) (v := ?v104) ?hi104 (by kernel_rfl) (by kernel_rfl) (by kernel_rfl) ?hq104 ?hy104 (by assumption) ?hr104
              case hi104 => (simp only [List.getElem?_toArray, List.getElem?_cons_succ, List.getElem?_cons_zero]; rfl)
              case hy104 => ((refine .inl ⟨by rfl, ?_⟩); intro w hS; go_simp; (try with_reducible rfl))
              case hq104 => exact fun _ _ _ h => h
              (simp only [Act.put, List.setIfInBounds_toArray, List.set_cons_zero, List.set_cons_succ])
              refine wpAnyH_take (i := 6) (oi := ?o105) (v := ?v105) ?hi105 (by kernel_rfl) (by kernel_rfl) (by kernel_rfl) ?hq105 ?hy105 (by assumption) ?hr105
              case hi105 => (simp only [List.getElem?_toArray, List.getElem?_cons_succ, List.getElem?_cons_zero]; rfl)
              case hy105 => ((refine .inl ⟨by rfl, ?_⟩); intro w hS; go_simp; (try with_reducible rfl))
              case hq105 => exact fun _ _ _ h => h
              (simp only [Act.put, List.setIfInBounds_toArray, List.set_cons_zero, List.set_cons_succ])
              refine wpAnyH_take (i := 7) (oi := ?o106) (v := ?v106) ?hi106 (by kernel_rfl) (by kernel_rfl) (by kernel_rfl) ?hq106 ?hy106 (by assumption) ?hr106
              case hi106 => (simp only [List.getElem?_toArray, List.getElem?_cons_succ, List.getElem?_cons_zero]; rfl)
              case hy106 => ((refine .inl ⟨by rfl, ?_⟩); intro w hS; go_simp; (try with_reducible rfl))
              case hq106 => exact fun _ _ _ h => h
              (simp only [Act.put, List.setIfInBounds_toArray, List.set_cons_zero, List.set_cons_succ])
              refine wpAnyH_take (i := 8) (oi := ?o107) (v := ?v107) ?hi107 (by kernel_rfl) (by kernel_rfl) (by kernel_rfl) ?hq107 ?hy107 (by assumption) ?hr107
              case hi107 => (simp only [List.getElem?_toArray, List.getElem?_cons_succ, List.getElem?_cons_zero]; rfl)
              case hy107 => ((refine .inl ⟨by rfl, ?_⟩); intro w hS; go_simp; (try with_reducible rfl))
              case hq107 => exact fun _ _ _ h => h
              (simp only [Act.put, List.setIfInBounds_toArray, List.set_cons_zero, List.set_cons_succ])
              refine wpAnyH_take (i := 9) (oi := ?o108) (v := ?v108) ?hi108 (by kernel_rfl) (by kernel_rfl) (by kernel_rfl) ?hq108 ?hy108 (by assumption) ?hr108
              case hi108 => (simp only [List.getElem?_toArray, List.getElem?_cons_succ, List.getElem?_cons_zero]; rfl)
              case hy108 => ((refine .inl ⟨by rfl, ?_⟩); intro w hS; go_simp; (try with_reducible rfl))
              case hq108 => exact fun _ _ _ h => h
              (simp only [Act.put, List.setIfInBounds_toArray, List.set_cons_zero, List.set_cons_succ])
              refine wpAnyH_take (i := 10) (oi := ?o109) (v := ?v109) ?hi109 (by kernel_rfl) (by kernel_rfl) (by kernel_rfl) ?hq109 ?hy109 (by assumption) ?hr109
              case hi109 => (simp only [List.getElem?_toArray, List.getElem?_cons_succ, List.getElem?_cons_zero]; rfl)
              case hy109 => ((refine .inl ⟨by rfl, ?_⟩); intro w hS; go_simp; (try with_reducible rfl))
              case hq109 => exact fun _ _ _ h => h
              (simp only [Act.put, List.setIfInBounds_toArray, List.set_cons_zero, List.set_cons_succ])
              refine wpAnyH_take (i := 11) (oi := ?o110) (v := ?v110) ?hi110 (by kernel_rfl) (by kernel_rfl) (by kernel_rfl) ?hq110 ?hy110 (by assumption) ?hr110
              case hi110 => (simp only [List.getElem?_toArray, List.getElem?_cons_succ, List.getElem?_cons_zero]; rfl)
              case hy110 => ((refine .inl ⟨by rfl, ?_⟩); intro w hS; have q := (Below.cell hS (p := ⟨b, off + i * 7 + 1, none⟩) hbw).trans p1; go_simp; (try with_reducible rfl))
              case hq110 => exact fun _ _ _ h => h
              (simp only [Act.put, List.setIfInBounds_toArray, List.set_cons_zero, List.set_cons_succ])
              refine wpAnyH_take (i := 12) (oi := ?o111) (v := ?v111) ?hi111 (by kernel_rfl) (by kernel_rfl) (by kernel_rfl) ?hq111 ?hy111 (by assumption) ?hr111
              case hi111 => (simp only [List.getElem?_toArray, List.getElem?_cons_succ, List.getElem?_cons_zero]; rfl)
              case hy111 => ((refine .inl ⟨by rfl, ?_⟩); intro w hS; go_simp; (try with_reducible rfl))
              case hq111 => exact fun _ _ _ h => h
              (simp only [Act.put, List.setIfInBounds_toArray, List.set_cons_zero, List.set_cons_succ])
              refine wpAnyH_take (i := 13) (oi := ?o112) (v := ?v112) ?hi112 (by kernel_rfl) (by kernel_rfl) (by kernel_rfl) ?hq112 ?hy112 (by assumption) ?hr112
              case hi112 => (simp only [List.getElem?_toArray, List.getElem?_cons_succ, List.getElem?_cons_zero]; rfl)
              case hy112 => ((refine .inl ⟨by rfl, ?_⟩); intro w hS; go_simp; (try with_reducible rfl))
              case hq112 => exact fun _ _ _ h => h
              (simp only [Act.put, List.setIfInBounds_toArray, List.set_cons_zero, List.set_cons_succ])
              refine wpAnyH_take (i := 14) (oi := ?o113) (v := ?v113) ?hi113 (by kernel_rfl) (by kernel_rfl) (by kernel_rfl) ?hq113 ?hy113 (by assumption) ?hr113
              case hi113 => (simp only [List.getElem?_toArray, List.getElem?_cons_succ, List.getElem?_cons_zero]; rfl)
              case hy113 => ((refine .inl ⟨by rfl, ?_⟩); intro w hS; go_simp; (try with_reducible rfl))
              case hq113 => exact fun _ _ _ h => h
              (simp only [Act.put, List.setIfInBounds_toArray, List.set_cons_zero, List.set_cons_succ])
              refine wpAnyH_take (i := 15) (oi := ?o114) (v := undef) ?hi114 (by kernel_rfl) (by kernel_rfl) (by kernel_rfl) ?hq114 ?hy114 (by assumption) ?hr114
              case hi114 => (simp only [List.getElem?_toArray, List.getElem?_cons_succ, List.getElem?_cons_zero]; rfl)
              case hy114 => exact .inr ⟨by rfl, rfl⟩
              case hq114 => exact fun _ _ _ h => h
              (simp only [Act.put, List.setIfInBounds_toArray, List.set_cons_zero, List.set_cons_succ])
              refine wpAnyH_take (i := 16) (oi := ?o115) (v := undef) ?hi115 (by kernel_rfl) (by kernel_rfl) (by kernel_rfl) ?hq115 ?hy115 (by assumption) ?hr115
              case hi115 => (simp only [List.getElem?_toArray, List.getElem?_cons_succ, List.getElem?_cons_zero]; rfl)
              case hy115 => exact .inr ⟨by rfl, rfl⟩
              case hq115 => exact fun _ _ _ h => h
              (simp only [Act.put, List.setIfInBounds_toArray, List.set_cons_zero, List.set_cons_succ])
              refine wpAnyH_take (i := 17) (oi := ?o116) (v := undef) ?hi116 (by kernel_rfl) (by kernel_rfl) (by kernel_rfl) ?hq116 ?hy116 (by assumption) ?hr116
              case hi116 => (simp only [List.getElem?_toArray, List.getElem?_cons_succ, List.getElem?_cons_zero]; rfl)
              case hy116 => exact .inr ⟨by rfl, rfl⟩
              case hq116 => exact fun _ _ _ h => h
              (simp only [Act.put, List.setIfInBounds_toArray, List.set_cons_zero, List.set_cons_succ])
              refine wpAnyH_take (i := 18) (oi := ?o117) (v := undef) ?hi117 (by kernel_rfl) (by kernel_rfl) (by kernel_rfl) ?hq117 ?hy117 (by assumption) ?hr117
              case hi117 => (simp only [List.getElem?_toArray, List.getElem?_cons_succ, List.getElem?_cons_zero]; rfl)
              case hy117 => exact .inr ⟨by rfl, rfl⟩
              case hq117 => exact fun _ _ _ h => h
              (simp only [Act.put, List.setIfInBounds_toArray, List.set_cons_zero, List.set_cons_succ])
              refine wpAnyH_take (i := 19) (oi := ?o118) (v := undef) ?hi118 (by kernel_rfl) (by kernel_rfl) (by kernel_rfl) ?hq118 ?hy118 (by assumption) ?hr118
              case hi118 => (simp only [List.getElem?_toArray, List.getElem?_cons_succ, List.getElem?_cons_zero]; rfl)
              case hy118 => exact .inr ⟨by rfl, rfl⟩
              case hq118 => exact fun _ _ _ h => h
              (simp only [Act.put, List.setIfInBounds_toArray, List.set_cons_zero, List.set_cons_succ])
              refine wpAnyH_take (i := 20) (oi := ?o119) (v := undef) ?hi119 (by kernel_rfl) (by kernel_rfl) (by kernel_rfl) ?hq119 ?hy119 (by assumption) ?hr119
              case hi119 => (simp only [List.getElem?_toArray, List.getElem?_cons_succ, List.getElem?_cons_zero]; rfl)
              case hy119 => exact .inr ⟨by rfl, rfl⟩
              case hq119 => exact fun _ _ _ h => h
              (simp only [Act.put, List.setIfInBounds_toArray, List.set_cons_zero, List.set_cons_succ])
              refine wpAnyH_take (i := 21) (oi := ?o120) (v := undef) ?hi120 (by kernel_rfl) (by kernel_rfl) (by kernel_rfl) ?hq120 ?hy120 (by assumption) ?hr120
              case hi120 => (simp only [List.getElem?_toArray, List.getElem?_cons_succ, List.getElem?_cons_zero]; rfl)
              case hy120 => exact .inr ⟨by rfl, rfl⟩
              case hq120 => exact fun _ _ _ h => h
              (simp only [Act.put, List.setIfInBounds_toArray, List.set_cons_zero, List.set_cons_succ])
              refine wpAnyH_take (i := 22) (oi := ?o121) (v := undef) ?hi121 (by kernel_rfl) (by kernel_rfl) (by kernel_rfl) ?hq121 ?hy121 (by assumption) ?hr121
              case hi121 => (simp only [List.getElem?_toArray, List.getElem?_cons_succ, List.getElem?_cons_zero]; rfl)
              case hy121 => exact .inr ⟨by rfl, rfl⟩
              case hq121 => exact fun _ _ _ h => h
              (simp only [Act.put, List.setIfInBounds_toArray, List.set_cons_zero, List.set_cons_succ])
              refine wpAnyH_take (i := 23) (oi := ?o122) (v := undef) ?hi122 (by kernel_rfl) (by kernel_rfl) (by kernel_rfl) ?hq122 ?hy122 (by assumption) ?hr122
              case hi122 => (simp only [List.getElem?_toArray, List.getElem?_cons_succ, List.getElem?_cons_zero]; rfl)
              case hy122 => exact .inr ⟨by rfl, rfl⟩
              case hq122 => exact fun _ _ _ h => h
              (simp only [Act.put, List.setIfInBounds_toArray, List.set_cons_zero, List.set_cons_succ])
              refine wpAnyH_take (i := 24) (oi := ?o123) (v := undef) ?hi123 (by kernel_rfl) (by kernel_rfl) (by kernel_rfl) ?hq123 ?hy123 (by assumption) ?hr123
              case hi123 => (simp only [List.getElem?_toArray, List.getElem?_cons_succ, List.getElem?_cons_zero]; rfl)
              case hy123 => exact .inr ⟨by rfl, rfl⟩
              case hq123 => exact fun _ _ _ h => h
              (simp only [Act.put, List.setIfInBounds_toArray, List.set_cons_zero, List.set_cons_succ])
              refine wpAnyH_take (i := 25) (oi := ?o124) (v := undef) ?hi124 (by kernel_rfl) (by kernel_rfl) (by kernel_rfl) ?hq124 ?hy124 (by assumption) ?hr124
              case hi124 => (simp only [List.getElem?_toArray, List.getElem?_cons_succ, List.getElem?_cons_zero]; rfl)
              case hy124 => exact .inr ⟨by rfl, rfl⟩
              case hq124 => exact fun _ _ _ h => h
              (simp only [Act.put, List.setIfInBounds_toArray, List.set_cons_zero, List.set_cons_succ])
              refine wpAnyH_take (i := 26) (oi := ?o125) (v := undef) ?hi125 (by kernel_rfl) (by kernel_rfl) (by kernel_rfl) ?hq125 ?hy125 (by assumption) ?hr125
              case hi125 => (simp only [List.getElem?_toArray, List.getElem?_cons_succ, List.getElem?_cons_zero]; rfl)
              case hy125 => exact .inr ⟨by rfl, rfl⟩
              case hq125 => exact fun _ _ _ h => h
              (simp only [Act.put, List.setIfInBounds_toArray, List.set_cons_zero, List.set_cons_succ])
              refine wpAnyH_take (i := 27) (oi := ?o126) (v := undef) ?hi126 (by kernel_rfl) (by kernel_rfl) (by kernel_rfl) ?hq126 ?hy126 (by assumption) ?hr126
              case hi126 => (simp only [List.getElem?_toArray, List.getElem?_cons_succ, List.getElem?_cons_zero]; rfl)
              case hy126 => exact .inr ⟨by rfl, rfl⟩
              case hq126 => exact fun _ _ _ h => h
              (simp only [Act.put, List.setIfInBounds_toArray, List.set_cons_zero, List.set_cons_succ])
              refine wpAnyH_take (i := 28) (oi := ?o127) (v := undef) ?hi127 (by kernel_rfl) (by kernel_rfl) (by kernel_rfl) ?hq127 ?hy127 (by assumption) ?hr127
              case hi127 => (simp only [List.getElem?_toArray, List.getElem?_cons_succ, List.getElem?_cons_zero]; rfl)
              case hy127 => exact .inr ⟨by rfl, rfl⟩
              case hq127 => exact fun _ _ _ h => h
              (simp only [Act.put, List.setIfInBounds_toArray, List.set_cons_zero, List.set_cons_succ])
              refine wpAnyH_take (i := 29) (oi := ?o128) (v := undef) ?hi128 (by kernel_rfl) (by kernel_rfl) (by kernel_rfl) ?hq128 ?hy128 (by assumption) ?hr128
              case hi128 => (simp only [List.getElem?_toArray, List.getElem?_cons_succ, List.getElem?_cons_zero]; rfl)
              case hy128 => exact .inr ⟨by rfl, rfl⟩
              case hq128 => exact fun _ _ _ h => h
              (simp only [Act.put, List.setIfInBounds_toArray, List.set_cons_zero, List.set_cons_succ])
              refine wpAnyH_take (i := 30) (oi := ?o129) (v := undef) ?hi129 (by kernel_rfl) (by kernel_rfl) (by kernel_rfl) ?hq129 ?hy129 (by assumption) ?hr129
              case hi129 => (simp only [List.getElem?_toArray, List.getElem?_cons_succ, List.getElem?_cons_zero]; rfl)
              case hy129 => exact .inr ⟨by rfl, rfl⟩
              case hq129 => exact fun _ _ _ h => h
              (simp only [Act.put, List.setIfInBounds_toArray, List.set_cons_zero, List.set_cons_succ])
              refine wpAnyH_take (i := 31) (oi := ?o130) (v := undef) ?hi130 (by kernel_rfl) (by kernel_rfl) (by kernel_rfl) ?hq130 ?hy130 (by assumption) ?hr130
              case hi130 => (simp only [List.getElem?_toArray, List.getElem?_cons_succ, List.getElem?_cons_zero]; rfl)
              case hy130 => exact .inr ⟨by rfl, rfl⟩
              case hq130 => exact fun _ _ _ h => h
              (simp only [Act.put, List.setIfInBounds_toArray, List.set_cons_zero, List.set_cons_succ])
              refine wpAnyH_take (i := 32) (oi := ?o131) (v := ?v131) ?hi131 (by kernel_rfl) (by kernel_rfl) (by kernel_rfl) ?hq131 ?hy131 (by assumption) ?hr131
              case hi131 => (simp only [List.getElem?_toArray, List.getElem?_cons_succ, List.getElem?_cons_zero]; rfl)
              case hy131 => ((refine .inl ⟨by rfl, ?_⟩); intro w hS; go_simp; (try with_reducible rfl))
              case hq131 => exact fun _ _ _ h => h
              (simp only [Act.put, List.setIfInBounds_toArray, List.set_cons_zero, List.set_cons_succ])
              refine wpAnyH_take (i := 33) (oi := ?o132) (v := ?v132) ?hi132 (by kernel_rfl) (by kernel_rfl) (by kernel_rfl) ?hq132 ?hy132 (by assumption) ?hr132
              case hi132 => (simp only [List.getElem?_toArray, List.getElem?_cons_succ, List.getElem?_cons_zero]; rfl)
              case hy132 => ((refine .inl ⟨by rfl, ?_⟩); intro w hS; go_simp; (try with_reducible rfl))
              case hq132 => exact fun _ _ _ h => h
              (simp only [Act.put, List.setIfInBounds_toArray, List.set_cons_zero, List.set_cons_succ])
              refine wpAnyH_take (i := 34) (oi := ?o133) (v := undef) ?hi133 (by kernel_rfl) (by kernel_rfl) (by kernel_rfl) ?hq133 ?hy133 (by assumption) ?hr133
              case hi133 => (simp only [List.getElem?_toArray, List.getElem?_cons_succ, List.getElem?_cons_zero]; rfl)
              case hy133 => exact .inr ⟨by rfl, rfl⟩
              case hq133 => exact fun _ _ _ h => h
              (simp only [Act.put, List.setIfInBounds_toArray, List.set_cons_zero, List.set_cons_succ])
              refine wpAnyH_take (i := 35) (oi := ?o134) (v := undef) ?hi134 (by kernel_rfl) (by kernel_rfl) (by kernel_rfl) ?hq134 ?hy134 (by assumption) ?hr134
              case hi134 => (simp only [List.getElem?_toArray, List.getElem?_cons_succ, List.getElem?_cons_zero]; rfl)
              case hy134 => exact .inr ⟨by rfl, rfl⟩
              case hq134 => exact fun _ _ _ h => h
              (simp only [Act.put, List.setIfInBounds_toArray, List.set_cons_zero, List.set_cons_succ])
              refine wpAnyH_take (i := 36) (oi := ?o135) (v := undef) ?hi135 (by kernel_rfl) (by kernel_rfl) (by kernel_rfl) ?hq135 ?hy135 (by assumption) ?hr135
              case hi135 => (simp only [List.getElem?_toArray, List.getElem?_cons_succ, List.getElem?_cons_zero]; rfl)
              case hy135 => exact .inr ⟨by rfl, rfl⟩
              case hq135 => exact fun _ _ _ h => h
              (simp only [Act.put, List.setIfInBounds_toArray, List.set_cons_zero, List.set_cons_succ])
              refine wpAnyH_take (i := 37) (oi := ?o136) (v := undef) ?hi136 (by kernel_rfl) (by kernel_rfl) (by kernel_rfl) ?hq136 ?hy136 (by assumption) ?hr136
              case hi136 => (simp only [List.getElem?_toArray, List.getElem?_cons_succ, List.getElem?_cons_zero]; rfl)
              case hy136 => exact .inr ⟨by rfl, rfl⟩
              case hq136 => exact fun _ _ _ h => h
              (simp only [Act.put, List.setIfInBounds_toArray, List.set_cons_zero, List.set_cons_succ])
              refine wpAnyH_take (i := 38) (oi := ?o137) (v := undef) ?hi137 (by kernel_rfl) (by kernel_rfl) (by kernel_rfl) ?hq137 ?hy137 (by assumption) ?hr137
              case hi137 => (simp only [List.getElem?_toArray, List.getElem?_cons_succ, List.getElem?_cons_zero]; rfl)
              case hy137 => exact .inr ⟨by rfl, rfl⟩
              case hq137 => exact fun _ _ _ h => h
              (simp only [Act.put, List.setIfInBounds_toArray, List.set_cons_zero, List.set_cons_succ])
              refine wpAnyH_take (i := 39) (oi := ?o138) (v := undef) ?hi138 (by kernel_rfl) (by kernel_rfl) (by kernel_rfl) ?hq138 ?hy138 (by assumption) ?hr138
              case hi138 => (simp only [List.getElem?_toArray, List.getElem?_cons_succ, List.getElem?_cons_zero]; rfl)
              case hy138 => exact .inr ⟨by rfl, rfl⟩
              case hq138 => exact fun _ _ _ h => h
              (simp only [Act.put, List.setIfInBounds_toArray, List.set_cons_zero, List.set_cons_succ])
              refine wpAnyH_take (i := 40) (oi := ?o139) (v := undef) ?hi139 (by kernel_rfl) (by kernel_rfl) (by kernel_rfl) ?hq139 ?hy139 (by assumption) ?hr139
              case hi139 => (simp only [List.getElem?_toArray, List.getElem?_cons_succ, List.getElem?_cons_zero]; rfl)
              case hy139 => exact .inr ⟨by rfl, rfl⟩
              case hq139 => exact fun _ _ _ h => h
              (simp only [Act.put, List.setIfInBounds_toArray, List.set_cons_zero, List.set_cons_succ])
              refine wpAnyH_take (i := 41) (oi := ?o140) (v := undef) ?hi140 (by kernel_rfl) (by kernel_rfl) (by kernel_rfl) ?hq140 ?hy140 (by assumption) ?hr140
              case hi140 => (simp only [List.getElem?_toArray, List.getElem?_cons_succ, List.getElem?_cons_zero]; rfl)
              case hy140 => exact .inr ⟨by rfl, rfl⟩
              case hq140 => exact fun _ _ _ h => h
              (simp only [Act.put, List.setIfInBounds_toArray, List.set_cons_zero, List.set_cons_succ])
              refine wpAnyH_take (i := 42) (oi := ?o141) (v := undef) ?hi141 (by kernel_rfl) (by kernel_rfl) (by kernel_rfl) ?hq141 ?hy141 (by assumption) ?hr141
              case hi141 => (simp only [List.getElem?_toArray, List.getElem?_cons_succ, List.getElem?_cons_zero]; rfl)
              case hy141 => exact .inr ⟨by rfl, rfl⟩
              case hq141 => exact fun _ _ _ h => h
              (simp only [Act.put, List.setIfInBounds_toArray, List.set_cons_zero, List.set_cons_succ])
              refine wpAnyH_take (i := 43) (oi := ?o142) (v := undef) ?hi142 (by kernel_rfl) (by kernel_rfl) (by kernel_rfl) ?hq142 ?hy142 (by assumption) ?hr142
              case hi142 => (simp only [List.getElem?_toArray, List.getElem?_cons_succ, List.getElem?_cons_zero]; rfl)
              case hy142 => exact .inr ⟨by rfl, rfl⟩
              case hq142 => exact fun _ _ _ h => h
              (simp only [Act.put, List.setIfInBounds_toArray, List.set_cons_zero, List.set_cons_succ])
              refine wpAnyH_take (i := 44) (oi := ?o143) (v := undef) ?hi143 (by kernel_rfl) (by kernel_rfl) (by kernel_rfl) ?hq143 ?hy143 (by assumption) ?hr143
              case hi143 => (simp only [List.getElem?_toArray, List.getElem?_cons_succ, List.getElem?_cons_zero]; rfl)
              case hy143 => exact .inr ⟨by rfl, rfl⟩
              case hq143 => exact fun _ _ _ h => h
              (simp only [Act.put, List.setIfInBounds_toArray, List.set_cons_zero, List.set_cons_succ])
              refine wpAnyH_take (i := 45) (oi := ?o144) (v := ?v144) ?hi144 (by kernel_rfl) (by kernel_rfl) (by kernel_rfl) ?hq144 ?hy144 (by assumption) ?hr144
              case hi144 => (simp only [List.getElem?_toArray, List.getElem?_cons_succ, List.getElem?_cons_zero]; rfl)
              case hy144 => ((refine .inl ⟨by rfl, ?_⟩); intro w hS; go_simp; (try with_reducible rfl))
              case hq144 => exact fun _ _ _ h => h
              (simp only [Act.put, List.setIfInBounds_toArray, List.set_cons_zero, List.set_cons_succ])
              refine wpAnyH_done (by kernel_rfl) ?_ _
              go_wp2_with fail
              go_meet
              exact ⟨by rw [HMF.out]; rfl, hHeld⟩
        case rest =>
          obtain ⟨rfl, h2⟩ := hcut
          have HB2 := Lib.hid h2
          have q6 := (h2.cell (p := ⟨b, off + i * 7 + 6, none⟩) hbw).trans p6
          clear h2 p0 p1 p2 p3 p4 p5 p6
          cases pB with
          | false =>
            have HE := Lib.hid (colE_bad (l := l) HSZ.out (by rw [HL.out]; exact hlt) HPB.out)
            go_wp2_with fail
            go_ret2
            exact ColR.no HE.out (by decide) rfl (belowC' HB2.out hbel)
          | true =>
            have hown3 := own_all HOWN.out HB2.out
            have hbel3 := belowC' HB2.out hbel
            cases uB with
            | true =>
              have HCU := Lib.hid (colUp_user HX.out HU.out)
              have hbw3 : b < wc.heap.size := Nat.lt_of_lt_of_le hb hbel3.size
              go_wp2_with (at_builtin; refine wpList_app1 hown3 info_str Try.underlying37 rfl (by unfold maxLen; omega) (by omega) hbel3.size rfl rfl rfl (by rfl) (by rfl) ?_; intro v4 w4 hown4 hb4 hg4; obtain ⟨g4, cap4, hv4, hx1, hx2, hx3⟩ := own_form hown4 (Nat.succ_pos _); subst hv4)
              go_roundw
              case rel =>
                refine ⟨i + 1, m + 1, cap4, some ⟨g4, 0, none⟩, by omega, by go_num, rfl, by omega, ?_, hbel3.trans hb4, fun j hj => ?_⟩
                · rw [HCU.out, List.map_append]; exact hown4
                · by_cases hji : j = i
                  · rw [hji]; exact HPB.out
                  · exact HP.out j (by omega)
              case measure => simp [intOf]; omega
            | false =>
              have HCU := Lib.hid (colUp_skip (l := l) HU.out)
              have HOWN3 := Lib.hid hown3
              clear hown3
              go_wp2_with fail
              go_roundw
              case rel =>
                refine ⟨i + 1, m, c1, A1, by omega, by go_num, rfl, by omega, ?_, hbel3, fun j hj => ?_⟩
                · rw [HCU.out]; exact HOWN3.out
                · by_cases hji : j = i
                  · rw [hji]; exact HPB.out
                  · exact HP.out j (by omega)
              case measure => simp [intOf]; omega
    · obtain rfl : i = len := by omega
      have hge : ¬ (i : Int) < (i : Int) := by omega
      have HE := Lib.hid (colE_ok (l := l) HSZ.out HM.out (fun j hj => HP.out j (by rw [← HL.out]; exact hj)))
      have hml : (colUp N l l.length).length = m := by
        have := hown.1
        rw [HL.out]
        simpa using this
      have HML := Lib.hid hml
      have HOWN := Lib.hid hown
      clear hml hown
      go_wp2_with fail
      go_ret2
      exact ColR.yes HE.out HML.out.symm rfl hbel (by rw [HL.out]; exact SlAt.of_own' HOWN.out (Nat.le_refl _))

theorem rcol_any (n : Int) (A : Option Addr) (c : Nat) (l : List Sec) (w : World) (hs : SlAt w w.heap.size A (flat encS l)) (hl : l.length ≤ 400000) (hb : SecsIn l) :
    Calls Try.prog 24 #[.int .i64 n, .slice A l.length c] w (ColR n l w) := by
  cases h : sizedB n with
  | false => exact rcol_size n A c l w h
  | true =>
    obtain ⟨N, rfl, h1, h2⟩ := sized_nat h
    by_cases hm : l.length % (N + 7) = 0
    · exact rcol_go N A c l w h1 h2 hs hl hb hm
    · exact rcol_len N A c l w h1 h2 (by omega) hm
theorem col_any (n : Int) (A : Option Addr) (c : Nat) (l : List Sec) (w : World) (hs : SlAt w w.heap.size A (flat encS l)) (hl : l.length ≤ 400000) (hb : SecsIn l) :
    Calls Try.prog 23 #[.int .i64 n, .slice A l.length c] w (ColR n l w) := by
  cases h : sizedB n with
  | false => exact col_size n A c l w h
  | true =>
    obtain ⟨N, rfl, h1, h2⟩ := sized_nat h
    by_cases hm : l.length % (N + 7) = 0
    · exact col_go N A c l w h1 h2 hs hl hb hm
    · exact col_len N A c l w h1 h2 (by omega) hm
end Go.Proofs.Yticmopgpfplbnaa
