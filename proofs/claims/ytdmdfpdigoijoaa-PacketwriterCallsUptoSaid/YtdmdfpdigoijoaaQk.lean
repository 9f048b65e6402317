import Derived.Test.YtdmdfpdigoijoaaQh
import Derived.Deep.Cut
import Derived.Deep.CutRange
import Derived.Deep.CutBlock
import Derived.Test.YtdmdfpdigoijoaaRows
import Derived.Test.YtdmdfpdigoijoaaOpenL
/-
  Chapter 52: the walk of the law PacketwriterCalls.
-/
namespace Go.Proofs.Ytdmdfpdigoijoaa
open Go.RowKit
set_option linter.unusedVariables false

theorem row_ne {w : World} {g g' : Nat} {t t' : TypeId} {cs cs' : Array Value} (h : RowAt w g t cs) (h' : RowAt w g' t' cs') (hn : t ≠ t') : g ≠ g' := by
  intro e
  subst e
  have := h.symm.trans h'
  injection this with this
  injection this with _ h2
  exact hn h2
set_option maxRecDepth 100000 in
set_option maxHeartbeats 8000000 in
theorem calls_walk (s x lb : Int) (A : Option Addr) (c : Nat) (acs : List Ac) (w : World) (hs : -9223372036854775808 ≤ s ∧ s ≤ 9223372036854775807) (hx : -9223372036854775808 ≤ x ∧ x ≤ 9223372036854775807) (hlb : -9223372036854775808 ≤ lb ∧ lb ≤ 9223372036854775807)
    (h : AcAt w w.heap.size A acs) (hlen : acs.length ≤ 9223372036854775807) (hj : ∀ a ∈ acs, (joinB a.bl).size ≤ 1000000000) :
    Calls Try.prog 10 #[.int .i64 s, .int .i64 x, .slice A acs.length c, .int .i64 lb] w fun e w' => e = .returned (.bool true) ∧ Below w.heap.size w w' := by
  have HA := Lib.hid h
  have FW := Lib.hid (fun w' (hb : Below w.heap.size w w') => fewacts_any A c acs w' ((h.below hb).mono hb.size) hlen)
  have HJ := Lib.hid hj
  obtain ⟨few, hfew⟩ : ∃ b, fewA acs = b := ⟨_, rfl⟩
  rw [hfew] at FW
  obtain ⟨n, hn⟩ : ∃ n, acs.length = n := ⟨_, rfl⟩
  have HN := Lib.hid hn
  rw [hn] at FW hlen ⊢
  have HFEW := Lib.hid hfew
  clear h hn hj hfew
  have HUP := Lib.hid (fun w' => usable_all s lb w' hs hlb)
  have HUR := Lib.hid (fun w' => rusable_any s lb w' hs hlb)
  have HNR := Lib.hid (fun w' => rnew_any s x w' hs hx)
  generalize usB s lb = us at *
  cases few with
  | false =>
    go_enter Try.func10, Try.ntmps10
    go_wp2_with fail
    refine (awake_any _).mono ?_
    rintro e w1 ⟨rfl, hb1⟩
    go_wp2_with fail
    refine (FW.out _ hb1).mono ?_
    rintro e w2 ⟨rfl, rfl⟩
    go_wp2_with fail
    go_ret
    exact ⟨rfl, hb1⟩
  | true =>
    have hn20 : n ≤ 20 := by rw [← HN.out]; exact (fewA_iff HFEW.out).2
    by_cases hE : newE s x = 0
    · have HWK0 := Lib.hid (Wok.new hE)
      have HPN := Lib.hid (fun w' => new_ok s x w' hE)
      obtain ⟨ba0, hba0⟩ : ∃ ba0, baseOf s x = ba0 := ⟨_, rfl⟩
      have HNR1 : Hid (∀ w', Calls Try.prog 43 #[.int .i64 s, .int .i64 x] w' fun e w'' => e = .returned (.tuple #[.agg #[.int .i64 s, .int .i64 ba0, .slice none 0 0], .int .i64 0]) ∧ Below w'.heap.size w' w'') := Lib.hid (fun w' => (HNR.out w').mono (by
        rintro e w'' ⟨hb, (⟨h1, _⟩ | ⟨_, rfl⟩)⟩
        · exact absurd hE h1
        · exact ⟨by rw [hba0]; rfl, hb⟩))
      rw [hba0] at HWK0 HPN
      clear hba0 hE HNR
      go_enter Try.func10, Try.ntmps10
      go_wp2_with fail
      refine (awake_any _).mono ?_
      rintro e w1 ⟨rfl, hb1⟩
      go_wp2_with fail
      refine (FW.out _ hb1).mono ?_
      rintro e w1 ⟨rfl, rfl⟩
      go_wp2_with fail
      refine (HPN.out _).mono ?_
      rintro e w2 ⟨rfl, hw2⟩
      obtain ⟨g, hg⟩ : ∃ g, w1.heap.size = g := ⟨_, rfl⟩
      have HROW : Hid (RowAt w2 g 109 #[.int .i64 s, .int .i64 ba0, .slice none 0 0]) := Lib.hid (by rw [hw2, ← hg]; exact RowAt.new _ _ _)
      have HB2 : Hid (Below w.heap.size w w2) := Lib.hid (by rw [hw2]; exact hb1.alloc hb1.size _)
      have hg0 : w.heap.size ≤ g := by rw [← hg]; exact hb1.size
      rw [hg]
      clear hw2 hg hb1 HPN FW
      go_upto_region 6 with fail
      go_cut [11, 12] from 36 to 41 (fun p f wx => f = .int .i64 0 ∧ ∃ gr, p = .pointer (some ⟨gr, 0, none⟩) ∧ CS w g gr s ba0 ba0 [] [] none 0 wx)
      case first =>
        go_wp2_with fail
        refine (HNR1.out _).mono ?_
        rintro e w3 ⟨rfl, hb3⟩
        have HB3 := Lib.hid hb3
        clear hb3
        go_wp2_with fail
        go_meet
        have hr3 := HROW.out.below HB3.out HROW.out.lt
        refine ⟨rfl, w3.heap.size, rfl, ?_, hg0, Nat.le_trans HB2.out.size HB3.out.size, ⟨none, 0, ?_, World.ownsRow_nil _ _ _ _⟩, ?_, World.ownsRow_nil _ _ _ _⟩
        · exact (HB2.out.trans (HB3.out.mono HB2.out.size)).alloc (Nat.le_trans HB2.out.size HB3.out.size) _
        · exact hr3.alloc _
        · exact RowAt.new _ _ _
      case rest =>
        obtain ⟨rfl, gr, rfl, hcs⟩ := hcut
        have HCS := Lib.hid hcs
        clear hcs HROW HB2
        go_wp2_with fail
        refine (HUP.out _).mono ?_
        rintro e w4 ⟨rfl, rfl⟩
        go_wp2_with fail
        refine (HUR.out _).mono ?_
        rintro e w4 ⟨rfl, rfl⟩
        go_wp2_with fail
        go_loopw [65] (fun i wr => ∃ (k : Nat) (ba : Int) (l : List Pend) (Al : Option Addr) (cl : Nat), k ≤ n ∧ i = .int .i64 k ∧ CS w g gr s ba ba l l Al cl wr ∧ Wok s ba l) (fun i _ => n - (intOf i).toNat)
        case atStart => exact ⟨0, ba0, [], none, 0, by omega, rfl, HCS.out, HWK0.out⟩
        case round =>
          clear HCS HWK0 HNR1
          obtain ⟨k, ba, l, Al, cl, hk, rfl, hcs, hwk⟩ := hrel
          have HCS := Lib.hid hcs
          have HWK := Lib.hid hwk
          clear hcs hwk
          by_cases hlt : k < n
          · obtain ⟨a, ha⟩ : ∃ a, acs[k]? = some a := ⟨acs[k]'(by rw [HN.out]; exact hlt), List.getElem?_eq_getElem _⟩
            have ham := List.mem_of_getElem? ha
            have hB := HCS.out.bel
            obtain ⟨b, off, hAe, hbk⟩ := HA.out.one (by rw [HN.out]; omega)
            subst hAe
            obtain ⟨p0, p1, p2⟩ := (HA.out.below hB).cells rfl ha
            obtain ⟨hsa, hca, _⟩ := HA.out.2 a ham
            have hja := HJ.out a ham
            have hla := (fewA_iff HFEW.out).1 a ham
            obtain ⟨kd, nu, xA, xc, xb⟩ := a
            dsimp only at p0 p1 p2 hsa hca hja hla
            have HSA := Lib.hid hsa
            have HJA := Lib.hid hja
            have hltI : (k : Int) < (n : Int) := by omega
            have h0k : (0 : Int) ≤ (k : Int) := by omega
            obtain ⟨R, hR⟩ : ∃ R, acR s ba l kd nu xb = R := ⟨_, rfl⟩
            have HR := Lib.hid hR
            have HWK2 : Hid (Wok s R.ba R.l) := Lib.hid (by rw [← hR]; exact wok_ac HWK.out)
            have HXL : Hid (R.x.length ≤ 1044) := Lib.hid (by rw [← hR]; have := acR_x s ba l kd nu xb; omega)
            have HCL : Hid (R.cs.length ≤ 1000 ∧ ∀ y ∈ R.cs, y.2.1.length ≤ 8) := Lib.hid (by rw [← hR]; exact acR_cs HWK.out)
            have HB := Lib.hid hB
            clear ha ham hsa hja hR hB
            go_upto_region 13 with fail
            go_cut [14] from 67 to 68 (fun p wx => ∃ h, p = .pointer (some ⟨h, 0, none⟩) ∧ RowAt wx h 80 #[.int .i64 kd, .int .i64 nu, .slice xA xb.length xc] ∧ Below wr.heap.size wr wx ∧ wr.heap.size ≤ h)
            case first =>
              go_wp2_with fail
              go_meet
              exact ⟨wr.heap.size, rfl, RowAt.new _ _ _, (Below.refl _ _).alloc (Nat.le_refl _) _, Nat.le_refl _⟩
            case rest =>
              obtain ⟨h, rfl, hrh, hbx, hh⟩ := hcut
              have HCSX := Lib.hid (HCS.out.below hbx)
              obtain ⟨Ap, cp, hrp, hop⟩ := HCSX.out.wt
              have HSX := Lib.hid (HSA.out.below HCSX.out.bel)
              have hglt : g < wr.heap.size := by obtain ⟨_, _, h1, _⟩ := HCS.out.wt; exact h1.lt
              have HNH : Hid (h ≠ g ∧ some h ≠ (Value.slice Ap l.length cp).ownBlock) := Lib.hid ⟨by omega, fun e => own_row_ne hop hrh (by decide) h e.symm rfl⟩
              have C := Lib.hid (call_any w.heap.size g s ba l Ap cp kd nu xA xc xb wc hrp hop HWK.out HSX.out hla hca HJA.out HCSX.out.bel.size HCSX.out.gb)
              rw [HR.out] at C
              have HRH := Lib.hid hrh
              have HRP := Lib.hid hrp
              have HOP := Lib.hid hop
              have hqh := hrh.cell
              clear hrh hrp hop hbx p0 p1 p2
              go_wp2_with fail
              refine C.out.mono ?_
              rintro e w1 ⟨Ax, cx, ws, Aw, cw, rfl, hcs, hx1, hws1, hwt1, htw1⟩
              have HC1 := Lib.hid (HCSX.out.two HRP.out HOP.out htw1 hwt1)
              have HRH1 := Lib.hid (HRH.out.two htw1 HNH.out.1 HNH.out.2)
              have HGR : Hid (h ≠ gr) := Lib.hid (row_ne HRH1.out HC1.out.rr (by decide))
              have HX1 := Lib.hid (own_le hx1 HCSX.out.bel.size)
              have HW1 := Lib.hid hws1
              have HCO := Lib.hid hcs
              have HS1 := Lib.hid (HSA.out.below HC1.out.bel)
              clear hcs hx1 hws1 hwt1 htw1 C HCSX HSX HRP HOP HNH HRH hqh
              have hnx := HWK.out.next
              have hl4 := HWK.out.len
              have qh := HRH1.out.cell
              go_upto_block 2 with fail
              go_cut [18, 19, 20] from 87 to 118 (fun y v E wx => AfterRef w g gr s R Ax cx ws Aw y v E wx)
              case first =>
                have qr := HC1.out.rr.cell
                have fr := HC1.out.rr.frozen
                by_cases h0 : kd = 0
                · subst h0
                  obtain rfl : R = ⟨ba, apL s ba l xb, apO s ba l xb, [], apE s ba l xb⟩ := by rw [← HR.out, acR_0]
                  have C := Lib.hid (rappend_any s ba Al xA cl xc l xb w1 HC1.out.pn (HS1.out.mono HC1.out.bel.size) (by omega) (by omega) HWK.out.st0 hnx.1 (by omega))
                  unfold rwV at C
                  go_wp2_with fail
                  refine C.out.mono ?_
                  rintro e w2 ⟨hb2, A2, c2, Ao, co, rfl, hko, hoo⟩
                  have HC2 := Lib.hid (HC1.out.below hb2)
                  have HRP := Lib.hid (rp_rw (ba := ba) (E := apE s ba l xb) hko hoo HC1.out.ro hb2 HC1.out.bel.size)
                  have HX2 := Lib.hid (own_all HX1.out hb2)
                  have HW2 := Lib.hid ((HW1.out.below hb2).mono hb2.size)
                  have fr2 := HC2.out.rr.frozen
                  have qr2 := HC2.out.rr.cell
                  clear hb2 hko hoo C qh qr fr
                  unfold rwV
                  go_wp2_with fail
                  go_meet
                  exact after_ref (R := ⟨ba, apL s ba l xb, apO s ba l xb, [], apE s ba l xb⟩) 0 HC2.out HX2.out HW2.out HRP.out
                · have h0B : (kd == 0) = false := by rw [beq_eq_false_iff_ne]; exact h0
                  by_cases h1 : kd = 1
                  · subst h1
                    obtain rfl : R = ⟨ba, rsL s ba l nu, rsO s ba l nu, [], rsE s ba l nu⟩ := by rw [← HR.out, acR_1]
                    have C := Lib.hid (rreserve_any s ba Al cl l nu w1 HC1.out.pn (by omega) HWK.out.st0 hnx.1 (by omega))
                    unfold rwV at C
                    clear h0 h0B
                    go_wp2_with fail
                    refine C.out.mono ?_
                    rintro e w2 ⟨hb2, A2, c2, Ao, co, rfl, hko, hoo⟩
                    have HC2 := Lib.hid (HC1.out.below hb2)
                    have HRP := Lib.hid (rp_rw (ba := ba) (E := rsE s ba l nu) hko hoo HC1.out.ro hb2 HC1.out.bel.size)
                    have HX2 := Lib.hid (own_all HX1.out hb2)
                    have HW2 := Lib.hid ((HW1.out.below hb2).mono hb2.size)
                    have fr2 := HC2.out.rr.frozen
                    have qr2 := HC2.out.rr.cell
                    clear hb2 hko hoo C qh qr fr
                    unfold rwV
                    go_wp2_with fail
                    go_meet
                    exact after_ref (R := ⟨ba, rsL s ba l nu, rsO s ba l nu, [], rsE s ba l nu⟩) 0 HC2.out HX2.out HW2.out HRP.out
                  · have h1B : (kd == 1) = false := by rw [beq_eq_false_iff_ne]; exact h1
                    obtain ⟨bj, hbj⟩ : ∃ bj, joinB xb = bj := ⟨_, rfl⟩
                    have HBJ := Lib.hid hbj
                    have JN := Lib.hid (fun w' (hb : Below w1.heap.size w1 w') => join_any xA xc xb w' (((HS1.out.mono HC1.out.bel.size).below hb).mono hb.size) hca (by omega) (by have := HJA.out; omega))
                    rw [hbj] at JN
                    clear hbj
                    by_cases h2 : kd = 2
                    · subst h2
                      have HRR : Hid (R = ⟨ba, fiL l nu bj, [], [], fillE l nu bj⟩) := Lib.hid (by rw [← HR.out, acR_2, HBJ.out])
                      have RF := Lib.hid (fun w' (hb : Below w1.heap.size w1 w') => rfill_any s ba Al cl l nu bj w' ((HC1.out.below hb).pn) (by omega))
                      unfold rwV at RF
                      clear h0 h0B h1 h1B
                      go_upto_region 25 with fail
                      refine wp_region_held_drew (S := (fun w' => RowAt w' h 80 #[.int .i64 2, .int .i64 nu, .slice xA xb.length xc])) (by kernel_rfl) (HRH1.out) (fun hHeld => ?_)
                      refine wpAnyH_take (i := 1) (oi := ?o759) (v := ?v759) ?hi759 (by kernel_rfl) (by kernel_rfl) (by kernel_rfl) ?hq759 ?hy759 (by assumption) ?hr759
                      case hi759 => (simp only [List.getElem?_toArray, List.getElem?_cons_succ, List.getElem?_cons_zero]; rfl)
                      case hy759 => ((refine .inl ⟨by rfl, ?_⟩); intro w hS; go_simp; (try with_reducible rfl))
                      case hq759 => exact fun _ _ _ h => h
                      (simp only [Act.put, List.setIfInBounds_toArray, List.set_cons_zero, List.set_cons_succ])
                      refine wpAnyH_take (i := 2) (oi := ?o760) (v := ?v760) ?hi760 (by kernel_rfl) (by kernel_rfl) (by kernel_rfl) ?hq760 ?hy760 (by assumption) ?hr760
                      case hi760 => (simp only [List.getElem?_toArray, List.getElem?_cons_succ, List.getElem?_cons_zero]; rfl)
                      case hy760 => ((refine .inl ⟨by rfl, ?_⟩); intro w hS; have qh2 := hS.cell; go_simp; (try with_reducible rfl))
                      case hq760 => exact fun _ _ _ h => h
                      (simp only [Act.put, List.setIfInBounds_toArray, List.set_cons_zero, List.set_cons_succ])
                      refine wpAnyH_take (i := 3) (oi := ?o761) (v := ?v761) ?hi761 (by kernel_rfl) (by kernel_rfl) (by kernel_rfl) ?hq761 ?hy761 (by assumption) ?hr761
                      case hi761 => (simp only [List.getElem?_toArray, List.getElem?_cons_succ, List.getElem?_cons_zero]; rfl)
                      case hy761 => ((refine .inl ⟨by rfl, ?_⟩); intro w hS; go_simp; (try with_reducible rfl))
                      case hq761 => exact fun _ _ _ h => h
                      (simp only [Act.put, List.setIfInBounds_toArray, List.set_cons_zero, List.set_cons_succ])
                      refine wpAnyH_take (i := 4) (oi := ?o762) (v := ?v762) ?hi762 (by kernel_rfl) (by kernel_rfl) (by kernel_rfl) ?hq762 ?hy762 (by assumption) ?hr762
                      case hi762 => (simp only [List.getElem?_toArray, List.getElem?_cons_succ, List.getElem?_cons_zero]; rfl)
                      case hy762 => ((refine .inl ⟨by rfl, ?_⟩); intro w hS; have qh2 := hS.cell; go_simp; (try with_reducible rfl))
                      case hq762 => exact fun _ _ _ h => h
                      (simp only [Act.put, List.setIfInBounds_toArray, List.set_cons_zero, List.set_cons_succ])
                      refine wpAnyH_ready (rs := [0, 5]) (by kernel_rfl) (by simp) ?_
                      refine AllReadyH.cons rfl (fun K hK => ?_) (AllReadyH.cons rfl (fun K hK => ?_) AllReadyH.nil)
                      · skip
                        go_simp
                        refine hK.out _ _ (hHeld) (fun hHeld1 => ?_)
                        clear hK K
                        (try simp only [Act.put, List.setIfInBounds_toArray, List.set_cons_zero, List.set_cons_succ])
                        clear hHeld; have hHeld := hHeld1; clear hHeld1
                        refine wpAnyH_ready (rs := [5]) (by kernel_rfl) (by simp) ?_
                        refine AllReadyH.cons rfl (fun K hK => ?_) AllReadyH.nil
                        go_simp
                        go_wp2_with (((with_reducible refine (JN.out _ (Below.refl _ _).drew).mono ?_); rintro e w3 ⟨rfl, hb3⟩))
                        refine hK.out _ _ (hHeld.below hb3 hHeld.lt) (fun hHeld1 => ?_)
                        clear hK K
                        (try simp only [Act.put, List.setIfInBounds_toArray, List.set_cons_zero, List.set_cons_succ])
                        have HB3 := Lib.hid (((Below.refl w1.heap.size w1).drew).trans hb3)
                        have qr3 := (HC1.out.rr.below HB3.out HC1.out.rr.lt).cell
                        clear hb3
                        clear hHeld; have hHeld := hHeld1; clear hHeld1
                        refine wpAnyH_ready (rs := [6]) (by kernel_rfl) (by simp) ?_
                        refine AllReadyH.cons rfl (fun K hK => ?_) AllReadyH.nil
                        go_simp
                        go_wp2_with (((with_reducible refine (RF.out _ HB3.out).mono ?_); rintro e w4 ⟨hb4, A4, c4, rfl, hko⟩; unfold rwV))
                        refine hK.out _ _ (hHeld.below hb4 hHeld.lt) (fun hHeld1 => ?_)
                        clear hK K
                        (try simp only [Act.put, List.setIfInBounds_toArray, List.set_cons_zero, List.set_cons_succ])
                        have HC4 := Lib.hid ((HC1.out.below HB3.out).below hb4)
                        have HRP4 := Lib.hid (rp_rw (out := []) (Ao := none) (co := 0) (ba := ba) (E := fillE l nu bj) hko (World.ownsRow_nil _ _ _ _) (own_all HC1.out.ro HB3.out) hb4 (Nat.le_trans HC1.out.bel.size HB3.out.size))
                        have HX4 := Lib.hid (own_all (own_all HX1.out HB3.out) hb4)
                        have HW4 := Lib.hid ((((HW1.out.below HB3.out).mono HB3.out.size).below hb4).mono hb4.size)
                        have fr4 := HC4.out.rr.frozen
                        have qr4 := HC4.out.rr.cell
                        clear hb4 hko
                        clear hHeld; have hHeld := hHeld1; clear hHeld1
                        refine wpAnyH_take (i := 7) (oi := ?o763) (v := ?v763) ?hi763 (by kernel_rfl) (by kernel_rfl) (by kernel_rfl) ?hq763 ?hy763 (by assumption) ?hr763
                        case hi763 => (simp only [List.getElem?_toArray, List.getElem?_cons_succ, List.getElem?_cons_zero]; rfl)
                        case hy763 => ((refine .inl ⟨by rfl, ?_⟩); intro w hS; go_simp; (try with_reducible rfl))
                        case hq763 => exact fun _ _ _ h => h
                        (simp only [Act.put, List.setIfInBounds_toArray, List.set_cons_zero, List.set_cons_succ])
                        refine wpAnyH_take (i := 8) (oi := ?o764) (v := ?v764) ?hi764 (by kernel_rfl) (by kernel_rfl) (by kernel_rfl) ?hq764 ?hy764 (by assumption) ?hr764
                        case hi764 => (simp only [List.getElem?_toArray, List.getElem?_cons_succ, List.getElem?_cons_zero]; rfl)
                        case hy764 => ((refine .inl ⟨by rfl, ?_⟩); intro w hS; go_simp; (try with_reducible rfl))
                        case hq764 => exact fun _ _ _ h => h
                        (simp only [Act.put, List.setIfInBounds_toArray, List.set_cons_zero, List.set_cons_succ])
                        refine wpAnyH_take (i := 9) (oi := ?o765) (v := ?v765) ?hi765 (by kernel_rfl) (by kernel_rfl) (by kernel_rfl) ?hq765 ?hy765 (by assumption) ?hr765
                        case hi765 => (simp only [List.getElem?_toArray, List.getElem?_cons_succ, List.getElem?_cons_zero]; rfl)
                        case hy765 => ((refine .inl ⟨by rfl, ?_⟩); intro w hS; go_simp; (try with_reducible rfl))
                        case hq765 => exact fun _ _ _ h => h
                        (simp only [Act.put, List.setIfInBounds_toArray, List.set_cons_zero, List.set_cons_succ])
                        refine wpAnyH_ready (rs := [10]) (by kernel_rfl) (by simp) ?_
                        refine AllReadyH.cons rfl (fun K hK => ?_) AllReadyH.nil
                        go_simp
                        refine hK.out _ _ ((((hHeld.far (p := ⟨gr, 0, none⟩) HGR.out _).far (p := ⟨gr, 1, none⟩) HGR.out _).far (p := ⟨gr, 2, none⟩) HGR.out _)) (fun hHeld1 => ?_)
                        clear hK K
                        (try simp only [Act.put, List.setIfInBounds_toArray, List.set_cons_zero, List.set_cons_succ])
                        clear hHeld; have hHeld := hHeld1; clear hHeld1
                        refine wpAnyH_take (i := 11) (oi := ?o766) (v := ?v766) ?hi766 (by kernel_rfl) (by kernel_rfl) (by kernel_rfl) ?hq766 ?hy766 (by assumption) ?hr766
                        case hi766 => (simp only [List.getElem?_toArray, List.getElem?_cons_succ, List.getElem?_cons_zero]; rfl)
                        case hy766 => ((refine .inl ⟨by rfl, ?_⟩); intro w hS; go_simp; (try with_reducible rfl))
                        case hq766 => exact fun _ _ _ h => h
                        (simp only [Act.put, List.setIfInBounds_toArray, List.set_cons_zero, List.set_cons_succ])
                        refine wpAnyH_done (by kernel_rfl) ?_ _
                        go_wp2_with fail
                        go_meet
                        rw [HRR.out] at HC4 HX4 ⊢
                        exact after_ref (R := ⟨ba, fiL l nu bj, [], [], fillE l nu bj⟩) 0 HC4.out HX4.out HW4.out HRP4.out
                      · skip
                        go_simp
                        go_wp2_with (((with_reducible refine (JN.out _ (Below.refl _ _).drew).mono ?_); rintro e w3 ⟨rfl, hb3⟩))
                        refine hK.out _ _ (hHeld.below hb3 hHeld.lt) (fun hHeld1 => ?_)
                        clear hK K
                        (try simp only [Act.put, List.setIfInBounds_toArray, List.set_cons_zero, List.set_cons_succ])
                        have HB3 := Lib.hid (((Below.refl w1.heap.size w1).drew).trans hb3)
                        have qr3 := (HC1.out.rr.below HB3.out HC1.out.rr.lt).cell
                        clear hb3
                        clear hHeld; have hHeld := hHeld1; clear hHeld1
                        refine wpAnyH_ready (rs := [0]) (by kernel_rfl) (by simp) ?_
                        refine AllReadyH.cons rfl (fun K hK => ?_) AllReadyH.nil
                        go_simp
                        refine hK.out _ _ (hHeld) (fun hHeld1 => ?_)
                        clear hK K
                        (try simp only [Act.put, List.setIfInBounds_toArray, List.set_cons_zero, List.set_cons_succ])
                        clear hHeld; have hHeld := hHeld1; clear hHeld1
                        refine wpAnyH_ready (rs := [6]) (by kernel_rfl) (by simp) ?_
                        refine AllReadyH.cons rfl (fun K hK => ?_) AllReadyH.nil
                        go_simp
                        go_wp2_with (((with_reducible refine (RF.out _ HB3.out).mono ?_); rintro e w4 ⟨hb4, A4, c4, rfl, hko⟩; unfold rwV))
                        refine hK.out _ _ (hHeld.below hb4 hHeld.lt) (fun hHeld1 => ?_)
                        clear hK K
                        (try simp only [Act.put, List.setIfInBounds_toArray, List.set_cons_zero, List.set_cons_succ])
                        have HC4 := Lib.hid ((HC1.out.below HB3.out).below hb4)
                        have HRP4 := Lib.hid (rp_rw (out := []) (Ao := none) (co := 0) (ba := ba) (E := fillE l nu bj) hko (World.ownsRow_nil _ _ _ _) (own_all HC1.out.ro HB3.out) hb4 (Nat.le_trans HC1.out.bel.size HB3.out.size))
                        have HX4 := Lib.hid (own_all (own_all HX1.out HB3.out) hb4)
                        have HW4 := Lib.hid ((((HW1.out.below HB3.out).mono HB3.out.size).below hb4).mono hb4.size)
                        have fr4 := HC4.out.rr.frozen
                        have qr4 := HC4.out.rr.cell
                        clear hb4 hko
                        clear hHeld; have hHeld := hHeld1; clear hHeld1
                        refine wpAnyH_take (i := 7) (oi := ?o767) (v := ?v767) ?hi767 (by kernel_rfl) (by kernel_rfl) (by kernel_rfl) ?hq767 ?hy767 (by assumption) ?hr767
                        case hi767 => (simp only [List.getElem?_toArray, List.getElem?_cons_succ, List.getElem?_cons_zero]; rfl)
                        case hy767 => ((refine .inl ⟨by rfl, ?_⟩); intro w hS; go_simp; (try with_reducible rfl))
                        case hq767 => exact fun _ _ _ h => h
                        (simp only [Act.put, List.setIfInBounds_toArray, List.set_cons_zero, List.set_cons_succ])
                        refine wpAnyH_take (i := 8) (oi := ?o768) (v := ?v768) ?hi768 (by kernel_rfl) (by kernel_rfl) (by kernel_rfl) ?hq768 ?hy768 (by assumption) ?hr768
                        case hi768 => (simp only [List.getElem?_toArray, List.getElem?_cons_succ, List.getElem?_cons_zero]; rfl)
                        case hy768 => ((refine .inl ⟨by rfl, ?_⟩); intro w hS; go_simp; (try with_reducible rfl))
                        case hq768 => exact fun _ _ _ h => h
                        (simp only [Act.put, List.setIfInBounds_toArray, List.set_cons_zero, List.set_cons_succ])
                        refine wpAnyH_take (i := 9) (oi := ?o769) (v := ?v769) ?hi769 (by kernel_rfl) (by kernel_rfl) (by kernel_rfl) ?hq769 ?hy769 (by assumption) ?hr769
                        case hi769 => (simp only [List.getElem?_toArray, List.getElem?_cons_succ, List.getElem?_cons_zero]; rfl)
                        case hy769 => ((refine .inl ⟨by rfl, ?_⟩); intro w hS; go_simp; (try with_reducible rfl))
                        case hq769 => exact fun _ _ _ h => h
                        (simp only [Act.put, List.setIfInBounds_toArray, List.set_cons_zero, List.set_cons_succ])
                        refine wpAnyH_ready (rs := [10]) (by kernel_rfl) (by simp) ?_
                        refine AllReadyH.cons rfl (fun K hK => ?_) AllReadyH.nil
                        go_simp
                        refine hK.out _ _ ((((hHeld.far (p := ⟨gr, 0, none⟩) HGR.out _).far (p := ⟨gr, 1, none⟩) HGR.out _).far (p := ⟨gr, 2, none⟩) HGR.out _)) (fun hHeld1 => ?_)
                        clear hK K
                        (try simp only [Act.put, List.setIfInBounds_toArray, List.set_cons_zero, List.set_cons_succ])
                        clear hHeld; have hHeld := hHeld1; clear hHeld1
                        refine wpAnyH_take (i := 11) (oi := ?o770) (v := ?v770) ?hi770 (by kernel_rfl) (by kernel_rfl) (by kernel_rfl) ?hq770 ?hy770 (by assumption) ?hr770
                        case hi770 => (simp only [List.getElem?_toArray, List.getElem?_cons_succ, List.getElem?_cons_zero]; rfl)
                        case hy770 => ((refine .inl ⟨by rfl, ?_⟩); intro w hS; go_simp; (try with_reducible rfl))
                        case hq770 => exact fun _ _ _ h => h
                        (simp only [Act.put, List.setIfInBounds_toArray, List.set_cons_zero, List.set_cons_succ])
                        refine wpAnyH_done (by kernel_rfl) ?_ _
                        go_wp2_with fail
                        go_meet
                        rw [HRR.out] at HC4 HX4 ⊢
                        exact after_ref (R := ⟨ba, fiL l nu bj, [], [], fillE l nu bj⟩) 0 HC4.out HX4.out HW4.out HRP4.out
                    · have h2B : (kd == 2) = false := by rw [beq_eq_false_iff_ne]; exact h2
                      have HK0 := Lib.hid h0
                      have HK1 := Lib.hid h1
                      have HK2 := Lib.hid h2
                      have RL := Lib.hid (fun w' (hb : Below w1.heap.size w1 w') => rflush_any s ba Al cl l bj w' ((HC1.out.below hb).pn) HWK.out)
                      unfold rwV at RL
                      clear h0 h1 h2
                      go_upto_region 19 with fail
                      refine wp_region_held_drew (S := (fun w' => RowAt w' h 80 #[.int .i64 kd, .int .i64 nu, .slice xA xb.length xc])) (by kernel_rfl) (HRH1.out) (fun hHeld => ?_)
                      refine wpAnyH_take (i := 1) (oi := ?o771) (v := ?v771) ?hi771 (by kernel_rfl) (by kernel_rfl) (by kernel_rfl) ?hq771 ?hy771 (by assumption) ?hr771
                      case hi771 => (simp only [List.getElem?_toArray, List.getElem?_cons_succ, List.getElem?_cons_zero]; rfl)
                      case hy771 => ((refine .inl ⟨by rfl, ?_⟩); intro w hS; go_simp; (try with_reducible rfl))
                      case hq771 => exact fun _ _ _ h => h
                      (simp only [Act.put, List.setIfInBounds_toArray, List.set_cons_zero, List.set_cons_succ])
                      refine wpAnyH_take (i := 2) (oi := ?o772) (v := ?v772) ?hi772 (by kernel_rfl) (by kernel_rfl) (by kernel_rfl) ?hq772 ?hy772 (by assumption) ?hr772
                      case hi772 => (simp only [List.getElem?_toArray, List.getElem?_cons_succ, List.getElem?_cons_zero]; rfl)
                      case hy772 => ((refine .inl ⟨by rfl, ?_⟩); intro w hS; have qh2 := hS.cell; go_simp; (try with_reducible rfl))
                      case hq772 => exact fun _ _ _ h => h
                      (simp only [Act.put, List.setIfInBounds_toArray, List.set_cons_zero, List.set_cons_succ])
                      refine wpAnyH_ready (rs := [0, 3]) (by kernel_rfl) (by simp) ?_
                      refine AllReadyH.cons rfl (fun K hK => ?_) (AllReadyH.cons rfl (fun K hK => ?_) AllReadyH.nil)
                      · skip
                        go_simp
                        refine hK.out _ _ (hHeld) (fun hHeld1 => ?_)
                        clear hK K
                        (try simp only [Act.put, List.setIfInBounds_toArray, List.set_cons_zero, List.set_cons_succ])
                        clear hHeld; have hHeld := hHeld1; clear hHeld1
                        refine wpAnyH_ready (rs := [3]) (by kernel_rfl) (by simp) ?_
                        refine AllReadyH.cons rfl (fun K hK => ?_) AllReadyH.nil
                        go_simp
                        go_wp2_with (((with_reducible refine (JN.out _ (Below.refl _ _).drew).mono ?_); rintro e w3 ⟨rfl, hb3⟩))
                        refine hK.out _ _ (hHeld.below hb3 hHeld.lt) (fun hHeld1 => ?_)
                        clear hK K
                        (try simp only [Act.put, List.setIfInBounds_toArray, List.set_cons_zero, List.set_cons_succ])
                        have HB3 := Lib.hid (((Below.refl w1.heap.size w1).drew).trans hb3)
                        have qr3 := (HC1.out.rr.below HB3.out HC1.out.rr.lt).cell
                        clear hb3
                        clear hHeld; have hHeld := hHeld1; clear hHeld1
                        refine wpAnyH_ready (rs := [4]) (by kernel_rfl) (by simp) ?_
                        refine AllReadyH.cons rfl (fun K hK => ?_) AllReadyH.nil
                        go_simp
                        go_wp2_with (((with_reducible refine (RL.out _ HB3.out).mono ?_); rintro e w4 hres; obtain ⟨hb4, A4, c4, ws4, Aw4, cw4, rfl, hx0, hrp4⟩ := rflush_sum HR.out HBJ.out HK0.out HK1.out HK2.out hres (own_all HC1.out.ro HB3.out); have HX0 := Lib.hid hx0; clear hx0; unfold rwV))
                        refine hK.out _ _ (hHeld.below hb4 hHeld.lt) (fun hHeld1 => ?_)
                        clear hK K
                        (try simp only [Act.put, List.setIfInBounds_toArray, List.set_cons_zero, List.set_cons_succ])
                        have HC4 := Lib.hid ((HC1.out.below HB3.out).below hb4)
                        have HRP4 := Lib.hid hrp4
                        have HX4 := Lib.hid (own_all (own_all HX1.out HB3.out) hb4)
                        have HW4 := Lib.hid ((((HW1.out.below HB3.out).mono HB3.out.size).below hb4).mono hb4.size)
                        have fr4 := HC4.out.rr.frozen
                        have qr4 := HC4.out.rr.cell
                        clear hb4 hrp4 hres
                        clear hHeld; have hHeld := hHeld1; clear hHeld1
                        refine wpAnyH_take (i := 5) (oi := ?o773) (v := ?v773) ?hi773 (by kernel_rfl) (by kernel_rfl) (by kernel_rfl) ?hq773 ?hy773 (by assumption) ?hr773
                        case hi773 => (simp only [List.getElem?_toArray, List.getElem?_cons_succ, List.getElem?_cons_zero]; rfl)
                        case hy773 => ((refine .inl ⟨by rfl, ?_⟩); intro w hS; go_simp; (try with_reducible rfl))
                        case hq773 => exact fun _ _ _ h => h
                        (simp only [Act.put, List.setIfInBounds_toArray, List.set_cons_zero, List.set_cons_succ])
                        refine wpAnyH_take (i := 6) (oi := ?o774) (v := ?v774) ?hi774 (by kernel_rfl) (by kernel_rfl) (by kernel_rfl) ?hq774 ?hy774 (by assumption) ?hr774
                        case hi774 => (simp only [List.getElem?_toArray, List.getElem?_cons_succ, List.getElem?_cons_zero]; rfl)
                        case hy774 => ((refine .inl ⟨by rfl, ?_⟩); intro w hS; go_simp; (try with_reducible rfl))
                        case hq774 => exact fun _ _ _ h => h
                        (simp only [Act.put, List.setIfInBounds_toArray, List.set_cons_zero, List.set_cons_succ])
                        refine wpAnyH_take (i := 7) (oi := ?o775) (v := ?v775) ?hi775 (by kernel_rfl) (by kernel_rfl) (by kernel_rfl) ?hq775 ?hy775 (by assumption) ?hr775
                        case hi775 => (simp only [List.getElem?_toArray, List.getElem?_cons_succ, List.getElem?_cons_zero]; rfl)
                        case hy775 => ((refine .inl ⟨by rfl, ?_⟩); intro w hS; go_simp; (try with_reducible rfl))
                        case hq775 => exact fun _ _ _ h => h
                        (simp only [Act.put, List.setIfInBounds_toArray, List.set_cons_zero, List.set_cons_succ])
                        refine wpAnyH_take (i := 8) (oi := ?o776) (v := ?v776) ?hi776 (by kernel_rfl) (by kernel_rfl) (by kernel_rfl) ?hq776 ?hy776 (by assumption) ?hr776
                        case hi776 => (simp only [List.getElem?_toArray, List.getElem?_cons_succ, List.getElem?_cons_zero]; rfl)
                        case hy776 => ((refine .inl ⟨by rfl, ?_⟩); intro w hS; go_simp; (try with_reducible rfl))
                        case hq776 => exact fun _ _ _ h => h
                        (simp only [Act.put, List.setIfInBounds_toArray, List.set_cons_zero, List.set_cons_succ])
                        refine wpAnyH_ready (rs := [9]) (by kernel_rfl) (by simp) ?_
                        refine AllReadyH.cons rfl (fun K hK => ?_) AllReadyH.nil
                        go_simp
                        refine hK.out _ _ ((((hHeld.far (p := ⟨gr, 0, none⟩) HGR.out _).far (p := ⟨gr, 1, none⟩) HGR.out _).far (p := ⟨gr, 2, none⟩) HGR.out _)) (fun hHeld1 => ?_)
                        clear hK K
                        (try simp only [Act.put, List.setIfInBounds_toArray, List.set_cons_zero, List.set_cons_succ])
                        clear hHeld; have hHeld := hHeld1; clear hHeld1
                        refine wpAnyH_take (i := 10) (oi := ?o777) (v := ?v777) ?hi777 (by kernel_rfl) (by kernel_rfl) (by kernel_rfl) ?hq777 ?hy777 (by assumption) ?hr777
                        case hi777 => (simp only [List.getElem?_toArray, List.getElem?_cons_succ, List.getElem?_cons_zero]; rfl)
                        case hy777 => ((refine .inl ⟨by rfl, ?_⟩); intro w hS; go_simp; (try with_reducible rfl))
                        case hq777 => exact fun _ _ _ h => h
                        (simp only [Act.put, List.setIfInBounds_toArray, List.set_cons_zero, List.set_cons_succ])
                        refine wpAnyH_take (i := 11) (oi := ?o778) (v := ?v778) ?hi778 (by kernel_rfl) (by kernel_rfl) (by kernel_rfl) ?hq778 ?hy778 (by assumption) ?hr778
                        case hi778 => (simp only [List.getElem?_toArray, List.getElem?_cons_succ, List.getElem?_cons_zero]; rfl)
                        case hy778 => ((refine .inl ⟨by rfl, ?_⟩); intro w hS; go_simp; (try with_reducible rfl))
                        case hq778 => exact fun _ _ _ h => h
                        (simp only [Act.put, List.setIfInBounds_toArray, List.set_cons_zero, List.set_cons_succ])
                        refine wpAnyH_done (by kernel_rfl) ?_ _
                        go_wp2_with fail
                        go_meet
                        have := after_ref (R := R) cw4 HC4.out HX4.out HW4.out HRP4.out
                        rw [HX0.out] at this
                        exact this
                      · skip
                        go_simp
                        go_wp2_with (((with_reducible refine (JN.out _ (Below.refl _ _).drew).mono ?_); rintro e w3 ⟨rfl, hb3⟩))
                        refine hK.out _ _ (hHeld.below hb3 hHeld.lt) (fun hHeld1 => ?_)
                        clear hK K
                        (try simp only [Act.put, List.setIfInBounds_toArray, List.set_cons_zero, List.set_cons_succ])
                        have HB3 := Lib.hid (((Below.refl w1.heap.size w1).drew).trans hb3)
                        have qr3 := (HC1.out.rr.below HB3.out HC1.out.rr.lt).cell
                        clear hb3
                        clear hHeld; have hHeld := hHeld1; clear hHeld1
                        refine wpAnyH_ready (rs := [0]) (by kernel_rfl) (by simp) ?_
                        refine AllReadyH.cons rfl (fun K hK => ?_) AllReadyH.nil
                        go_simp
                        refine hK.out _ _ (hHeld) (fun hHeld1 => ?_)
                        clear hK K
                        (try simp only [Act.put, List.setIfInBounds_toArray, List.set_cons_zero, List.set_cons_succ])
                        clear hHeld; have hHeld := hHeld1; clear hHeld1
                        refine wpAnyH_ready (rs := [4]) (by kernel_rfl) (by simp) ?_
                        refine AllReadyH.cons rfl (fun K hK => ?_) AllReadyH.nil
                        go_simp
                        go_wp2_with (((with_reducible refine (RL.out _ HB3.out).mono ?_); rintro e w4 hres; obtain ⟨hb4, A4, c4, ws4, Aw4, cw4, rfl, hx0, hrp4⟩ := rflush_sum HR.out HBJ.out HK0.out HK1.out HK2.out hres (own_all HC1.out.ro HB3.out); have HX0 := Lib.hid hx0; clear hx0; unfold rwV))
                        refine hK.out _ _ (hHeld.below hb4 hHeld.lt) (fun hHeld1 => ?_)
                        clear hK K
                        (try simp only [Act.put, List.setIfInBounds_toArray, List.set_cons_zero, List.set_cons_succ])
                        have HC4 := Lib.hid ((HC1.out.below HB3.out).below hb4)
                        have HRP4 := Lib.hid hrp4
                        have HX4 := Lib.hid (own_all (own_all HX1.out HB3.out) hb4)
                        have HW4 := Lib.hid ((((HW1.out.below HB3.out).mono HB3.out.size).below hb4).mono hb4.size)
                        have fr4 := HC4.out.rr.frozen
                        have qr4 := HC4.out.rr.cell
                        clear hb4 hrp4 hres
                        clear hHeld; have hHeld := hHeld1; clear hHeld1
                        refine wpAnyH_take (i := 5) (oi := ?o779) (v := ?v779) ?hi779 (by kernel_rfl) (by kernel_rfl) (by kernel_rfl) ?hq779 ?hy779 (by assumption) ?hr779
                        case hi779 => (simp only [List.getElem?_toArray, List.getElem?_cons_succ, List.getElem?_cons_zero]; rfl)
                        case hy779 => ((refine .inl ⟨by rfl, ?_⟩); intro w hS; go_simp; (try with_reducible rfl))
                        case hq779 => exact fun _ _ _ h => h
                        (simp only [Act.put, List.setIfInBounds_toArray, List.set_cons_zero, List.set_cons_succ])
                        refine wpAnyH_take (i := 6) (oi := ?o780) (v := ?v780) ?hi780 (by kernel_rfl) (by kernel_rfl) (by kernel_rfl) ?hq780 ?hy780 (by assumption) ?hr780
                        case hi780 => (simp only [List.getElem?_toArray, List.getElem?_cons_succ, List.getElem?_cons_zero]; rfl)
                        case hy780 => ((refine .inl ⟨by rfl, ?_⟩); intro w hS; go_simp; (try with_reducible rfl))
                        case hq780 => exact fun _ _ _ h => h
                        (simp only [Act.put, List.setIfInBounds_toArray, List.set_cons_zero, List.set_cons_succ])
                        refine wpAnyH_take (i := 7) (oi := ?o781) (v := ?v781) ?hi781 (by kernel_rfl) (by kernel_rfl) (by kernel_rfl) ?hq781 ?hy781 (by assumption) ?hr781
                        case hi781 => (simp only [List.getElem?_toArray, List.getElem?_cons_succ, List.getElem?_cons_zero]; rfl)
                        case hy781 => ((refine .inl ⟨by rfl, ?_⟩); intro w hS; go_simp; (try with_reducible rfl))
                        case hq781 => exact fun _ _ _ h => h
                        (simp only [Act.put, List.setIfInBounds_toArray, List.set_cons_zero, List.set_cons_succ])
                        refine wpAnyH_take (i := 8) (oi := ?o782) (v := ?v782) ?hi782 (by kernel_rfl) (by kernel_rfl) (by kernel_rfl) ?hq782 ?hy782 (by assumption) ?hr782
                        case hi782 => (simp only [List.getElem?_toArray, List.getElem?_cons_succ, List.getElem?_cons_zero]; rfl)
                        case hy782 => ((refine .inl ⟨by rfl, ?_⟩); intro w hS; go_simp; (try with_reducible rfl))
                        case hq782 => exact fun _ _ _ h => h
                        (simp only [Act.put, List.setIfInBounds_toArray, List.set_cons_zero, List.set_cons_succ])
                        refine wpAnyH_ready (rs := [9]) (by kernel_rfl) (by simp) ?_
                        refine AllReadyH.cons rfl (fun K hK => ?_) AllReadyH.nil
                        go_simp
                        refine hK.out _ _ ((((hHeld.far (p := ⟨gr, 0, none⟩) HGR.out _).far (p := ⟨gr, 1, none⟩) HGR.out _).far (p := ⟨gr, 2, none⟩) HGR.out _)) (fun hHeld1 => ?_)
                        clear hK K
                        (try simp only [Act.put, List.setIfInBounds_toArray, List.set_cons_zero, List.set_cons_succ])
                        clear hHeld; have hHeld := hHeld1; clear hHeld1
                        refine wpAnyH_take (i := 10) (oi := ?o783) (v := ?v783) ?hi783 (by kernel_rfl) (by kernel_rfl) (by kernel_rfl) ?hq783 ?hy783 (by assumption) ?hr783
                        case hi783 => (simp only [List.getElem?_toArray, List.getElem?_cons_succ, List.getElem?_cons_zero]; rfl)
                        case hy783 => ((refine .inl ⟨by rfl, ?_⟩); intro w hS; go_simp; (try with_reducible rfl))
                        case hq783 => exact fun _ _ _ h => h
                        (simp only [Act.put, List.setIfInBounds_toArray, List.set_cons_zero, List.set_cons_succ])
                        refine wpAnyH_take (i := 11) (oi := ?o784) (v := ?v784) ?hi784 (by kernel_rfl) (by kernel_rfl) (by kernel_rfl) ?hq784 ?hy784 (by assumption) ?hr784
                        case hi784 => (simp only [List.getElem?_toArray, List.getElem?_cons_succ, List.getElem?_cons_zero]; rfl)
                        case hy784 => ((refine .inl ⟨by rfl, ?_⟩); intro w hS; go_simp; (try with_reducible rfl))
                        case hq784 => exact fun _ _ _ h => h
                        (simp only [Act.put, List.setIfInBounds_toArray, List.set_cons_zero, List.set_cons_succ])
                        refine wpAnyH_done (by kernel_rfl) ?_ _
                        go_wp2_with fail
                        go_meet
                        have := after_ref (R := R) cw4 HC4.out HX4.out HW4.out HRP4.out
                        rw [HX0.out] at this
                        exact this
              case rest =>
                obtain ⟨rfl, A2, c2, Ay, cy, ws', Aw', cw', rfl, rfl, hcs2, hrp2, hx2, hw2⟩ := hcut
                clear qh HRH1 HS1 HC1 HX1 HW1 HSA HJA hca hla hnx hl4 HGR hh
                obtain ⟨B, hB⟩ : ∃ B, blkR R.l lb = B := ⟨_, rfl⟩
                have hl5 := HWK2.out.len
                have hlst := HWK2.out.last
                have hsb := HWK2.out.stba
                have PB := Lib.hid (pblock_any w.heap.size g s R.ba R.l lb wc hcs2.wt (by omega))
                have RB := Lib.hid (fun w' (hb : Below wc.heap.size wc w') => rblock_any s R.ba A2 c2 R.l lb w' (hcs2.below hb).pn (by omega) HWK2.out.inc)
                rw [hB] at PB RB
                obtain ⟨bs, bo⟩ := B
                unfold rwV at RB
                dsimp only at PB RB
                have HX2 := Lib.hid hx2
                have HW2 := Lib.hid hw2
                have HP2 := Lib.hid hrp2
                have HC2 := Lib.hid hcs2
                clear hB hx2 hw2 hrp2 hcs2
                go_wp2_with fail
                refine PB.out.mono ?_
                rintro e w4 ⟨rfl, hb4⟩
                have RB4 := Lib.hid (RB.out w4 hb4)
                have HC4 := Lib.hid (HC2.out.below hb4)
                have qr := HC4.out.rr.cell
                have HB4 := Lib.hid hb4
                clear RB PB hb4
                go_wp2_with fail
                refine RB4.out.mono ?_
                rintro e w5 ⟨rfl, hb5⟩
                have HC5 := Lib.hid (HC4.out.below hb5)
                have HX5 : Hid (SlAt w5 w5.heap.size Ax (intV R.x)) := Lib.hid (SlAt.of_own' (own_all (own_all HX2.out HB4.out) hb5) (Nat.le_refl _))
                have HY5 : Hid (SlAt w5 w5.heap.size Ay (intV R.x)) := Lib.hid (SlAt.of_own' (own_all (own_all HP2.out.y HB4.out) hb5) (Nat.le_refl _))
                have HW5 := Lib.hid (((HW2.out.below HB4.out).mono HB4.out.size).below hb5 |>.mono hb5.size)
                have HV5 := Lib.hid (((HP2.out.ws.below HB4.out).mono HB4.out.size).below hb5 |>.mono hb5.size)
                have HCW : Hid (ws.map wcore = ws'.map wcore) := Lib.hid (HCO.out.trans HP2.out.cs.symm)
                have HWF := Lib.hid (ws_few HCO.out HCL.out)
                obtain ⟨O, hO⟩ : ∃ O, openL R.l = O := ⟨_, rfl⟩
                obtain ⟨K, hK⟩ : ∃ K, ctlL s R.ba R.l = K := ⟨_, rfl⟩
                have HOL : Hid (O.length ≤ 4096) := Lib.hid (by rw [← hO]; unfold openL; rw [List.length_map]; exact Nat.le_trans (List.length_filter_le _ _) hl5)
                have EQ1 := Lib.hid (fun w' (hb : Below w5.heap.size w5 w') => eqints_same Ax Ay cx cy R.x w' ((HX5.out.below hb).mono hb.size) ((HY5.out.below hb).mono hb.size) (by have := HXL.out; omega))
                have SW := Lib.hid (fun w' (hb : Below w5.heap.size w5 w') => samewrites_same Aw Aw' cw cw' ws ws' w' ((HW5.out.below hb).mono hb.size) ((HV5.out.below hb).mono hb.size) HCW.out (by have := HWF.out.1; omega) (fun x hx => by have := HWF.out.2 x hx; omega))
                have BS := Lib.hid (fun w' (hb : Below w5.heap.size w5 w') => base_wt w.heap.size g s R.ba R.l w' (HC5.out.below hb).wt)
                have OP := Lib.hid (fun w' (hb : Below w5.heap.size w5 w') => open_any w.heap.size g s R.ba R.l w' (HC5.out.below hb).wt (by omega))
                have RO := Lib.hid (fun w' (hb : Below w5.heap.size w5 w') => ropen_any s R.ba A2 c2 R.l w' (HC5.out.below hb).pn (by omega))
                have CT := Lib.hid (fun w' (hb : Below w5.heap.size w5 w') => control_any w.heap.size g s R.ba R.l w' (HC5.out.below hb).wt (by omega) HWK2.out.st0 (by omega) (by omega))
                have RC := Lib.hid (fun w' (hb : Below w5.heap.size w5 w') => rcontrol_any s R.ba A2 c2 R.l w' (HC5.out.below hb).pn (by omega) HWK2.out.st0 (by omega) (by omega))
                unfold OpenRes at OP RO
                rw [hO] at OP RO
                rw [hK] at CT RC
                unfold rwV at RO RC
                clear hO hK hb5 RB4 qr HX2 HW2 HP2 HC2 HB4 HC4
                have HRR5 := Lib.hid HC5.out.rr
                go_upto_region 28 with fail
                refine wp_region_held_drew (S := (fun w' => Below w5.heap.size w5 w')) (by kernel_rfl) ((Below.refl _ _).drew) (fun hHeld => ?_)
                refine wpAnyH_take (i := 0) (oi := ?o785) (v := ?v785) ?hi785 (by kernel_rfl) (by kernel_rfl) (by kernel_rfl) ?hq785 ?hy785 (by assumption) ?hr785
                case hi785 => (simp only [List.getElem?_toArray, List.getElem?_cons_zero]; rfl)
                case hy785 => ((refine .inl ⟨by rfl, ?_⟩); intro w hS; go_simp; (try with_reducible rfl))
                case hq785 => exact fun _ _ _ h => h
                (simp only [Act.put, List.setIfInBounds_toArray, List.set_cons_zero, List.set_cons_succ])
                refine wpAnyH_take (i := 1) (oi := ?o786) (v := ?v786) ?hi786 (by kernel_rfl) (by kernel_rfl) (by kernel_rfl) ?hq786 ?hy786 (by assumption) ?hr786
                case hi786 => (simp only [List.getElem?_toArray, List.getElem?_cons_succ, List.getElem?_cons_zero]; rfl)
                case hy786 => ((refine .inl ⟨by rfl, ?_⟩); intro w hS; go_simp; (try with_reducible rfl))
                case hq786 => exact fun _ _ _ h => h
                (simp only [Act.put, List.setIfInBounds_toArray, List.set_cons_zero, List.set_cons_succ])
                refine wpAnyH_take (i := 2) (oi := ?o787) (v := ?v787) ?hi787 (by kernel_rfl) (by kernel_rfl) (by kernel_rfl) ?hq787 ?hy787 (by assumption) ?hr787
                case hi787 => (simp only [List.getElem?_toArray, List.getElem?_cons_succ, List.getElem?_cons_zero]; rfl)
                case hy787 => ((refine .inl ⟨by rfl, ?_⟩); intro w hS; go_simp; (try with_reducible rfl))
                case hq787 => exact fun _ _ _ h => h
                (simp only [Act.put, List.setIfInBounds_toArray, List.set_cons_zero, List.set_cons_succ])
                refine wpAnyH_take (i := 3) (oi := ?o788) (v := ?v788) ?hi788 (by kernel_rfl) (by kernel_rfl) (by kernel_rfl) ?hq788 ?hy788 (by assumption) ?hr788
                case hi788 => (simp only [List.getElem?_toArray, List.getElem?_cons_succ, List.getElem?_cons_zero]; rfl)
                case hy788 => ((refine .inl ⟨by rfl, ?_⟩); intro w hS; go_simp; (try with_reducible rfl))
                case hq788 => exact fun _ _ _ h => h
                (simp only [Act.put, List.setIfInBounds_toArray, List.set_cons_zero, List.set_cons_succ])
                refine wpAnyH_take (i := 4) (oi := ?o789) (v := ?v789) ?hi789 (by kernel_rfl) (by kernel_rfl) (by kernel_rfl) ?hq789 ?hy789 (by assumption) ?hr789
                case hi789 => (simp only [List.getElem?_toArray, List.getElem?_cons_succ, List.getElem?_cons_zero]; rfl)
                case hy789 => ((refine .inl ⟨by rfl, ?_⟩); intro w hS; go_simp; (try with_reducible rfl))
                case hq789 => exact fun _ _ _ h => h
                (simp only [Act.put, List.setIfInBounds_toArray, List.set_cons_zero, List.set_cons_succ])
                refine wpAnyH_take (i := 5) (oi := ?o790) (v := ?v790) ?hi790 (by kernel_rfl) (by kernel_rfl) (by kernel_rfl) ?hq790 ?hy790 (by assumption) ?hr790
                case hi790 => (simp only [List.getElem?_toArray, List.getElem?_cons_succ, List.getElem?_cons_zero]; rfl)
                case hy790 => ((refine .inl ⟨by rfl, ?_⟩); intro w hS; go_simp; (try with_reducible rfl))
                case hq790 => exact fun _ _ _ h => h
                (simp only [Act.put, List.setIfInBounds_toArray, List.set_cons_zero, List.set_cons_succ])
                refine wpAnyH_ready (rs := [6]) (by kernel_rfl) (by simp) ?_
                refine AllReadyH.cons rfl (fun K hK => ?_) AllReadyH.nil
                go_simp
                go_wp2_with (((with_reducible refine (EQ1.out _ hHeld).mono ?_); rintro e w6 ⟨rfl, hb6⟩))
                refine hK.out _ _ (hHeld.trans (hb6.mono hHeld.size)) (fun hHeld1 => ?_)
                clear hK K
                (try simp only [Act.put, List.setIfInBounds_toArray, List.set_cons_zero, List.set_cons_succ])
                clear hb6
                clear hHeld; have hHeld := hHeld1; clear hHeld1
                refine wpAnyH_take (i := 7) (oi := ?o791) (v := ?v791) ?hi791 (by kernel_rfl) (by kernel_rfl) (by kernel_rfl) ?hq791 ?hy791 (by assumption) ?hr791
                case hi791 => (simp only [List.getElem?_toArray, List.getElem?_cons_succ, List.getElem?_cons_zero]; rfl)
                case hy791 => ((refine .inl ⟨by rfl, ?_⟩); intro w hS; go_simp; (try with_reducible rfl))
                case hq791 => exact fun _ _ _ h => h
                (simp only [Act.put, List.setIfInBounds_toArray, List.set_cons_zero, List.set_cons_succ])
                refine wpAnyH_take (i := 8) (oi := ?o792) (v := ?v792) ?hi792 (by kernel_rfl) (by kernel_rfl) (by kernel_rfl) ?hq792 ?hy792 (by assumption) ?hr792
                case hi792 => (simp only [List.getElem?_toArray, List.getElem?_cons_succ, List.getElem?_cons_zero]; rfl)
                case hy792 => ((refine .inl ⟨by rfl, ?_⟩); intro w hS; go_simp; (try with_reducible rfl))
                case hq792 => exact fun _ _ _ h => h
                (simp only [Act.put, List.setIfInBounds_toArray, List.set_cons_zero, List.set_cons_succ])
                refine wpAnyH_take (i := 9) (oi := ?o793) (v := ?v793) ?hi793 (by kernel_rfl) (by kernel_rfl) (by kernel_rfl) ?hq793 ?hy793 (by assumption) ?hr793
                case hi793 => (simp only [List.getElem?_toArray, List.getElem?_cons_succ, List.getElem?_cons_zero]; rfl)
                case hy793 => ((refine .inl ⟨by rfl, ?_⟩); intro w hS; go_simp; (try with_reducible rfl))
                case hq793 => exact fun _ _ _ h => h
                (simp only [Act.put, List.setIfInBounds_toArray, List.set_cons_zero, List.set_cons_succ])
                refine wpAnyH_take (i := 10) (oi := ?o794) (v := ?v794) ?hi794 (by kernel_rfl) (by kernel_rfl) (by kernel_rfl) ?hq794 ?hy794 (by assumption) ?hr794
                case hi794 => (simp only [List.getElem?_toArray, List.getElem?_cons_succ, List.getElem?_cons_zero]; rfl)
                case hy794 => ((refine .inl ⟨by rfl, ?_⟩); intro w hS; go_simp; (try with_reducible rfl))
                case hq794 => exact fun _ _ _ h => h
                (simp only [Act.put, List.setIfInBounds_toArray, List.set_cons_zero, List.set_cons_succ])
                refine wpAnyH_take (i := 11) (oi := ?o795) (v := ?v795) ?hi795 (by kernel_rfl) (by kernel_rfl) (by kernel_rfl) ?hq795 ?hy795 (by assumption) ?hr795
                case hi795 => (simp only [List.getElem?_toArray, List.getElem?_cons_succ, List.getElem?_cons_zero]; rfl)
                case hy795 => ((refine .inl ⟨by rfl, ?_⟩); intro w hS; go_simp; (try with_reducible rfl))
                case hq795 => exact fun _ _ _ h => h
                (simp only [Act.put, List.setIfInBounds_toArray, List.set_cons_zero, List.set_cons_succ])
                refine wpAnyH_ready (rs := [12]) (by kernel_rfl) (by simp) ?_
                refine AllReadyH.cons rfl (fun K hK => ?_) AllReadyH.nil
                go_simp
                go_wp2_with (((with_reducible refine (SW.out _ hHeld).mono ?_); rintro e w7 ⟨rfl, hb6⟩))
                refine hK.out _ _ (hHeld.trans (hb6.mono hHeld.size)) (fun hHeld1 => ?_)
                clear hK K
                (try simp only [Act.put, List.setIfInBounds_toArray, List.set_cons_zero, List.set_cons_succ])
                clear hb6
                clear hHeld; have hHeld := hHeld1; clear hHeld1
                refine wpAnyH_take (i := 13) (oi := ?o796) (v := ?v796) ?hi796 (by kernel_rfl) (by kernel_rfl) (by kernel_rfl) ?hq796 ?hy796 (by assumption) ?hr796
                case hi796 => (simp only [List.getElem?_toArray, List.getElem?_cons_succ, List.getElem?_cons_zero]; rfl)
                case hy796 => ((refine .inl ⟨by rfl, ?_⟩); intro w hS; go_simp; (try with_reducible rfl))
                case hq796 => exact fun _ _ _ h => h
                (simp only [Act.put, List.setIfInBounds_toArray, List.set_cons_zero, List.set_cons_succ])
                refine wpAnyH_take (i := 14) (oi := ?o797) (v := ?v797) ?hi797 (by kernel_rfl) (by kernel_rfl) (by kernel_rfl) ?hq797 ?hy797 (by assumption) ?hr797
                case hi797 => (simp only [List.getElem?_toArray, List.getElem?_cons_succ, List.getElem?_cons_zero]; rfl)
                case hy797 => ((refine .inl ⟨by rfl, ?_⟩); intro w hS; go_simp; (try with_reducible rfl))
                case hq797 => exact fun _ _ _ h => h
                (simp only [Act.put, List.setIfInBounds_toArray, List.set_cons_zero, List.set_cons_succ])
                refine wpAnyH_take (i := 15) (oi := ?o798) (v := ?v798) ?hi798 (by kernel_rfl) (by kernel_rfl) (by kernel_rfl) ?hq798 ?hy798 (by assumption) ?hr798
                case hi798 => (simp only [List.getElem?_toArray, List.getElem?_cons_succ, List.getElem?_cons_zero]; rfl)
                case hy798 => ((refine .inl ⟨by rfl, ?_⟩); intro w hS; go_simp; (try with_reducible rfl))
                case hq798 => exact fun _ _ _ h => h
                (simp only [Act.put, List.setIfInBounds_toArray, List.set_cons_zero, List.set_cons_succ])
                refine wpAnyH_take (i := 16) (oi := ?o799) (v := ?v799) ?hi799 (by kernel_rfl) (by kernel_rfl) (by kernel_rfl) ?hq799 ?hy799 (by assumption) ?hr799
                case hi799 => (simp only [List.getElem?_toArray, List.getElem?_cons_succ, List.getElem?_cons_zero]; rfl)
                case hy799 => ((refine .inl ⟨by rfl, ?_⟩); intro w hS; go_simp; (try with_reducible rfl))
                case hq799 => exact fun _ _ _ h => h
                (simp only [Act.put, List.setIfInBounds_toArray, List.set_cons_zero, List.set_cons_succ])
                refine wpAnyH_take (i := 18) (oi := ?o800) (v := ?v800) ?hi800 (by kernel_rfl) (by kernel_rfl) (by kernel_rfl) ?hq800 ?hy800 (by assumption) ?hr800
                case hi800 => (simp only [List.getElem?_toArray, List.getElem?_cons_succ, List.getElem?_cons_zero]; rfl)
                case hy800 => ((refine .inl ⟨by rfl, ?_⟩); intro w hS; go_simp; (try with_reducible rfl))
                case hq800 => exact fun _ _ _ h => h
                (simp only [Act.put, List.setIfInBounds_toArray, List.set_cons_zero, List.set_cons_succ])
                refine wpAnyH_take (i := 19) (oi := ?o801) (v := ?v801) ?hi801 (by kernel_rfl) (by kernel_rfl) (by kernel_rfl) ?hq801 ?hy801 (by assumption) ?hr801
                case hi801 => (simp only [List.getElem?_toArray, List.getElem?_cons_succ, List.getElem?_cons_zero]; rfl)
                case hy801 => ((refine .inl ⟨by rfl, ?_⟩); intro w hS; have qr := (HRR5.out.below hS HRR5.out.lt).cell; go_simp; (try with_reducible rfl))
                case hq801 => exact fun _ _ _ h => h
                (simp only [Act.put, List.setIfInBounds_toArray, List.set_cons_zero, List.set_cons_succ])
                refine wpAnyH_ready (rs := [17]) (by kernel_rfl) (by simp) ?_
                refine AllReadyH.cons rfl (fun K hK => ?_) AllReadyH.nil
                go_simp
                go_wp2_with (((with_reducible refine (BS.out _ hHeld).mono ?_); rintro e w8 ⟨rfl, rfl⟩))
                refine hK.out _ _ (hHeld) (fun hHeld1 => ?_)
                clear hK K
                (try simp only [Act.put, List.setIfInBounds_toArray, List.set_cons_zero, List.set_cons_succ])
                clear hHeld; have hHeld := hHeld1; clear hHeld1
                refine wpAnyH_take (i := 20) (oi := ?o802) (v := ?v802) ?hi802 (by kernel_rfl) (by kernel_rfl) (by kernel_rfl) ?hq802 ?hy802 (by assumption) ?hr802
                case hi802 => (simp only [List.getElem?_toArray, List.getElem?_cons_succ, List.getElem?_cons_zero]; rfl)
                case hy802 => ((refine .inl ⟨by rfl, ?_⟩); intro w hS; go_simp; (try with_reducible rfl))
                case hq802 => exact fun _ _ _ h => h
                (simp only [Act.put, List.setIfInBounds_toArray, List.set_cons_zero, List.set_cons_succ])
                refine wpAnyH_take (i := 21) (oi := ?o803) (v := ?v803) ?hi803 (by kernel_rfl) (by kernel_rfl) (by kernel_rfl) ?hq803 ?hy803 (by assumption) ?hr803
                case hi803 => (simp only [List.getElem?_toArray, List.getElem?_cons_succ, List.getElem?_cons_zero]; rfl)
                case hy803 => ((refine .inl ⟨by rfl, ?_⟩); intro w hS; go_simp; (try with_reducible rfl))
                case hq803 => exact fun _ _ _ h => h
                (simp only [Act.put, List.setIfInBounds_toArray, List.set_cons_zero, List.set_cons_succ])
                refine wpAnyH_take (i := 22) (oi := ?o804) (v := ?v804) ?hi804 (by kernel_rfl) (by kernel_rfl) (by kernel_rfl) ?hq804 ?hy804 (by assumption) ?hr804
                case hi804 => (simp only [List.getElem?_toArray, List.getElem?_cons_succ, List.getElem?_cons_zero]; rfl)
                case hy804 => ((refine .inl ⟨by rfl, ?_⟩); intro w hS; go_simp; (try with_reducible rfl))
                case hq804 => exact fun _ _ _ h => h
                (simp only [Act.put, List.setIfInBounds_toArray, List.set_cons_zero, List.set_cons_succ])
                refine wpAnyH_take (i := 23) (oi := ?o805) (v := ?v805) ?hi805 (by kernel_rfl) (by kernel_rfl) (by kernel_rfl) ?hq805 ?hy805 (by assumption) ?hr805
                case hi805 => (simp only [List.getElem?_toArray, List.getElem?_cons_succ, List.getElem?_cons_zero]; rfl)
                case hy805 => ((refine .inl ⟨by rfl, ?_⟩); intro w hS; go_simp; (try with_reducible rfl))
                case hq805 => exact fun _ _ _ h => h
                (simp only [Act.put, List.setIfInBounds_toArray, List.set_cons_zero, List.set_cons_succ])
                refine wpAnyH_take (i := 25) (oi := ?o806) (v := ?v806) ?hi806 (by kernel_rfl) (by kernel_rfl) (by kernel_rfl) ?hq806 ?hy806 (by assumption) ?hr806
                case hi806 => (simp only [List.getElem?_toArray, List.getElem?_cons_succ, List.getElem?_cons_zero]; rfl)
                case hy806 => ((refine .inl ⟨by rfl, ?_⟩); intro w hS; have qr := (HRR5.out.below hS HRR5.out.lt).cell; go_simp; (try with_reducible rfl))
                case hq806 => exact fun _ _ _ h => h
                (simp only [Act.put, List.setIfInBounds_toArray, List.set_cons_zero, List.set_cons_succ])
                refine wpAnyH_ready (rs := [24]) (by kernel_rfl) (by simp) ?_
                refine AllReadyH.cons rfl (fun K hK => ?_) AllReadyH.nil
                go_simp
                go_wp2_with (((with_reducible refine (OP.out _ hHeld).mono ?_); rintro e w9 ⟨hb6, Ao, co, rfl, hown⟩))
                refine hK.out _ _ (hHeld.trans (hb6.mono hHeld.size)) (fun hHeld1 => ?_)
                clear hK K
                (try simp only [Act.put, List.setIfInBounds_toArray, List.set_cons_zero, List.set_cons_succ])
                have HOW := Lib.hid hown
                clear hb6 hown
                clear hHeld; have hHeld := hHeld1; clear hHeld1
                refine wpAnyH_ready (rs := [26]) (by kernel_rfl) (by simp) ?_
                refine AllReadyH.cons rfl (fun K hK => ?_) AllReadyH.nil
                go_simp
                go_wp2_with (((with_reducible refine (RO.out _ hHeld).mono ?_); rintro e w10 ⟨hb6, Ao2, co2, rfl, hown⟩))
                refine hK.out _ _ (hHeld.trans (hb6.mono hHeld.size)) (fun hHeld1 => ?_)
                clear hK K
                (try simp only [Act.put, List.setIfInBounds_toArray, List.set_cons_zero, List.set_cons_succ])
                have HOW1 := Lib.hid (SlAt.of_own' (own_all HOW.out hb6) (Nat.le_refl _))
                have HOW2 := Lib.hid (SlAt.of_own' hown (Nat.le_refl _))
                clear hb6 hown
                clear hHeld; have hHeld := hHeld1; clear hHeld1
                refine wpAnyH_ready (rs := [27]) (by kernel_rfl) (by simp) ?_
                refine AllReadyH.cons rfl (fun K hK => ?_) AllReadyH.nil
                go_simp
                go_wp2_with (((with_reducible refine (eqints_same Ao Ao2 co co2 O _ HOW1.out HOW2.out (by have := HOL.out; omega)).mono ?_); rintro e w11 ⟨rfl, hb6⟩))
                refine hK.out _ _ (hHeld.trans (hb6.mono hHeld.size)) (fun hHeld1 => ?_)
                clear hK K
                (try simp only [Act.put, List.setIfInBounds_toArray, List.set_cons_zero, List.set_cons_succ])
                clear hb6
                clear hHeld; have hHeld := hHeld1; clear hHeld1
                refine wpAnyH_take (i := 28) (oi := ?o807) (v := ?v807) ?hi807 (by kernel_rfl) (by kernel_rfl) (by kernel_rfl) ?hq807 ?hy807 (by assumption) ?hr807
                case hi807 => (simp only [List.getElem?_toArray, List.getElem?_cons_succ, List.getElem?_cons_zero]; rfl)
                case hy807 => ((refine .inl ⟨by rfl, ?_⟩); intro w hS; go_simp; (try with_reducible rfl))
                case hq807 => exact fun _ _ _ h => h
                (simp only [Act.put, List.setIfInBounds_toArray, List.set_cons_zero, List.set_cons_succ])
                refine wpAnyH_take (i := 29) (oi := ?o808) (v := ?v808) ?hi808 (by kernel_rfl) (by kernel_rfl) (by kernel_rfl) ?hq808 ?hy808 (by assumption) ?hr808
                case hi808 => (simp only [List.getElem?_toArray, List.getElem?_cons_succ, List.getElem?_cons_zero]; rfl)
                case hy808 => ((refine .inl ⟨by rfl, ?_⟩); intro w hS; go_simp; (try with_reducible rfl))
                case hq808 => exact fun _ _ _ h => h
                (simp only [Act.put, List.setIfInBounds_toArray, List.set_cons_zero, List.set_cons_succ])
                refine wpAnyH_take (i := 30) (oi := ?o809) (v := ?v809) ?hi809 (by kernel_rfl) (by kernel_rfl) (by kernel_rfl) ?hq809 ?hy809 (by assumption) ?hr809
                case hi809 => (simp only [List.getElem?_toArray, List.getElem?_cons_succ, List.getElem?_cons_zero]; rfl)
                case hy809 => ((refine .inl ⟨by rfl, ?_⟩); intro w hS; go_simp; (try with_reducible rfl))
                case hq809 => exact fun _ _ _ h => h
                (simp only [Act.put, List.setIfInBounds_toArray, List.set_cons_zero, List.set_cons_succ])
                refine wpAnyH_take (i := 31) (oi := ?o810) (v := ?v810) ?hi810 (by kernel_rfl) (by kernel_rfl) (by kernel_rfl) ?hq810 ?hy810 (by assumption) ?hr810
                case hi810 => (simp only [List.getElem?_toArray, List.getElem?_cons_succ, List.getElem?_cons_zero]; rfl)
                case hy810 => ((refine .inl ⟨by rfl, ?_⟩); intro w hS; go_simp; (try with_reducible rfl))
                case hq810 => exact fun _ _ _ h => h
                (simp only [Act.put, List.setIfInBounds_toArray, List.set_cons_zero, List.set_cons_succ])
                refine wpAnyH_take (i := 33) (oi := ?o811) (v := ?v811) ?hi811 (by kernel_rfl) (by kernel_rfl) (by kernel_rfl) ?hq811 ?hy811 (by assumption) ?hr811
                case hi811 => (simp only [List.getElem?_toArray, List.getElem?_cons_succ, List.getElem?_cons_zero]; rfl)
                case hy811 => ((refine .inl ⟨by rfl, ?_⟩); intro w hS; have qr := (HRR5.out.below hS HRR5.out.lt).cell; go_simp; (try with_reducible rfl))
                case hq811 => exact fun _ _ _ h => h
                (simp only [Act.put, List.setIfInBounds_toArray, List.set_cons_zero, List.set_cons_succ])
                refine wpAnyH_ready (rs := [32]) (by kernel_rfl) (by simp) ?_
                refine AllReadyH.cons rfl (fun K hK => ?_) AllReadyH.nil
                go_simp
                go_wp2_with (((with_reducible refine (CT.out _ hHeld).mono ?_); rintro e w12 ⟨rfl, rfl⟩))
                refine hK.out _ _ (hHeld) (fun hHeld1 => ?_)
                clear hK K
                (try simp only [Act.put, List.setIfInBounds_toArray, List.set_cons_zero, List.set_cons_succ])
                clear hHeld; have hHeld := hHeld1; clear hHeld1
                refine wpAnyH_ready (rs := [34]) (by kernel_rfl) (by simp) ?_
                refine AllReadyH.cons rfl (fun K hK => ?_) AllReadyH.nil
                go_simp
                go_wp2_with (((with_reducible refine (RC.out _ hHeld).mono ?_); rintro e w13 ⟨rfl, hb6⟩))
                refine hK.out _ _ (hHeld.trans (hb6.mono hHeld.size)) (fun hHeld1 => ?_)
                clear hK K
                (try simp only [Act.put, List.setIfInBounds_toArray, List.set_cons_zero, List.set_cons_succ])
                clear hb6
                clear hHeld; have hHeld := hHeld1; clear hHeld1
                refine wpAnyH_take (i := 35) (oi := ?o812) (v := ?v812) ?hi812 (by kernel_rfl) (by kernel_rfl) (by kernel_rfl) ?hq812 ?hy812 (by assumption) ?hr812
                case hi812 => (simp only [List.getElem?_toArray, List.getElem?_cons_succ, List.getElem?_cons_zero]; rfl)
                case hy812 => ((refine .inl ⟨by rfl, ?_⟩); intro w hS; go_simp; (try with_reducible rfl))
                case hq812 => exact fun _ _ _ h => h
                (simp only [Act.put, List.setIfInBounds_toArray, List.set_cons_zero, List.set_cons_succ])
                refine wpAnyH_take (i := 36) (oi := ?o813) (v := ?v813) ?hi813 (by kernel_rfl) (by kernel_rfl) (by kernel_rfl) ?hq813 ?hy813 (by assumption) ?hr813
                case hi813 => (simp only [List.getElem?_toArray, List.getElem?_cons_succ, List.getElem?_cons_zero]; rfl)
                case hy813 => ((refine .inl ⟨by rfl, ?_⟩); intro w hS; go_simp; (try with_reducible rfl))
                case hq813 => exact fun _ _ _ h => h
                (simp only [Act.put, List.setIfInBounds_toArray, List.set_cons_zero, List.set_cons_succ])
                refine wpAnyH_take (i := 37) (oi := ?o814) (v := ?v814) ?hi814 (by kernel_rfl) (by kernel_rfl) (by kernel_rfl) ?hq814 ?hy814 (by assumption) ?hr814
                case hi814 => (simp only [List.getElem?_toArray, List.getElem?_cons_succ, List.getElem?_cons_zero]; rfl)
                case hy814 => ((refine .inl ⟨by rfl, ?_⟩); intro w hS; go_simp; (try with_reducible rfl))
                case hq814 => exact fun _ _ _ h => h
                (simp only [Act.put, List.setIfInBounds_toArray, List.set_cons_zero, List.set_cons_succ])
                refine wpAnyH_take (i := 38) (oi := ?o815) (v := ?v815) ?hi815 (by kernel_rfl) (by kernel_rfl) (by kernel_rfl) ?hq815 ?hy815 (by assumption) ?hr815
                case hi815 => (simp only [List.getElem?_toArray, List.getElem?_cons_succ, List.getElem?_cons_zero]; rfl)
                case hy815 => ((refine .inl ⟨by rfl, ?_⟩); intro w hS; go_simp; (try with_reducible rfl))
                case hq815 => exact fun _ _ _ h => h
                (simp only [Act.put, List.setIfInBounds_toArray, List.set_cons_zero, List.set_cons_succ])
                refine wpAnyH_take (i := 39) (oi := ?o816) (v := ?v816) ?hi816 (by kernel_rfl) (by kernel_rfl) (by kernel_rfl) ?hq816 ?hy816 (by assumption) ?hr816
                case hi816 => (simp only [List.getElem?_toArray, List.getElem?_cons_succ, List.getElem?_cons_zero]; rfl)
                case hy816 => ((refine .inl ⟨by rfl, ?_⟩); intro w hS; go_simp; (try with_reducible rfl))
                case hq816 => exact fun _ _ _ h => h
                (simp only [Act.put, List.setIfInBounds_toArray, List.set_cons_zero, List.set_cons_succ])
                refine wpAnyH_take (i := 40) (oi := ?o817) (v := ?v817) ?hi817 (by kernel_rfl) (by kernel_rfl) (by kernel_rfl) ?hq817 ?hy817 (by assumption) ?hr817
                case hi817 => (simp only [List.getElem?_toArray, List.getElem?_cons_succ, List.getElem?_cons_zero]; rfl)
                case hy817 => ((refine .inl ⟨by rfl, ?_⟩); intro w hS; go_simp; (try with_reducible rfl))
                case hq817 => exact fun _ _ _ h => h
                (simp only [Act.put, List.setIfInBounds_toArray, List.set_cons_zero, List.set_cons_succ])
                refine wpAnyH_take (i := 41) (oi := ?o818) (v := ?v818) ?hi818 (by kernel_rfl) (by kernel_rfl) (by kernel_rfl) ?hq818 ?hy818 (by assumption) ?hr818
                case hi818 => (simp only [List.getElem?_toArray, List.getElem?_cons_succ, List.getElem?_cons_zero]; rfl)
                case hy818 => ((refine .inl ⟨by rfl, ?_⟩); intro w hS; go_simp; (try with_reducible rfl))
                case hq818 => exact fun _ _ _ h => h
                (simp only [Act.put, List.setIfInBounds_toArray, List.set_cons_zero, List.set_cons_succ])
                refine wpAnyH_take (i := 42) (oi := ?o819) (v := ?v819) ?hi819 (by kernel_rfl) (by kernel_rfl) (by kernel_rfl) ?hq819 ?hy819 (by assumption) ?hr819
                case hi819 => (simp only [List.getElem?_toArray, List.getElem?_cons_succ, List.getElem?_cons_zero]; rfl)
                case hy819 => ((refine .inl ⟨by rfl, ?_⟩); intro w hS; go_simp; (try with_reducible rfl))
                case hq819 => exact fun _ _ _ h => h
                (simp only [Act.put, List.setIfInBounds_toArray, List.set_cons_zero, List.set_cons_succ])
                refine wpAnyH_take (i := 43) (oi := ?o820) (v := ?v820) ?hi820 (by kernel_rfl) (by kernel_rfl) (by kernel_rfl) ?hq820 ?hy820 (by assumption) ?hr820
                case hi820 => (simp only [List.getElem?_toArray, List.getElem?_cons_succ, List.getElem?_cons_zero]; rfl)
                case hy820 => ((refine .inl ⟨by rfl, ?_⟩); intro w hS; go_simp; (try with_reducible rfl))
                case hq820 => exact fun _ _ _ h => h
                (simp only [Act.put, List.setIfInBounds_toArray, List.set_cons_zero, List.set_cons_succ])
                refine wpAnyH_take (i := 44) (oi := ?o821) (v := ?v821) ?hi821 (by kernel_rfl) (by kernel_rfl) (by kernel_rfl) ?hq821 ?hy821 (by assumption) ?hr821
                case hi821 => (simp only [List.getElem?_toArray, List.getElem?_cons_succ, List.getElem?_cons_zero]; rfl)
                case hy821 => ((refine .inl ⟨by rfl, ?_⟩); intro w hS; go_simp; (try with_reducible rfl))
                case hq821 => exact fun _ _ _ h => h
                (simp only [Act.put, List.setIfInBounds_toArray, List.set_cons_zero, List.set_cons_succ])
                refine wpAnyH_take (i := 45) (oi := ?o822) (v := ?v822) ?hi822 (by kernel_rfl) (by kernel_rfl) (by kernel_rfl) ?hq822 ?hy822 (by assumption) ?hr822
                case hi822 => (simp only [List.getElem?_toArray, List.getElem?_cons_succ, List.getElem?_cons_zero]; rfl)
                case hy822 => ((refine .inl ⟨by rfl, ?_⟩); intro w hS; go_simp; (try with_reducible rfl))
                case hq822 => exact fun _ _ _ h => h
                (simp only [Act.put, List.setIfInBounds_toArray, List.set_cons_zero, List.set_cons_succ])
                refine wpAnyH_take (i := 46) (oi := ?o823) (v := ?v823) ?hi823 (by kernel_rfl) (by kernel_rfl) (by kernel_rfl) ?hq823 ?hy823 (by assumption) ?hr823
                case hi823 => (simp only [List.getElem?_toArray, List.getElem?_cons_succ, List.getElem?_cons_zero]; rfl)
                case hy823 => ((refine .inl ⟨by rfl, ?_⟩); intro w hS; go_simp; (try with_reducible rfl))
                case hq823 => exact fun _ _ _ h => h
                (simp only [Act.put, List.setIfInBounds_toArray, List.set_cons_zero, List.set_cons_succ])
                refine wpAnyH_done (by kernel_rfl) ?_ _
                go_wp2_with fail
                go_roundw
                case rel => first | exact ⟨k + 1, R.ba, R.l, A2, c2, by omega, by go_num, HC5.out.below hHeld, HWK2.out⟩ | ((repeat apply Exists.intro); exact ⟨⟨k + 1, R.ba, R.l, A2, c2, by omega, by simp, HC5.out.below hHeld, HWK2.out⟩, rfl⟩)
                case measure => simp [intOf]; omega
          · obtain rfl : k = n := by omega
            have hge : ¬ (k : Int) < (k : Int) := by omega
            go_wp2_with fail
            go_ret
            exact ⟨rfl, HCS.out.bel⟩
    · have HNR2 : Hid (∀ w', Calls Try.prog 43 #[.int .i64 s, .int .i64 x] w' fun e w'' => e = .returned (.tuple #[.agg #[.int .i64 0, .int .i64 0, .slice none 0 0], .int .i64 (newE s x)]) ∧ Below w'.heap.size w' w'') := Lib.hid (fun w' => (HNR.out w').mono (by
        rintro e w'' ⟨hb, (⟨_, rfl⟩ | ⟨h1, _⟩)⟩
        · exact ⟨rfl, hb⟩
        · exact absurd h1 hE))
      have HPN := Lib.hid (fun w' => new_no s x w' hE)
      have hEB : (newE s x != 0) = true := by rw [bne_iff_ne]; exact hE
      generalize newE s x = E at *
      clear hE HNR
      go_enter Try.func10, Try.ntmps10
      go_wp2_with fail
      refine (awake_any _).mono ?_
      rintro e w1 ⟨rfl, hb1⟩
      go_wp2_with fail
      refine (FW.out _ hb1).mono ?_
      rintro e w1 ⟨rfl, rfl⟩
      go_wp2_with fail
      refine (HPN.out _).mono ?_
      rintro e w2 ⟨rfl, hb2⟩
      have HB2 := Lib.hid (hb1.trans (hb2.mono hb1.size))
      clear hb1 hb2 HPN FW
      go_wp2_with fail
      refine (HNR2.out _).mono ?_
      rintro e w3 ⟨rfl, hb3⟩
      have HB3 := Lib.hid (HB2.out.trans (hb3.mono HB2.out.size))
      clear hb3 HNR2
      go_wp2_with fail
      refine (HUP.out _).mono ?_
      rintro e w4 ⟨rfl, rfl⟩
      go_wp2_with fail
      refine (HUR.out _).mono ?_
      rintro e w4 ⟨rfl, rfl⟩
      go_wp2_with fail
      go_ret
      exact ⟨rfl, HB3.out.alloc HB3.out.size _⟩
end Go.Proofs.Ytdmdfpdigoijoaa

/-
  Chapter 52: an argument of type []masterdiscref52.Act, opened to the list of its acts, with the bulk of its strings.
-/
namespace Go.Proofs.Ytdmdfpdigoijoaa
open Go.ChangeShapes Go.WideShapes Go.ChangeAt Go.RowKit Go.Deep
set_option linter.unusedVariables false

theorem bulk_sum {H α : Type} {μ : α → Nat} : ∀ (xs : List α) (ds : List (DataW H)), xs.length = ds.length → (∀ (i : Nat) (x : α) (d : DataW H), xs[i]? = some x → ds[i]? = some d → μ x ≤ Rows.uptoBulk d) → (xs.map μ).sum ≤ Rows.uptoBulkAll ds
  | [], [], _, _ => by simp [Rows.uptoBulkAll]
  | [], _ :: _, h, _ => by cases h
  | _ :: _, [], h, _ => by cases h
  | x :: xs, d :: ds, h, hx => by
    have h1 := bulk_sum xs ds (by simpa using h) (fun i y e hy he => hx (i + 1) y e (by simpa using hy) (by simpa using he))
    have h0 := hx 0 x d rfl rfl
    simp only [List.map_cons, List.sum_cons, Rows.uptoBulkAll]
    omega
section
variable {H : Type} {enc : TypeId × Value → H} {P : Program} {w : World} {base : Nat} {spare : Nat → Bool} {held : Bool}
theorem open_listB {α : Type} [Inhabited α] {encA : α → List Value} {Good : α → Prop} (μ : α → Nat) {k : Nat} (hk : ∀ x, (encA x).length = k) (hk0 : 0 < k) {t e : TypeId} {fuel : Nat} {y : DataW H × List MemPlace} {a : Option Addr} {len cap : Nat}
    (ht : P.underlying t = some (.slice e)) (hC : P.cellsOf e = k) (el : ∀ n cs y, cs.length = k → DataW.trod enc P w base spare held n e cs = some y → ∃ x, cs = encA x ∧ Good x ∧ μ x ≤ Rows.uptoBulk y.1)
    (h : DataW.trod enc P w base spare held fuel t [.slice a len cap] = some y) : ∃ xs, IsL encA Good w a len cap xs ∧ (xs.map μ).sum ≤ Rows.uptoBulk y.1 := by
  rcases DataW.trod_slice ht h with ⟨hc, rfl⟩ | ⟨ad, l, c, elems, rest, n, _, hc, rfl, hb, hl, hm, hel, hx, _, _⟩
  · injection hc with hc _
    injection hc with h1 h2 h3
    subst h1 h2 h3
    exact ⟨[], ⟨rfl, Nat.le_refl _, by unfold maxLen; omega, SlAt.nil _ _ _, fun x hx => (List.not_mem_nil hx).elim⟩, Nat.zero_le _⟩
  · injection hc with hc _
    injection hc with h1 h2 h3
    subst h1 h2 h3
    rw [hC] at hx
    obtain ⟨V, hV⟩ := choose_lt (α := α) (n := len) (p := fun i x => w.cells? base (ad.add (i * k)) k = some (encA x) ∧ Good x ∧ ∀ d, elems[i]? = some d → μ x ≤ Rows.uptoBulk d.1) (fun i hi => by
      have h0 := hx i hi
      rw [List.getElem?_eq_getElem (by omega), Option.bind_eq_some_iff] at h0
      obtain ⟨cs', h1, h2⟩ := h0
      obtain ⟨_, hlen, _⟩ := World.cells?_some h1
      obtain ⟨x, rfl, hg, hmu⟩ := el _ _ _ hlen h2
      exact ⟨x, h1, hg, fun d hd => by
        rw [List.getElem?_eq_getElem (by omega)] at hd
        injection hd with hd
        rw [← hd]
        exact hmu⟩)
    have hVl : ((List.range len).map V).length = len := by simp
    have hcell : ∀ j u, (flat encA ((List.range len).map V))[j]? = some u → w.cell? (ad.add j) = some u := by
      intro j u hu
      obtain ⟨i, r, x, rfl, hr, hi, hu'⟩ := flat_get_inv hk hk0 hu
      have hil : i < len := by have := (List.getElem?_eq_some_iff.1 hi).1; rwa [hVl] at this
      have hix : V i = x := by simpa [hil] using hi
      obtain ⟨_, _, hat⟩ := World.cells?_some (hV i hil).1
      rw [← Go.Deep.add_add, hat r hr, hix]
      exact hu'
    refine ⟨(List.range len).map V, ⟨hVl, hl, hm, ?_, ?_⟩, ?_⟩
    · by_cases h0 : 0 < len
      · have hp : 0 < (flat encA ((List.range len).map V)).length := by
          rw [flat_length hk, hVl]
          exact Nat.mul_pos h0 hk0
        have hbk : ad.block < w.heap.size := by
          have h6 := hcell 0 _ (List.getElem?_eq_getElem hp)
          have h7 := World.block_lt_of_cell? _ _ h6
          rwa [show (ad.add 0).block = ad.block by simp [Addr.add]] at h7
        exact SlAt.of_cells hbk hcell hp
      · have : (List.range len).map V = [] := List.eq_nil_of_length_eq_zero (by rw [hVl]; omega)
        rw [this]
        exact SlAt.nil _ _ _
    · intro x hx
      obtain ⟨i, hi⟩ := List.getElem?_of_mem hx
      have hil : i < len := by have := (List.getElem?_eq_some_iff.1 hi).1; rwa [hVl] at this
      have hix : V i = x := by simpa [hil] using hi
      rw [← hix]
      exact (hV i hil).2.1
    · have hs := bulk_sum (H := H) (μ := μ) ((List.range len).map V) (elems.map (·.1)) (by simp [hel]) (fun i x d hi hd => by
        have hil : i < len := by have := (List.getElem?_eq_some_iff.1 hi).1; rwa [hVl] at this
        have hix : V i = x := by simpa [hil] using hi
        rw [List.getElem?_map] at hd
        obtain ⟨d', hd1, hd2⟩ := Option.map_eq_some_iff.1 hd
        rw [← hix, ← hd2]
        exact (hV i hil).2.2 d' hd1)
      simp only [Rows.uptoBulk]
      omega
theorem open_strsB {t e : TypeId} {fuel : Nat} {y : DataW H × List MemPlace} {a : Option Addr} {len cap : Nat} (ht : P.underlying t = some (.slice e)) (he : P.underlying e = some .string) (hC : P.cellsOf e = 1)
    (h : DataW.trod enc P w base spare held fuel t [.slice a len cap] = some y) : ∃ xs, IsL (fun s => [Value.string s]) (fun s => s.size ≤ maxLen) w a len cap xs ∧ (xs.map (fun s : ByteArray => s.size)).sum ≤ Rows.uptoBulk y.1 :=
  open_listB (α := ByteArray) (encA := fun s => [Value.string s]) (Good := fun s => s.size ≤ maxLen) (fun s => s.size) (k := 1) (fun _ => rfl) (by decide) ht hC (fun n cs y hl hy => by
    obtain ⟨s, rfl, rfl, hw⟩ := DataW.trod_string he hy
    refine ⟨s, rfl, hw, ?_⟩
    simp only [Rows.uptoBulk]
    have : s.data.toList.length = s.size := Array.length_toList
    omega) h
end
theorem joinB_size (bl : List ByteArray) : (joinB bl).size = (bl.map (fun s : ByteArray => s.size)).sum := by
  show ((bl.map (·.data.toList)).flatten).toArray.size = _
  rw [List.size_toArray, List.length_flatten, List.map_map]
  rfl
instance : Inhabited Ac := ⟨⟨0, 0, none, 0, []⟩⟩
def AcG (w : World) (x : Ac) : Prop := SlAt w w.heap.size x.A (strV x.bl) ∧ x.bl.length ≤ x.cap ∧ x.cap ≤ maxLen
section
variable {H : Type} {enc : TypeId × Value → H} {w : World} {base : Nat} {spare : Nat → Bool} {held : Bool}
set_option maxRecDepth 100000 in
theorem open_act {n : Nat} {cs : List Value} {y : DataW H × List MemPlace} (hl : cs.length = 3) (h : DataW.trod enc Try.prog w base spare held n 80 cs = some y) : ∃ x, cs = encC x ∧ AcG w x ∧ (joinB x.bl).size ≤ Rows.uptoBulk y.1 := by
  have c3 : Try.prog.cellsOf 3 = 1 := by kernel_rfl
  have c5 : Try.prog.cellsOf 22 = 1 := by kernel_rfl
  match cs, hl with
  | [a0, a1, a2], _ =>
    obtain ⟨xs, n, _, hx, _, hlen, hg⟩ := DataW.trod_struct Try.underlying80 h
    match xs, hlen with
    | [y0, y1, y2], _ =>
      have g0 := hg 0 _ rfl
      have g1 := hg 1 _ rfl
      have g2 := hg 2 _ rfl
      simp [c3, c5] at g0 g1 g2
      obtain ⟨n0, e0, _, k0⟩ := DataW.trod_int Try.underlying3 g0
      obtain ⟨n1, e1, _, k1⟩ := DataW.trod_int Try.underlying3 g1
      simp at e0 e1
      subst e0 e1
      obtain ⟨A, l, c, rfl⟩ : ∃ A l c, a2 = .slice A l c := by
        rcases open_slice Try.underlying22 g2 with ⟨hc, _⟩ | ⟨ad, l, c, m, n, D, Pl, hc, _⟩
        · simp at hc; exact ⟨_, _, _, hc⟩
        · simp at hc; exact ⟨_, _, _, hc⟩
      obtain ⟨bl, hbl, hsum⟩ := open_strsB Try.underlying22 Try.underlying9 (by kernel_rfl) g2
      obtain ⟨h1, h2, h3, h4, _⟩ := hbl.strs
      subst h1
      refine ⟨⟨n0, n1, A, c, bl⟩, rfl, ⟨h4, h2, h3⟩, ?_⟩
      rw [joinB_size, hx]
      simp only [Rows.uptoBulk, Rows.uptoBulkAll, List.map_cons, List.map_nil]
      omega
theorem open_acts {fuel : Nat} {y : DataW H × List MemPlace} {a : Option Addr} {len cap : Nat} (h : DataW.trod enc Try.prog w base spare held fuel 72 [.slice a len cap] = some y) : ∃ xs, IsL encC (AcG w) w a len cap xs ∧ (xs.map (fun x : Ac => (joinB x.bl).size)).sum ≤ Rows.uptoBulk y.1 :=
  open_listB (α := Ac) (encA := encC) (Good := AcG w) (fun x => (joinB x.bl).size) (k := 3) encC_length (by decide) Try.underlying72 (by kernel_rfl) (fun n cs y hl hy => open_act hl hy) h
end
theorem le_sum {α : Type} {μ : α → Nat} : ∀ {xs : List α} {x : α}, x ∈ xs → μ x ≤ (xs.map μ).sum
  | y :: ys, x, h => by
    rw [List.map_cons, List.sum_cons]
    rcases List.mem_cons.1 h with rfl | h
    · omega
    · have := le_sum (μ := μ) h
      omega
theorem calls_law (s x lb : Int) (A : Option Addr) (len cap : Nat) (xs : List Ac) (w : World) (i0 : (Lit.int .i64 s).wf = true) (i1 : (Lit.int .i64 x).wf = true) (i3 : (Lit.int .i64 lb).wf = true)
    (h : IsL encC (AcG w) w A len cap xs) (hz : (xs.map (fun x : Ac => (joinB x.bl).size)).sum ≤ 1048576) :
    Calls Try.prog 10 #[.int .i64 s, .int .i64 x, .slice A len cap, .int .i64 lb] w fun e w' => e = .returned (.bool true) ∧ Below w.heap.size w w' := by
  obtain ⟨h1, h2, h3, h4, h5⟩ := h
  subst h1
  have hm : maxLen ≤ 9223372036854775807 := by unfold maxLen; decide
  refine calls_walk s x lb A cap xs w (by have := wf_i64 i0; omega) (by have := wf_i64 i1; omega) (by have := wf_i64 i3; omega) ⟨h4, h5⟩ (by omega) (fun a ha => ?_)
  have := le_sum (μ := fun x : Ac => (joinB x.bl).size) ha
  omega
end Go.Proofs.Ytdmdfpdigoijoaa
