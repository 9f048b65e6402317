/-
  The walk of the law PacketwriterTears.
-/
import Derived.Test.YtdmdfpdigoijoaaPwT1
import Derived.Carry
namespace Go.Proofs.Ytdmdfpdigoijoaa
open Go.RowKit Go.Maps
set_option linter.unusedVariables false

theorem keyed_int : Keyed Try.prog 3 := int_keyed Try.underlying3
theorem zero_str (w : World) : (zeroValue 9).run Try.prog w = .ok (.string ByteArray.empty) w := by kernel_rfl
theorem wf_small {n : Int} (h0 : 0 ≤ n) (h1 : n ≤ 1000000) : (Lit.int .i64 n).wf = true := by
  simp [Lit.wf, IntKind.min, IntKind.max, IntKind.signed, IntKind.bits]
  omega
theorem blk_len {b : ByteArray} (h : blkOk b = true) : b.size ≤ maxLen := by
  have := of_decide_eq_true h
  unfold maxLen
  omega
theorem wrOk_partsT {x : Wr} (h : wrOk x = true) : 0 ≤ x.pos ∧ x.pos + x.bl.length ≤ 4096 ∧ (x.close = true → x.bl.length = 0) := wrOk_parts h
theorem ownM_below {w w' : World} {b n B : Nat} {D : DataW Unit} (h : w.ownsMap Try.prog 3 (plainElem Try.prog 9) b n D) (hb : Below B w w') (hB : b < B) : w'.ownsMap Try.prog 3 (plainElem Try.prog 9) b n D := by
  obtain ⟨es, clock, h1, F, hs, hD⟩ := h
  exact ⟨es, clock, (hb.block b hB).trans h1, F, hs, hD⟩
theorem ownM_far {w w' : World} {b n : Nat} {D : DataW Unit} {r : Nat} (h : w.ownsMap Try.prog 3 (plainElem Try.prog 9) b n D) (hg : w.grownBy w' (some r)) (hne : b ≠ r) : w'.ownsMap Try.prog 3 (plainElem Try.prog 9) b n D := h.kept hg (fun e => hne (by injection e))

set_option maxRecDepth 100000 in
set_option maxHeartbeats 4000000 in
theorem tears_walk (A : Option Addr) (len cap : Nat) (img : List ByteArray) (A' : Option Addr) (len' cap' : Nat) (ws : List Wr) (n : Int) (w : World) (i0 : IsL (fun s => [Value.string s]) (fun s => s.size ≤ maxLen) w A len cap img) (i1 : IsL encW (WrG w) w A' len' cap' ws) (i2 : (Lit.int .i64 n).wf = true) :
    Calls Try.prog 5 #[.slice A len cap, .slice A' len' cap', .int .i64 n] w fun e w' => e = .returned (.bool true) ∧ Below w.heap.size w w' := by
  obtain ⟨rfl, _, _, hs, _⟩ := i0.strs
  obtain ⟨rfl, _, _, hw⟩ := i1.wrs
  have hmm := @run_makeMap Try.prog
  have HA : Hid (Arg w A A' img ws) := Lib.hid ⟨hs, hw⟩
  have CF := Lib.hid (fun w h => few_any A A' cap cap' img ws w h)
  have CV := Lib.hid (fun w s h gi gw gx => rvalid_any A A' cap cap' img ws w s h gi gw gx)
  have CS := Lib.hid (fun w h gw gx => rsteps_any A' cap' ws w h gw gx)
  have CC := Lib.hid (fun w s h gi gw gx gn => cut_any A A' cap cap' img ws n w s h gi gw gx gn)
  clear i0 i1 i2 hs hw
  obtain ⟨li, hli⟩ : ∃ li, img.length = li := ⟨_, rfl⟩
  obtain ⟨lw, hlw⟩ : ∃ lw, ws.length = lw := ⟨_, rfl⟩
  have HLI := Lib.hid hli
  have HLW := Lib.hid hlw
  rw [hli, hlw] at CF CV CC ⊢
  rw [hlw] at CS
  clear hli hlw
  go_enter Try.func5, Try.ntmps5
  go_wp2_with fail
  refine (awake_any _).mono ?_
  rintro e w0 ⟨rfl, hb0⟩
  have HA0 := Lib.hid (HA.out.below hb0)
  go_wp2_with fail
  refine (CF.out _ HA0.out.t).mono ?_
  rintro e w' ⟨rfl, rfl⟩
  cases hF : fewB img ws with
  | false =>
    clear hF
    go_wp2_with fail
    go_ret
    exact ⟨rfl, hb0⟩
  | true =>
  have HG := Lib.hid (few_of hF)
  have hli6 : li ≤ 600 := by rw [← HLI.out]; exact HG.out.i
  have hlw6 : lw ≤ 30 := by rw [← HLW.out]; exact HG.out.w
  clear hF
  go_wp2_with fail
  refine (CV.out _ HA0.out.s HA0.out.t (by omega) (by omega) HG.out.x6).mono ?_
  rintro e w1 ⟨rfl, hb1⟩
  have HA1 := Lib.hid (HA0.out.below hb1)
  have HW1 := Lib.hid (hb0.trans (hb1.mono hb0.size))
  clear hb0 hb1
  cases hV : validB img ws with
  | false =>
    clear hV
    go_wp2_with fail
    go_ret
    exact ⟨rfl, HW1.out⟩
  | true =>
  obtain ⟨v1, v2, v3, v4⟩ := valid_parts hV
  have HV := Lib.hid hV
  have HWO := Lib.hid v4
  have HOK := Lib.hid (steps_ok v4)
  clear hV v1 v2 v3 v4
  by_cases hn0 : n < 0
  · go_wp2_with fail
    go_ret
    exact ⟨rfl, HW1.out⟩
  · obtain ⟨N, rfl⟩ : ∃ N : Nat, n = N := ⟨n.toNat, by omega⟩
    go_wp2_with fail
    refine (CS.out _ HA1.out.t (by omega) HG.out.x4).mono ?_
    rintro e w' ⟨rfl, rfl⟩
    have hM := HG.out.n
    obtain ⟨M, hM2⟩ : ∃ M, nSt ws = M := ⟨_, rfl⟩
    have HM := Lib.hid hM2
    rw [hM2] at hM ⊢
    clear hM2 hn0
    by_cases hn1 : M < N
    · have hn1I : (M : Int) < (N : Int) := by omega
      go_wp2_with fail
      go_ret
      exact ⟨rfl, HW1.out⟩
    · have hn1I : ¬ (M : Int) < (N : Int) := by omega
      obtain ⟨steps, hst⟩ : ∃ s, stepsL ws = s := ⟨_, rfl⟩
      have HST := Lib.hid hst
      rw [hst] at HOK
      clear hst
      obtain ⟨b, hb⟩ : ∃ b, w1.heap.size = b := ⟨_, rfl⟩
      have HB := Lib.hid hb
      have hown0 : (w1.alloc (.map #[] 0)).ownsMap Try.prog 3 (plainElem (H := Unit) Try.prog 9) b 0 (.map []) := by rw [← hb]; exact World.ownsMap_made _ _ _ _
      have hbel0 : Below w1.heap.size w1 (w1.alloc (.map #[] 0)) := (Below.refl _ _).alloc (Nat.le_refl _) _
      have HOB := Lib.hid (And.intro hown0 hbel0)
      clear hb hown0 hbel0
      go_wp2_with fail
      rw [HB.out]
      go_loopw [8, 45] (fun st i wr => ∃ (j S cnt : Nat) (D : DataW Unit), Hid (S = nSt (ws.take j)) ∧ j ≤ lw ∧ S ≤ 1230 ∧ cnt ≤ S ∧ i = .int .i64 j ∧ st = .int .i64 S ∧ wr.ownsMap Try.prog 3 (plainElem Try.prog 9) b cnt D ∧ Hid (MapIs D N steps S) ∧ Below w1.heap.size w1 wr) (fun _ i _ => lw - (intOf i).toNat)
      case atStart => exact ⟨0, 0, 0, .map [], Lib.hid (by simp [nSt, stepsL]), Nat.zero_le _, by omega, Nat.le_refl _, rfl, rfl, HOB.out.1, Lib.hid (MapIs.start N steps), HOB.out.2⟩
      case round =>
        obtain ⟨j, S, cnt, D, HS, hj, hS, hcnt, rfl, rfl, hown, HD, hbel⟩ := hrel
        obtain ⟨wo, rfl⟩ : ∃ wo : World, wo = wr := ⟨_, rfl⟩
        by_cases hlt : j < lw
        · obtain ⟨x, hx⟩ : ∃ x, ws[j]? = some x := ⟨ws[j]'(by rw [HLW.out]; exact hlt), List.getElem?_eq_getElem _⟩
          have hAr := HA1.out.below hbel
          obtain ⟨bw, offw, hAw, hbw⟩ := hAr.t.one (by rw [HLW.out]; omega)
          subst hAw
          obtain ⟨p0, p1, p2, p3⟩ := hAr.t.cells rfl hx
          have hltI : (j : Int) < (lw : Int) := by omega
          have h0j : (0 : Int) ≤ (j : Int) := by omega
          have HX := Lib.hid hx
          have hxm := List.mem_of_getElem? hx
          obtain ⟨hw0, hw1, hw2⟩ := wrOk_partsT (List.all_eq_true.1 HWO.out x hxm)
          have hxl := HG.out.x x hxm
          have HBK : Hid (∀ s ∈ x.bl, s.size ≤ maxLen) := Lib.hid (fun s hs => blk_len (by
            have := List.all_eq_true.1 HWO.out x hxm
            unfold wrOk at this
            simp only [Bool.and_eq_true] at this
            exact List.all_eq_true.1 this.2.2.2.2 s hs))
          have HJT := Lib.hid (nSt_take hx)
          have HNL : Hid (nSt (ws.take (j + 1)) ≤ M) := Lib.hid (by rw [← HM.out]; exact nSt_le ws (j + 1))
          have HAT : Hid (∀ i, i < x.bl.length → steps[S + i]? = some ⟨wrap64 (x.pos + (i : Int)), x.bl[i]?.getD blankS, false⟩) := Lib.hid fun i hi => by rw [HS.out, ← HST.out]; exact steps_at hx hi
          have HCL : Hid (x.close = true → steps[S + x.bl.length]? = some ⟨0, blankS, true⟩) := Lib.hid fun hc => by rw [HS.out, ← HST.out]; exact steps_close hx hc
          have HBL : Hid (∀ w', WrAt w' w'.heap.size (some ⟨bw, offw, none⟩) ws → SlAt w' w'.heap.size x.A (strV x.bl)) := Lib.hid fun w' h => (h.2 x hxm).1
          have HOA := Lib.hid (And.intro (hown.alloc (.cells #[.int .i64 x.pos, .slice x.A x.bl.length x.cap, .bool x.sync, .bool x.close] 49)) (And.intro (hbel.alloc hbel.size (.cells #[.int .i64 x.pos, .slice x.A x.bl.length x.cap, .bool x.sync, .bool x.close] 49)) (RowAt.new wo 49 #[.int .i64 x.pos, .slice x.A x.bl.length x.cap, .bool x.sync, .bool x.close])))
          have hbwo : b < wo.heap.size := hown.lt
          clear hx hAr hxm hown hbel HOB
          obtain ⟨xp, xA, xc, xb, xs, xcl⟩ := x
          dsimp only at p0 p1 p2 p3 hw0 hw1 hw2 hxl HBK HJT HAT HCL HBL HOA
          obtain ⟨lb, hlb⟩ : ∃ lb, xb.length = lb := ⟨_, rfl⟩
          have HLB := Lib.hid hlb
          rw [hlb] at p1 hw1 hw2 hxl HJT HAT HCL HOA
          obtain ⟨gx, hgx⟩ : ∃ gx, wo.heap.size = gx := ⟨_, rfl⟩
          have HGX := Lib.hid hgx
          rw [hgx] at hbwo HOA
          clear hlb hgx
          cases xcl with
          | true =>
            obtain rfl : lb = 0 := by have := hw2 rfl; omega
            go_wp2_with fail
            rw [HGX.out]
            obtain ⟨ho1, hb1', hr1⟩ := HOA.out
            have HDS : Hid (MapIs D N steps (S + 1)) := Lib.hid (HD.out.skip (HCL.out (by first | rfl | trivial)) (.inl rfl))
            have HS1 : Hid (S + 1 = nSt (ws.take (j + 1))) := Lib.hid (by have := HJT.out; have := HS.out; simp at *; omega)
            have hS1 : S + 1 ≤ 1230 := by have := HNL.out; have := HS1.out; omega
            clear hr1
            refine wp_loop_rounds 1 ?_
            rw [rounds_succ]
            go_wp2_with fail
            go_roundw
            case rel => exact ⟨j + 1, S + 1, cnt, D, HS1, hlt, hS1, by omega, by go_num, by go_num, ho1, HDS, hb1'⟩
            case measure => simp [intOf]; omega
          | false =>
            go_wp2_with fail
            rw [HGX.out]
            obtain ⟨ho1, hb1', hr1⟩ := HOA.out
            have HST0 := Lib.hid (And.intro ho1 (And.intro hb1' hr1))
            clear ho1 hb1' hr1 HOA p0 p1 p2 p3
            go_loopw [8, 56] (fun st i w2 => ∃ (i2 T cnt2 : Nat) (D2 : DataW Unit), Hid (T = S + i2) ∧ i2 ≤ lb ∧ T ≤ S + 40 ∧ cnt2 ≤ T ∧ i = .int .i64 i2 ∧ st = .int .i64 T ∧ w2.ownsMap Try.prog 3 (plainElem Try.prog 9) b cnt2 D2 ∧ Hid (MapIs D2 N steps T) ∧ Below w1.heap.size w1 w2 ∧ RowAt w2 gx 49 #[.int .i64 xp, .slice xA lb xc, .bool xs, .bool false]) (fun _ i _ => lb - (intOf i).toNat)
            case atStart => exact ⟨0, S, cnt, D, Lib.hid rfl, Nat.zero_le _, by omega, hcnt, rfl, rfl, HST0.out.1, HD, HST0.out.2.1, HST0.out.2.2⟩
            case round =>
              clear HST0
              obtain ⟨i2, T, cnt2, D2, HT, hi2, hT, hcnt2, rfl, rfl, hown2, HD2, hbel2, hrow2⟩ := hrel
              by_cases hil : i2 < lb
              · obtain ⟨s, hs⟩ : ∃ s, xb[i2]? = some s := ⟨xb[i2]'(by rw [HLB.out]; exact hil), List.getElem?_eq_getElem _⟩
                have hSB := HBL.out _ (HA1.out.below hbel2).t
                obtain ⟨sb, soff, hsA, hsb⟩ := hSB.strAddr (by rw [HLB.out]; omega)
                subst hsA
                have hq := hSB.str rfl hs
                have hsz := HBK.out s (List.mem_of_getElem? hs)
                have HAS : Hid (steps[T]? = some ⟨xp + (i2 : Int), s, false⟩) := Lib.hid (by
                  have := HAT.out i2 hil
                  rw [hs, Option.getD_some, IntWalk.wrap64_in _ (by omega)] at this
                  rw [HT.out]
                  exact this)
                have hiI : (i2 : Int) < (lb : Int) := by omega
                have h0i : (0 : Int) ≤ (i2 : Int) := by omega
                have hkey : keyOf Try.prog 3 (.int .i64 (xp + (i2 : Int))) = some (.int .i64 (xp + (i2 : Int))) := keyOf_int_mk Try.underlying3 (wf_small (by omega) (by omega))
                have q2 := hrow2.cell
                have HT1 : Hid (T + 1 = S + (i2 + 1)) := Lib.hid (by have := HT.out; omega)
                clear hs hSB
                rcases Nat.lt_trichotomy T N with hTN | hTN | hTN
                · have hTI : (T : Int) < (N : Int) := by omega
                  have HP : Hid (MapIs (D2.put (.int .i64 (xp + (i2 : Int))) (.lit (.string s.data.toList))) N steps (T + 1)) := Lib.hid (by
                    have := HD2.out.put HAS.out rfl (by omega)
                    unfold tearV at this
                    rw [if_pos hTN] at this
                    exact this)
                  clear hTN
                  go_wp2_with (at_mapUpdate; refine wpList_mapUpdate_own _ rfl _ _ _ 47 rfl 3 9 keyed_int Try.underlying47 _ b cnt2 _ rfl hown2 (by unfold maxLen; omega) _ _ _ rfl rfl hkey _ [] (plainElem_string Try.underlying9 hsz) ?_; intro w3 hown3 hg3)
                  have ho3 := hown3
                  have hb3 := hbel2.grown hg3 hbel2.size (fun r hr => by injection hr with hr; subst hr; exact Nat.le_of_eq HB.out)
                  have hr3 := hrow2.grown hg3 (by intro e; injection e with e; omega)
                  clear hg3 hown3 q2
                  go_wp2_with fail
                  go_roundw
                  case rel => exact ⟨i2 + 1, T + 1, cnt2 + 1, _, HT1, hil, by have := HT1.out; omega, by omega, by go_num, by go_num, ho3, HP, hb3, hr3⟩
                  case measure => simp [intOf]; omega
                · have hTI : ¬ (T : Int) < (N : Int) := by omega
                  have HP : Hid (MapIs (D2.put (.int .i64 (xp + (i2 : Int))) (.lit (.string unrS.data.toList))) N steps (T + 1)) := Lib.hid (by
                    have := HD2.out.put HAS.out rfl (by omega)
                    unfold tearV at this
                    rw [if_neg (by omega)] at this
                    exact this)
                  have hTe : ((T : Int) == (N : Int)) = true := by rw [beq_iff_eq]; omega
                  have hTN2 : T = N := hTN
                  subst hTN2
                  go_wp2_with (at_mapUpdate; refine wpList_mapUpdate_own _ rfl _ _ _ 47 rfl 3 9 keyed_int Try.underlying47 _ b cnt2 _ rfl hown2 (by unfold maxLen; omega) _ _ _ rfl rfl hkey _ [] (plainElem_string Try.underlying9 (show (⟨#[33]⟩ : ByteArray).size ≤ maxLen by decide)) ?_; intro w3 hown3 hg3)
                  have ho3 := hown3
                  have hb3 := hbel2.grown hg3 hbel2.size (fun r hr => by injection hr with hr; subst hr; exact Nat.le_of_eq HB.out)
                  have hr3 := hrow2.grown hg3 (by intro e; injection e with e; omega)
                  clear hg3 hown3 q2
                  go_wp2_with fail
                  go_roundw
                  case rel => exact ⟨i2 + 1, T + 1, cnt2 + 1, _, HT1, hil, by have := HT1.out; omega, by omega, by go_num, by go_num, ho3, HP, hb3, hr3⟩
                  case measure => simp [intOf]; omega
                · have hTI : ¬ (T : Int) < (N : Int) := by omega
                  have hTne : ¬ ((T : Int) = (N : Int)) := by omega
                  have HP : Hid (MapIs D2 N steps (T + 1)) := Lib.hid (HD2.out.skip HAS.out (.inr hTN))
                  clear hTN
                  go_wp2_with fail
                  go_roundw
                  case rel => exact ⟨i2 + 1, T + 1, cnt2, _, HT1, hil, by have := HT1.out; omega, by omega, by go_num, by go_num, hown2, HP, hbel2, hrow2⟩
                  case measure => simp [intOf]; omega
              · obtain rfl : i2 = lb := by omega
                have hge : ¬ (i2 : Int) < (i2 : Int) := by omega
                have HS1 : Hid (T = nSt (ws.take (j + 1))) := Lib.hid (by have := HJT.out; have := HS.out; have := HT.out; simp at *; omega)
                have hS1 : T ≤ 1230 := by have := HNL.out; have := HS1.out; omega
                go_wp2_with fail
                go_roundw
                case rel => exact ⟨j + 1, T, cnt2, D2, HS1, hlt, hS1, hcnt2, by go_num, rfl, hown2, HD2, hbel2⟩
                case measure => simp [intOf]; omega
        · have hjl : j = lw := by omega
          subst hjl
          have HDM : Hid (MapIs D N steps M) := Lib.hid (by
            have := HS.out
            rw [List.take_of_length_le (by rw [HLW.out]; exact Nat.le_refl _), HM.out] at this
            rw [← this]
            exact HD.out)
          have hge : ¬ (j : Int) < (j : Int) := by omega
          have HOW := Lib.hid hown
          have HBL := Lib.hid hbel
          have HAo := Lib.hid (HA1.out.below hbel)
          have HTA := Lib.hid (tears_at (N := N) (img := img) HOK.out (show steps.length = M by rw [← HST.out, ← HM.out]; rfl))
          obtain ⟨X, hX⟩ : ∃ X, cutL N steps img = X := ⟨_, rfl⟩
          have HC : Hid (cutR img ws (N : Int) = (X, 0)) := Lib.hid (by
            rw [← hX, ← HST.out]
            exact cutR_okT HV.out (by rw [HM.out]; omega))
          rw [hX] at HTA
          clear hown hbel HOB hX HD
          go_wp2_with fail
          refine (CC.out _ HAo.out.s HAo.out.t (by omega) (by omega) HG.out.x6 (by rw [HM.out]; omega)).mono ?_
          rintro e w3 ⟨hb3, A3, c3, rfl, hs3⟩
          rw [HC.out] at hs3 ⊢
          obtain ⟨lr, hlr⟩ : ∃ lr, X.length = lr := ⟨_, rfl⟩
          have HLR := Lib.hid hlr
          have HS3 : Hid (SlAt w3 w3.heap.size A3 (strV X)) := Lib.hid hs3
          rw [show ((X, (0 : Int)) : List ByteArray × Int).1.length = lr from hlr, show ((X, (0 : Int)) : List ByteArray × Int).2 = 0 from rfl]
          have hlX : li ≤ lr := by rw [← HLI.out, ← hlr]; exact HTA.out.1
          have hlrI : ¬ (lr : Int) < (li : Int) := by omega
          have hlr4 : lr ≤ 1000000 := by rw [← hlr]; have := cutR_len' (n := (N : Int)) HG.out; rw [HC.out] at this; exact this
          have HA3 := Lib.hid (HAo.out.below hb3)
          have hown3 := ownM_below HOW.out hb3 HOW.out.lt
          have HB3 := Lib.hid (HBL.out.trans (hb3.mono HBL.out.size))
          have HO3 := Lib.hid hown3
          have HB3w := Lib.hid (HW1.out.trans (HB3.out.mono HW1.out.size))
          clear hs3 hlr hb3 HAo HOW HBL hown3
          go_wp2_with fail
          go_loop [100] (fun i => ∃ k : Nat, k ≤ lr ∧ i = .int .i64 k) (fun i => lr - (intOf i).toNat)
          case atStart => exact ⟨0, Nat.zero_le _, rfl⟩
          case round =>
            obtain ⟨k, hk, rfl⟩ := hrel
            by_cases hltk : k < lr
            · obtain ⟨s, hs⟩ : ∃ s, X[k]? = some s := ⟨X[k]'(by rw [HLR.out]; exact hltk), List.getElem?_eq_getElem _⟩
              obtain ⟨b3, off3, hA3, hbk3⟩ := HS3.out.strAddr (by rw [HLR.out]; omega)
              subst hA3
              have q3 := HS3.out.str rfl hs
              have hltI : (k : Int) < (lr : Int) := by omega
              have h0k : (0 : Int) ≤ (k : Int) := by omega
              have hkey : keyOf Try.prog 3 (.int .i64 (k : Int)) = some (.int .i64 (k : Int)) := keyOf_int_mk Try.underlying3 (wf_small (by omega) (by omega))
              obtain ⟨ht1, ht2⟩ := HTA.out.2 k
              obtain ⟨hm1, hm2⟩ := HDM.out.2 (k : Int)
              have hown4 := HO3.out
              cases hL : lastO N steps (k : Int) M with
              | some bb =>
                have hsb := ht1 bb hL
                rw [hs] at hsb
                injection hsb with hsb
                subst hsb
                have hat := hm2 s hL (.lit (.string []))
                rw [hL] at hm1
                have hhas : Maps.has D (.int .i64 (k : Int)) = true := hm1
                have HX2 := Lib.hid (And.intro hat hhas)
                clear hs hL hm1 hm2 ht1 ht2 hat hhas
                go_wp2_with (at_lookup; refine wpList_lookup_str keyed_int Try.underlying47 Try.underlying9 (zero_str _) hown4 hkey HX2.out.1 HX2.out.2 rfl rfl rfl rfl ?_)
                go_round
                case rel => first | exact ⟨k + 1, hltk, by go_num⟩ | exact ⟨_, _, _, _, _, _, ⟨k + 1, hltk, rfl⟩, rfl, rfl, rfl, rfl, rfl, by go_num⟩
                case measure => simp [intOf]; omega
              | none =>
                obtain ⟨ht3, ht4⟩ := ht2 hL
                rw [hL] at hm1
                have hhas : Maps.has D (.int .i64 (k : Int)) = false := hm1
                have hat : D.atKey (.int .i64 (k : Int)) (.lit (.string [])) = .lit (.string (⟨#[]⟩ : ByteArray).data.toList) := atKey_of_not_has hhas _
                have HX2 := Lib.hid (And.intro hat hhas)
                by_cases hkl : k < li
                · have hki := ht3 (by rw [HLI.out]; exact hkl)
                  rw [hs] at hki
                  obtain ⟨b4, off4, hA4, hbk4⟩ := HA3.out.s.strAddr (by rw [HLI.out]; omega)
                  subst hA4
                  have q4 := HA3.out.s.str rfl hki.symm
                  have hklI : (k : Int) < (li : Int) := by omega
                  clear hs hL hm1 hm2 ht1 ht2 hat hhas ht3 ht4 hki
                  go_wp2_with (at_lookup; refine wpList_lookup_str keyed_int Try.underlying47 Try.underlying9 (zero_str _) hown4 hkey HX2.out.1 HX2.out.2 rfl rfl rfl rfl ?_)
                  go_round
                  case rel => first | exact ⟨k + 1, hltk, by go_num⟩ | exact ⟨_, _, _, _, _, _, ⟨k + 1, hltk, rfl⟩, rfl, rfl, rfl, rfl, rfl, by go_num⟩
                  case measure => simp [intOf]; omega
                · have hkb := ht4 (by rw [HLI.out]; omega) (by rw [HLR.out]; exact hltk)
                  rw [hs] at hkb
                  injection hkb with hkb
                  subst hkb
                  have hklI : ¬ (k : Int) < (li : Int) := by omega
                  replace q3 : w3.cell? ⟨b3, off3 + k, none⟩ = some (.string ⟨#[]⟩) := q3
                  clear hs hL hm1 hm2 ht1 ht2 hat hhas ht3 ht4
                  go_wp2_with (at_lookup; refine wpList_lookup_str keyed_int Try.underlying47 Try.underlying9 (zero_str _) hown4 hkey HX2.out.1 HX2.out.2 rfl rfl rfl rfl ?_)
                  go_round
                  case rel => first | exact ⟨k + 1, hltk, by go_num⟩ | exact ⟨_, _, _, _, _, _, ⟨k + 1, hltk, rfl⟩, rfl, rfl, rfl, rfl, rfl, by go_num⟩
                  case measure => simp [intOf]; omega
            · have hge2 : ¬ (k : Int) < (lr : Int) := by omega
              obtain ⟨r, hr⟩ : ∃ r, w3.heap.size = r := ⟨_, rfl⟩
              have HRR := Lib.hid hr
              have hown4 := HO3.out
              clear hr
              go_wp2_with (at_range; refine wpList_range_own _ rfl _ 47 rfl 3 9 keyed_int Try.underlying47 _ b cnt D rfl hown4 ?_; intro w5 hrg0 hg0 hs0)
              rw [HRR.out] at hrg0 hs0 ⊢
              have hrB : w3.heap.size ≤ r := Nat.le_of_eq HRR.out
              have HB5 : Hid (Below w3.heap.size w3 w5) := Lib.hid ((Below.refl _ _).grown hg0 (Nat.le_refl _) (by intro j hj; cases hj))
              have HRG := Lib.hid hrg0
              clear hrg0 hg0 hs0 hown4
              go_loopw [] (fun wr => ∃ (left : Lit → Bool) (cnt1 : Nat), wr.ranges Try.prog 3 (plainElem Try.prog 9) b r cnt D left cnt1 ∧ Hid (∀ kl, left kl = true → Maps.has D kl = true) ∧ Below w3.heap.size w3 wr) (fun wr => wr.rangeLeft b r)
              case atStart => exact ⟨_, _, HRG.out, Lib.hid (fun kl h => h), HB5.out⟩
              case round =>
                clear HRG HB5
                obtain ⟨left, cnt1, hrg, HLE, hbel⟩ := hrel
                go_wp2_with (at_next; refine wpList_next_ranges_is _ rfl _ rfl 3 9 .i64 keyed_int Try.underlying3 Try.underlying9 b r cnt _ _ _ rfl hrg ?_ ?_)
                · intro _ hl0
                  go_wp2_with fail
                  go_ret
                  exact ⟨rfl, HB3w.out.trans (hbel.mono HB3w.out.size)⟩
                · intro x c5 w6 cnt2 hwx hwc hlx hat hrg1 hlt6 hg1 hs1 hen
                  have hbel6 := hbel.grown hg1 hbel.size (fun j hj => by injection hj with hj; subst hj; exact hrB)
                  have hhx := HLE.out _ hlx
                  have hlo := (HDM.out.2 x).1
                  rw [hhx] at hlo
                  obtain ⟨bb, hbb⟩ : ∃ bb, lastO N steps x M = some bb := Option.isSome_iff_exists.1 hlo.symm
                  have hx0 := lastO_pos HOK.out M bb hbb
                  have hxX := (HTA.out.2 x.toNat).1 bb (by rw [Int.toNat_of_nonneg hx0]; exact hbb)
                  have hxl : x < (lr : Int) := by
                    have := (List.getElem?_eq_some_iff.1 hxX).1
                    rw [HLR.out] at this
                    omega
                  have hxl2 : ¬ (lr : Int) ≤ x := by omega
                  have HLE2 : Hid (∀ kl, (left kl && !kl.sameKey (.int .i64 x)) = true → Maps.has D kl = true) := Lib.hid (fun kl h => HLE.out kl (by rw [Bool.and_eq_true] at h; exact h.1))
                  have HMS := Lib.hid (show w6.rangeLeft b r < wr.rangeLeft b r by rw [hrg1.left_eq, hrg.left_eq]; exact hlt6)
                  clear hlo hbb hxX hhx hat hlx hg1 hs1 hlt6 hrg HLE
                  go_wp2_with fail
                  go_roundw
                  case rel => exact ⟨_, cnt2, hrg1, HLE2, hbel6⟩
                  case measure => exact HMS.out
end Go.Proofs.Ytdmdfpdigoijoaa
