/-
  Parse of the program at the modes with a subheader.
-/
import Derived.Test.YtdjpnabkmanboaaParse1
namespace Go.Proofs.Ytdjpnabkmanboaa
open Go.RowKit
set_option linter.unusedVariables false
attribute [local go_sem ↓] Go.wp_at_zero Go.wp_at_succ

set_option maxRecDepth 100000 in
set_option maxHeartbeats 1000000 in
theorem parse_two (s : ByteArray) (m n2 : Int) (E : Nat) (w : World) (hs : s.size = 2352) (hk : kindR s = (m, 0)) (hm : modeOk m = true) (hm0 : m ≠ 0) (hn2 : lCap m = n2) (hE : (E : Int) = 24 + n2) (hE1 : E ≤ 2348) (hE0 : 24 ≤ E) :
    Calls Try.prog 21 #[.string s] w fun e w' => e = .returned (parseV s) ∧ Below w.heap.size w w' := by
  have C0 : Hid (∀ w, Calls Try.prog 19 #[.string s] w fun e w' => e = .returned (.tuple #[.int .i64 m, .int .i64 0]) ∧ w = w') := by
    have := fun w => kind_any s w (by omega)
    rwa [hk] at this
  have hlay : layV m = .agg #[.int .u8 2, .int .i64 24, .int .i64 n2, .int .i64 16] := by unfold layV lByte lData lCov; rw [if_neg hm0, if_neg hm0, if_neg hm0, hn2]
  have C1 : Hid (∀ w, Calls Try.prog 26 #[.int .i64 m] w fun e w' => e = .returned (.tuple #[.agg #[.int .u8 2, .int .i64 24, .int .i64 n2, .int .i64 16], .bool true]) ∧ Below w.heap.size w w') := by
    have := fun w => layouts_ok m w hm
    rwa [hlay] at this
  have C2 : Hid (∀ w, Calls Try.prog 39 #[.agg #[.int .u8 2, .int .i64 24, .int .i64 n2, .int .i64 16]] w fun e w' => e = .returned (.int .i64 (E : Int)) ∧ Below w.heap.size w w') := by
    have := fun w => ledc_any m w
    rwa [hlay, show lData m + lCap m = (E : Int) by rw [hn2, hE]; unfold lData; rw [if_neg hm0]] at this
  have C3 := Lib.hid (fun w => dec_calls s hs w)
  have C4 : Hid (∀ w, Calls Try.prog 29 #[] w fun e w' => e = .returned (.agg syncV) ∧ Below w.heap.size w w') := fun w => sync_any w
  have C5 := Lib.hid (fun w => check_any s w (by omega))
  obtain ⟨x0, x1, x2, er, hdr, hcase⟩ := dec_form s
  rw [hdr] at C3
  have HF : Hid (((s.extract 0 12).toList == syncS.toList) = frontB s) := front_eq s
  have HT : Hid (((s.extract 16 20).toList == (s.extract 20 24).toList) = twinB s) := twin_eq s
  have HR : Hid (parseV s = if goodB s m = true then (if chkB s = true then .tuple #[secV (secOf s m), .int .i64 0] else noSec 9) else noSec 10) := by
    show parseV s = _
    unfold parseV
    rw [hk]
    rfl
  have HG : Hid (goodB s m = (decB s && (frontB s && (twinB s && decide (bI s 17 ≤ 31))))) := by
    show goodB s m = _
    unfold goodB
    rw [if_neg hm0]
  have HX : Hid (secOf s m = ⟨lbaS s, m, bI s 16, bI s 17, bI s 18, bI s 19, s.extract 24 E⟩) := by
    show secOf s m = _
    unfold secOf
    rw [if_neg hm0, hn2, ← hE]
    rfl
  obtain ⟨SB, hSB⟩ : ∃ SB, SB = s.extract 16 20 := ⟨_, rfl⟩
  have hz : SB.size = 4 := by rw [hSB]; simp; omega
  have hby : ∀ i (h : i < 4), (SB[i]'(by omega)).toNat = bI s (16 + i) := by
    intro i h
    have h1 : SB.data.toList[i]? = s.data.toList[16 + i]? := by
      rw [hSB, sub_extract, List.getElem?_drop, List.getElem?_take_of_lt (by omega)]
    rw [bytes_get SB i (by omega), bytes_get s (16 + i) (by omega)] at h1
    rw [Option.some.inj h1]
    exact bI_eq s (16 + i) (by omega)
  have l0 : 0 < SB.size := by omega
  have l1 : 1 < SB.size := by omega
  have l2 : 2 < SB.size := by omega
  have l3 : 3 < SB.size := by omega
  have i1 : (1 : Int) < (SB.size : Int) := by omega
  have i2 : (2 : Int) < (SB.size : Int) := by omega
  have i3 : (3 : Int) < (SB.size : Int) := by omega
  have g0 : ((SB[0]'l0).toNat : Int) = bI s 16 := hby 0 (by omega)
  have g1 : ((SB[1]'l1).toNat : Int) = bI s 17 := hby 1 (by omega)
  have g2 : ((SB[2]'l2).toNat : Int) = bI s 18 := hby 2 (by omega)
  have g3 : ((SB[3]'l3).toNat : Int) = bI s 19 := hby 3 (by omega)
  have r0 := bI_bd s 16
  have r1 := bI_bd s 17
  have r2 := bI_bd s 18
  have r3 := bI_bd s 19
  rw [← hSB] at HT
  have hSB' := hSB.symm
  have t0 : (m == 0) = false := by rw [beq_eq_false_iff_ne]; exact hm0
  generalize bI s 16 = y0 at *
  generalize bI s 17 = y1 at *
  generalize bI s 18 = y2 at *
  generalize bI s 19 = y3 at *
  generalize parseV s = R at *
  generalize goodB s m = G at *
  generalize secOf s m = X at *
  generalize chkB s = K at *
  generalize decB s = dB at *
  generalize frontB s = qB at *
  generalize twinB s = tB at *
  have e1 : ¬ (s.size : Int) < (E : Int) := by omega
  have e2 : (24 : Int) ≤ (E : Int) := by omega
  have e3 : (E : Int) ≤ (s.size : Int) := by omega
  have e4 : (24 : Int) ≤ (s.size : Int) := by omega
  have e5 : (20 : Int) ≤ (s.size : Int) := by omega
  have e6 : (12 : Int) ≤ (s.size : Int) := by omega
  obtain ⟨r0, r0'⟩ := r0
  obtain ⟨r1, r1'⟩ := r1
  obtain ⟨r2, r2'⟩ := r2
  obtain ⟨r3, r3'⟩ := r3
  clear hdr hk hs hby hz hSB hlay hm0 hn2 hE hE1 hE0 hm
  go_enter Try.func21, Try.ntmps21
  go_wp2_with fail
  refine (C0.out _).mono ?_
  rintro e w1 ⟨rfl, rfl⟩
  go_wp2_with fail
  refine (C1.out _).mono ?_
  rintro e w2 ⟨rfl, hb2⟩
  have h2 := St.call hb2 ((St.start w).alloc _ _)
  clear hb2
  have q2 := (h2.at (i := 0) rfl).cell
  go_wp2_with fail
  have h3 := h2.alloc #[.int .u8 2, .int .i64 24, .int .i64 n2, .int .i64 16] 48
  have h3a := h3.drew
  have h3b := (h3.new (World.size_alloc _ _) #[.int .i64 0, .int .i64 0, .int .i64 0, .int .i64 0, .int .i64 0, .int .i64 0, .string ⟨#[]⟩] 25).drew
  go_cut [8] from 27 to 34 (fun x wx => ∃ g, x = .pointer (some ⟨g, 0, none⟩) ∧ St w wx [(g, 25, #[.int .i64 0, .int .i64 m, .int .i64 0, .int .i64 0, .int .i64 0, .int .i64 0, .string (s.extract 24 E)]), (w2.heap.size, 48, #[.int .u8 2, .int .i64 24, .int .i64 n2, .int .i64 16]), (w.heap.size, 25, #[.int .i64 0, .int .i64 0, .int .i64 0, .int .i64 0, .int .i64 0, .int .i64 0, .string ⟨#[]⟩])])
  case first =>
    go_region_held3 (fun w' => St w w' [(w2.heap.size, 48, #[.int .u8 2, .int .i64 24, .int .i64 n2, .int .i64 16]), (w.heap.size, 25, #[.int .i64 0, .int .i64 0, .int .i64 0, .int .i64 0, .int .i64 0, .int .i64 0, .string ⟨#[]⟩])] ∧ w'.cell? ⟨w2.heap.size, 0, none⟩ = some (.int .u8 2) ∧ w'.cell? ⟨w2.heap.size, 1, none⟩ = some (.int .i64 24) ∧ w'.cell? ⟨w2.heap.size, 2, none⟩ = some (.int .i64 n2) ∧ w'.cell? ⟨w2.heap.size, 3, none⟩ = some (.int .i64 16))
      (first | with_reducible exact St.keep1 (fun _ h => four h) h3a | with_reducible exact St.keep1 (fun _ h => four h) (h3.other _).drew | with_reducible exact St.keepO (fun _ h => four h) (by assumption) | with_reducible exact St.keep (fun _ h => four h) (by assumption) (by assumption) | with_reducible exact St.keep1 (fun _ h => four h) (z.other _) | with_reducible exact St.keep1 (fun _ h => four h) (St.set7 z _ _ _ _ _ _ _).drop1)
      ((go_at_call 39; refine (C2.out _).mono ?_; rintro e w5 ⟨rfl, hb5⟩; first | (with_reducible have z := St.call hb5 h3b; have z1 := (z.at (i := 0) rfl).cell; have z2 := (z.at (i := 0) rfl).frozen) | with_reducible have z := St.call hb5 h3a))
    all_goals
      go_wp2_with fail
      go_meet
      first | with_reducible exact ⟨_, rfl, z.new rfl _ _⟩ | exact ⟨_, rfl, St.set7 z _ _ _ _ _ _ _⟩
  case rest =>
    obtain ⟨g, rfl, h5⟩ := hcut
    clear h3 h3a h3b h2
    go_wp2_with fail
    refine (C3.out _).mono ?_
    rintro e w6 ⟨rfl, hb6⟩
    have h6 := St.call hb6 h5
    clear h5 hb6
    go_wp2_with fail
    refine (C4.out _).mono ?_
    rintro e w7 ⟨rfl, hb7⟩
    have h7 := St.call hb7 (h6.alloc _ _)
    clear h6 hb7
    rw [syncV]
    go_upto_region 8 with fail
    have h8 := h7.alloc syncV 56
    rw [show w7.alloc (.cells syncV 56) = w7.alloc (.cells #[.int .u8 0, .int .u8 255, .int .u8 255, .int .u8 255, .int .u8 255, .int .u8 255, .int .u8 255, .int .u8 255, .int .u8 255, .int .u8 255, .int .u8 255, .int .u8 0] 56) from rfl] at h8
    generalize w7.alloc (.cells #[.int .u8 0, .int .u8 255, .int .u8 255, .int .u8 255, .int .u8 255, .int .u8 255, .int .u8 255, .int .u8 255, .int .u8 255, .int .u8 255, .int .u8 255, .int .u8 0] 56) = W8 at h8 ⊢
    clear h7
    go_cut [11] from 41 to 49 (fun x wx => x = .bool (dB && qB) ∧ St w wx [(w7.heap.size, 56, syncV), (w6.heap.size, 52, #[.int .i64 x0, .int .i64 x1, .int .i64 x2]), (g, 25, #[.int .i64 0, .int .i64 m, .int .i64 0, .int .i64 0, .int .i64 0, .int .i64 0, .string (s.extract 24 E)]), (w2.heap.size, 48, #[.int .u8 2, .int .i64 24, .int .i64 n2, .int .i64 16]), (w.heap.size, 25, #[.int .i64 0, .int .i64 0, .int .i64 0, .int .i64 0, .int .i64 0, .int .i64 0, .string ⟨#[]⟩])])
    case first =>
      have hcv := fun k => front_str (h8.drewN k) (i := 0) rfl
      have hcv0 := front_str h8 (i := 0) rfl
      have hq := HF.out
      rcases hcase with ⟨rfl, hd, hm, hL⟩ | ⟨rfl, hd⟩
      · subst hd
        go_quiet (fail)
        go_wp2_with fail
        go_meet
        exact ⟨rfl, h8.drewN _⟩
      · subst hd
        go_quiet (fail)
        go_wp2_with fail
        go_meet
        exact ⟨rfl, h8.drewN _⟩
    case rest =>
      obtain ⟨rfl, h9⟩ := hcut
      clear h8
      go_upto_region 12 with fail
      have qx := (h9.at (i := 2) rfl).cell
      have fx := (h9.at (i := 2) rfl).frozen
      go_still_tail 14, (by kernel_rfl)
      change wpList _ _ _ _ _ (World.drew ..)
      go_upto_region 13 with fail
      have h10 := ((((h9.set 2 rfl 2 (.int .i64 y0)).set 2 rfl 3 (.int .i64 y1)).set 2 rfl 4 (.int .i64 y2)).set 2 rfl 5 (.int .i64 y3)).drew
      go_cut [11] from 79 to 91 (fun x wx => x = .bool G ∧ St w wx [(w7.heap.size, 56, syncV), (w6.heap.size, 52, #[.int .i64 x0, .int .i64 x1, .int .i64 x2]), (g, 25, #[.int .i64 0, .int .i64 m, .int .i64 y0, .int .i64 y1, .int .i64 y2, .int .i64 y3, .string (s.extract 24 E)]), (w2.heap.size, 48, #[.int .u8 2, .int .i64 24, .int .i64 n2, .int .i64 16]), (w.heap.size, 25, #[.int .i64 0, .int .i64 0, .int .i64 0, .int .i64 0, .int .i64 0, .int .i64 0, .string ⟨#[]⟩])])
      case first =>
        generalize hbq : (dB && qB) = b1 at *
        have HBQ := Lib.hid hbq
        clear hbq
        have ht := HT.out
        cases b1 with
        | false =>
          go_wp2_with fail
          go_meet
          exact ⟨by rw [HG.out, ← Bool.and_assoc, HBQ.out]; rfl, h10⟩
        | true =>
          cases tB with
          | false =>
            go_wp2_with fail
            go_meet
            exact ⟨by rw [HG.out, ← Bool.and_assoc, HBQ.out]; rfl, h10⟩
          | true =>
            by_cases h31 : y1 ≤ 31
            · go_wp2_with fail
              go_meet
              exact ⟨by rw [HG.out, ← Bool.and_assoc, HBQ.out, decide_eq_true h31]; rfl, h10⟩
            · go_wp2_with fail
              go_meet
              exact ⟨by rw [HG.out, ← Bool.and_assoc, HBQ.out, decide_eq_false (by omega)]; rfl, h10⟩
      case rest =>
        clear h10 h9 qx fx
        obtain ⟨rfl, h10⟩ := hcut
        have q10 := (h10.at (i := 4) rfl).cell
        have f10 := (h10.at (i := 4) rfl).frozen
        cases G with
        | false =>
          go_wp2_with fail
          refine bodyPost_ret (v := noSec 10) (by simp [noSec, results, Try.results21, go_sem, q10]) rfl ⟨?_, ?_⟩
          · rw [HR.out]; simp
          · with_reducible exact h10.bel7 (i := 4) rfl _ _ _ _ _ _ _
        | true =>
          go_wp2_with fail
          refine (C5.out _).mono ?_
          rintro e w11 ⟨rfl, hb11⟩
          have h11 := St.call hb11 h10
          clear h10 hb11 q10 f10
          have q11 := (h11.at (i := 4) rfl).cell
          have f11 := (h11.at (i := 4) rfl).frozen
          cases K with
          | false =>
            go_wp2_with fail
            refine bodyPost_ret (v := noSec 9) (by simp [noSec, results, Try.results21, go_sem, q11]) rfl ⟨?_, ?_⟩
            · rw [HR.out]; simp
            · with_reducible exact h11.bel7 (i := 4) rfl _ _ _ _ _ _ _
          | true =>
            rcases hcase with ⟨rfl, hd, hm, hL⟩ | ⟨rfl, hd⟩
            · have C6 := Lib.hid (fun w => tolba_any x0 x1 x2 w hm)
              rw [msfV] at C6
              have HL := Lib.hid hL
              have hmr := msfOk_iff.1 hm
              obtain ⟨m0, m1, s0, s1, f0, f1⟩ := hmr
              have qm := (h11.at (i := 1) rfl).cell
              have qx := (h11.at (i := 2) rfl).cell
              have fx := (h11.at (i := 2) rfl).frozen
              clear hm hL
              go_wp2_with fail
              refine (C6.out _).mono ?_
              rintro e w12 ⟨rfl, hb12⟩
              have h12 := St.call hb12 h11
              clear hb12 q11 f11 qm qx fx h11
              have q12 := (h12.at (i := 4) rfl).cell
              have f12 := (h12.at (i := 4) rfl).frozen
              have qx := (h12.at (i := 2) rfl).cell
              have fx := (h12.at (i := 2) rfl).frozen
              have hne1 := h12.ne (i := 2) (j := 4) rfl rfl (by decide)
              have hne2 := hne1.symm
              generalize (60 * x0 + x1) * 75 + x2 - 150 = LBA at *
              go_wp2_with fail
              refine bodyPost_ret (v := .tuple #[.agg #[.int .i64 LBA, .int .i64 m, .int .i64 y0, .int .i64 y1, .int .i64 y2, .int .i64 y3, .string (s.extract 24 E)], .int .i64 0]) (by simp [results, Try.results21, go_sem, q12]) rfl ⟨?_, ?_⟩
              · rw [HR.out, HX.out, HL.out]; simp [secV]
              · with_reducible exact (h12.set 2 rfl 0 _).bel7 (i := 4) rfl _ _ _ _ _ _ _
            · have := HG.out
              rw [hd] at this
              exact absurd this (by simp)
end Go.Proofs.Ytdjpnabkmanboaa
