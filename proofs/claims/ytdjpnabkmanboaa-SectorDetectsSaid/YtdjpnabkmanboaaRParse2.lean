/-
  Parse of the reference at the modes with a subheader; Parse, in one word.
-/
import Derived.Test.YtdjpnabkmanboaaRParse
import Derived.Test.YtdjpnabkmanboaaParse2
namespace Go.Proofs.Ytdjpnabkmanboaa
open Go.RowKit
set_option linter.unusedVariables false
attribute [local go_sem ↓] Go.wp_at_zero Go.wp_at_succ

set_option maxRecDepth 100000 in
set_option maxHeartbeats 1000000 in
theorem rparse_two (s : ByteArray) (m n2 : Int) (E : Nat) (w : World) (hs : s.size = 2352) (hk : kindR s = (m, 0)) (hm : modeOk m = true) (hm0 : m ≠ 0) (hn2 : lCap m = n2) (hE : (E : Int) = 24 + n2) (hE1 : E ≤ 2348) (hE0 : 24 ≤ E) :
    Calls Try.prog 22 #[.string s] w fun e w' => e = .returned (parseV s) ∧ Below w.heap.size w w' := by
  have C0 : Hid (∀ w, Calls Try.prog 20 #[.string s] w fun e w' => e = .returned (.tuple #[.int .i64 m, .int .i64 0]) ∧ w = w') := by
    have := fun w => rkind_any s w (by omega)
    rwa [hk] at this
  have C1 : Hid (∀ w, Calls Try.prog 16 #[.int .i64 m] w fun e w' => e = .returned (.tuple #[.int .i64 n2, .int .i64 0]) ∧ w = w') := by
    have := fun w => rcap_ok m w hm
    rwa [hn2] at this
  have C3 := Lib.hid (fun w => rdec_calls s hs w)
  have C4 : Hid (∀ w, Calls Try.prog 34 #[] w fun e w' => e = .returned (.string syncS) ∧ Below w.heap.size w w') := fun w => rsync_any w
  have C5 := Lib.hid (fun w => rcheck_any s w (by omega))
  obtain ⟨x0, x1, x2, er, hdr, hcase⟩ := dec_form s
  rw [hdr] at C3
  have HF : Hid (((s.extract 0 12).toList == syncS.toList) = frontB s) := front_eq s
  have HT : Hid (((s.extract 16 20).toList == (s.extract 20 24).toList) = twinB s) := twin_eq s
  have HR : Hid (parseV s = if goodB s m = true then (if chkB s = true then .tuple #[secV (secOf s m), .int .i64 0] else noSec 9) else noSec 10) := by
    show parseV s = _
    unfold parseV
    rw [hk]
    rfl
  have HG : Hid (goodB s m = (decB s && (frontB s && (twinB s && decide (bI s 17 ≤ 31))))) := by
    show goodB s m = _
    unfold goodB
    rw [if_neg hm0]
  have HX : Hid (secOf s m = ⟨lbaS s, m, bI s 16, bI s 17, bI s 18, bI s 19, s.extract 24 E⟩) := by
    show secOf s m = _
    unfold secOf
    rw [if_neg hm0, hn2, ← hE]
    rfl
  have l0 : 16 < s.size := by omega
  have l1 : 17 < s.size := by omega
  have l2 : 18 < s.size := by omega
  have l3 : 19 < s.size := by omega
  have i0 : (16 : Int) < (s.size : Int) := by omega
  have i1 : (17 : Int) < (s.size : Int) := by omega
  have i2 : (18 : Int) < (s.size : Int) := by omega
  have i3 : (19 : Int) < (s.size : Int) := by omega
  have g0 : ((s[16]'l0).toNat : Int) = bI s 16 := bI_eq s 16 l0
  have g1 : ((s[17]'l1).toNat : Int) = bI s 17 := bI_eq s 17 l1
  have g2 : ((s[18]'l2).toNat : Int) = bI s 18 := bI_eq s 18 l2
  have g3 : ((s[19]'l3).toNat : Int) = bI s 19 := bI_eq s 19 l3
  have r0 := bI_bd s 16
  have r1 := bI_bd s 17
  have r2 := bI_bd s 18
  have r3 := bI_bd s 19
  have t0 : (m == 0) = false := by rw [beq_eq_false_iff_ne]; exact hm0
  generalize bI s 16 = y0 at *
  generalize bI s 17 = y1 at *
  generalize bI s 18 = y2 at *
  generalize bI s 19 = y3 at *
  generalize parseV s = R at *
  generalize goodB s m = G at *
  generalize secOf s m = X at *
  generalize chkB s = K at *
  generalize decB s = dB at *
  generalize frontB s = qB at *
  generalize twinB s = tB at *
  have e1 : ¬ (s.size : Int) < (E : Int) := by omega
  have e2 : (24 : Int) ≤ (E : Int) := by omega
  have e3 : (E : Int) ≤ (s.size : Int) := by omega
  have e4 : (24 : Int) ≤ (s.size : Int) := by omega
  have e5 : (20 : Int) ≤ (s.size : Int) := by omega
  have e6 : (12 : Int) ≤ (s.size : Int) := by omega
  obtain ⟨r0, r0'⟩ := r0
  obtain ⟨r1, r1'⟩ := r1
  obtain ⟨r2, r2'⟩ := r2
  obtain ⟨r3, r3'⟩ := r3
  have ew : IntKind.i64.wrap (24 + n2) = (E : Int) := by rw [IntWalk.i64_in _ (by omega)]; omega
  have hE' : 24 + n2 = (E : Int) := by omega
  have hn0 : 0 ≤ n2 := by omega
  have hn1 : n2 ≤ 2324 := by omega
  clear hdr hk hs hm0 hn2 hE hE1 hE0 hm
  go_enter Try.func22, Try.ntmps22
  go_wp2_with fail
  refine (C0.out _).mono ?_
  rintro e w1 ⟨rfl, rfl⟩
  go_wp2_with fail
  refine (C3.out _).mono ?_
  rintro e w2 ⟨rfl, hb2⟩
  have h2 := St.call hb2 ((St.start w).alloc _ _)
  clear hb2
  go_upto_region 5 with fail
  have h3 := h2.alloc #[.int .i64 x0, .int .i64 x1, .int .i64 x2] 52
  generalize w2.alloc (.cells #[.int .i64 x0, .int .i64 x1, .int .i64 x2] 52) = W3 at h3 ⊢
  have h3a := h3.drew
  go_cut [33] from 26 to 32 (fun x wx => x = .bool (!(dB && qB)) ∧ St w wx [(w2.heap.size, 52, #[.int .i64 x0, .int .i64 x1, .int .i64 x2]), (w.heap.size, 25, #[.int .i64 0, .int .i64 0, .int .i64 0, .int .i64 0, .int .i64 0, .int .i64 0, .string ⟨#[]⟩])])
  case first =>
    have hq := HF.out
    have hq' : ((s.extract 0 12).toList != syncS.toList) = !qB := by rw [bne, hq]
    cases qB with
    | true =>
      rcases hcase with ⟨rfl, hd, hm, hL⟩ | ⟨rfl, hd⟩ <;> subst hd
      all_goals
        go_region_with ((go_at_call 34; refine (C4.out _).mono ?_; rintro e w5 ⟨rfl, hb5⟩; with_reducible have z := St.call hb5 h3a))
        all_goals
          go_wp2_with fail
          go_meet
          with_reducible exact ⟨rfl, z⟩
    | false =>
      refine wp_region_any (by kernel_rfl) ?_
      change wpAny _ _ _ _ _ _ _ (World.drew _)
      refine wpAny_take (i := 0) (v := .string s) rfl (by kernel_rfl) (by kernel_rfl) (by kernel_rfl) (fun _ _ _ h => h) (Or.inl ⟨by rfl, by intro w; go_simp⟩) ?_
      refine wpAny_take (i := 1) (v := .string (s.extract 0 12)) rfl (by kernel_rfl) (by kernel_rfl) (by kernel_rfl) (fun _ _ _ h => h) (Or.inl ⟨by rfl, by intro w; go_simp⟩) ?_
      refine wpAny_ready (rs := [2]) (by kernel_rfl) (by simp) ?_
      refine AllReady.cons rfl (fun K hK => ?_) AllReady.nil
      go_simp
      go_wp2_with ((go_at_call 34; refine (C4.out _).mono ?_; rintro e w5 ⟨rfl, hb5⟩; with_reducible have z := St.call hb5 h3a))
      refine wpAny_take (i := 3) (v := .bool true) rfl (by kernel_rfl) (by kernel_rfl) (by kernel_rfl) (fun _ _ _ h => h) (Or.inl ⟨by rfl, by intro w; go_simp⟩) ?_
      refine wpAny_take (i := 4) (v := .bool true) rfl (by kernel_rfl) (by kernel_rfl) (by kernel_rfl) (fun _ _ _ h => h) (Or.inl ⟨by rfl, by intro w; go_simp⟩) ?_
      refine wpAny_take (i := 5) (v := undef) rfl (by kernel_rfl) (by kernel_rfl) (by kernel_rfl) (fun _ _ _ h => h) (Or.inr ⟨by rfl, rfl⟩) ?_
      refine wpAny_take (i := 6) (v := undef) rfl (by kernel_rfl) (by kernel_rfl) (by kernel_rfl) (fun _ _ _ h => h) (Or.inr ⟨by rfl, rfl⟩) ?_
      refine wpAny_take (i := 7) (v := .bool true) rfl (by kernel_rfl) (by kernel_rfl) (by kernel_rfl) (fun _ _ _ h => h) (Or.inl ⟨by rfl, by intro w; go_simp⟩) ?_
      refine wpAny_done (by kernel_rfl) ?_ _
      go_wp2_with fail
      go_meet
      exact ⟨by cases dB <;> rfl, z⟩
  case rest =>
    obtain ⟨rfl, h4⟩ := hcut
    clear h3 h3a h2
    have q4 := (h4.at (i := 1) rfl).cell
    have f4 := (h4.at (i := 1) rfl).frozen
    generalize hbq : (dB && qB) = b1 at *
    have HBQ := Lib.hid hbq
    clear hbq
    cases b1 with
    | false =>
      go_wp2_with fail
      refine bodyPost_ret (v := noSec 10) (by simp [noSec, results, Try.results22, go_sem, q4]) rfl ⟨?_, ?_⟩
      · rw [HR.out, HG.out, ← Bool.and_assoc, HBQ.out, Bool.false_and, if_neg (by simp)]
      · with_reducible exact h4.bel7 (i := 1) rfl _ _ _ _ _ _ _
    | true =>
      rcases hcase with ⟨rfl, hd, hm, hL⟩ | ⟨rfl, hd⟩
      · have C6 := Lib.hid (fun w => rtolba_any x0 x1 x2 w hm)
        rw [msfV] at C6
        have HL := Lib.hid hL
        have hmr := msfOk_iff.1 hm
        obtain ⟨m0, m1, s0, s1, f0, f1⟩ := hmr
        have qm := (h4.at (i := 0) rfl).cell
        clear hm hL
        go_wp2_with fail
        refine (C6.out _).mono ?_
        rintro e w5 ⟨rfl, hb5⟩
        have h5 := St.call hb5 h4
        clear hb5 qm h4 q4 f4
        generalize (60 * x0 + x1) * 75 + x2 - 150 = LBA at *
        go_wp2_with fail
        refine (C1.out _).mono ?_
        rintro e w6 ⟨rfl, rfl⟩
        go_upto_region 14 with fail
        have h6 := h5.alloc #[.int .i64 LBA, .int .i64 m, .int .i64 0, .int .i64 0, .int .i64 0, .int .i64 0, .string ⟨#[]⟩] 25
        generalize w5.alloc (.cells #[.int .i64 LBA, .int .i64 m, .int .i64 0, .int .i64 0, .int .i64 0, .int .i64 0, .string ⟨#[]⟩] 25) = W6 at h6 ⊢
        go_cut [69] from 60 to 68 (fun x wx => x = .bool (!(tB && decide (y1 ≤ 31))) ∧ St w wx [(w5.heap.size, 25, #[.int .i64 LBA, .int .i64 m, .int .i64 0, .int .i64 0, .int .i64 0, .int .i64 0, .string ⟨#[]⟩]), (w2.heap.size, 52, #[.int .i64 x0, .int .i64 x1, .int .i64 x2]), (w.heap.size, 25, #[.int .i64 0, .int .i64 0, .int .i64 0, .int .i64 0, .int .i64 0, .int .i64 0, .string ⟨#[]⟩])])
        case first =>
          have ht := HT.out
          have ht' : ((s.extract 16 20).toList != (s.extract 20 24).toList) = !tB := by rw [bne, ht]
          cases tB with
          | false =>
            go_quiet (fail)
            go_wp2_with fail
            go_meet
            exact ⟨by cases decide (y1 ≤ 31) <;> rfl, h6.drewN _⟩
          | true =>
            by_cases h31 : y1 ≤ 31
            · have h31' : decide (31 < y1) = false := decide_eq_false (by omega)
              go_quiet (fail)
              go_wp2_with fail
              go_meet
              exact ⟨by rw [decide_eq_true h31]; rfl, h6.drewN _⟩
            · have h31c : decide (31 < y1) = true := decide_eq_true (by omega)
              go_quiet (fail)
              go_wp2_with fail
              go_meet
              exact ⟨by rw [decide_eq_false (show ¬ y1 ≤ 31 by omega)]; rfl, h6.drewN _⟩
        case rest =>
          clear h6 h5
          obtain ⟨rfl, h7⟩ := hcut
          have q7 := (h7.at (i := 2) rfl).cell
          have f7 := (h7.at (i := 2) rfl).frozen
          generalize hgb : (tB && decide (y1 ≤ 31)) = b2 at *
          have HGB := Lib.hid hgb
          clear hgb
          cases b2 with
          | false =>
            go_wp2_with fail
            refine bodyPost_ret (v := noSec 10) (by simp [noSec, results, Try.results22, go_sem, q7]) rfl ⟨?_, ?_⟩
            · rw [HR.out, HG.out, ← Bool.and_assoc, HBQ.out]; simp
            · with_reducible exact h7.bel7 (i := 2) rfl _ _ _ _ _ _ _
          | true =>
            have hne := (h7.ne (i := 0) (j := 2) rfl rfl (by decide)).symm
            have qx := (h7.at (i := 0) rfl).cell
            have fx := (h7.at (i := 0) rfl).frozen
            go_upto_region 16 with fail
            go_still_tail 14, (by kernel_rfl)
            change wpList _ _ _ _ _ (World.drew ..)
            go_wp2_with fail
            refine (C5.out _).mono ?_
            rintro e w8 ⟨rfl, hb8⟩
            have hset := ((((h7.set 0 rfl 2 (.int .i64 y0)).set 0 rfl 3 (.int .i64 y1)).set 0 rfl 4 (.int .i64 y2)).set 0 rfl 5 (.int .i64 y3)).set 0 rfl 6 (.string (s.extract 24 E))
            have h8 := St.call hb8 hset.drew
            clear h7 q7 f7 hb8 qx fx hset
            have q8 := (h8.at (i := 2) rfl).cell
            have f8 := (h8.at (i := 2) rfl).frozen
            have qx := (h8.at (i := 0) rfl).cell
            cases K with
            | false =>
              go_wp2_with fail
              refine bodyPost_ret (v := noSec 9) (by simp [noSec, results, Try.results22, go_sem, q8]) rfl ⟨?_, ?_⟩
              · rw [HR.out, HG.out, ← Bool.and_assoc, HBQ.out]; simp
              · with_reducible exact h8.bel7 (i := 2) rfl _ _ _ _ _ _ _
            | true =>
              go_wp2_with fail
              refine bodyPost_ret (v := .tuple #[.agg #[.int .i64 LBA, .int .i64 m, .int .i64 y0, .int .i64 y1, .int .i64 y2, .int .i64 y3, .string (s.extract 24 E)], .int .i64 0]) (by simp [results, Try.results22, go_sem, q8]) rfl ⟨?_, ?_⟩
              · rw [HR.out, HG.out, ← Bool.and_assoc, HBQ.out, HX.out, HL.out]; simp [secV]
              · with_reducible exact h8.bel7 (i := 2) rfl _ _ _ _ _ _ _
      · rw [hd] at HBQ
        exact absurd HBQ.out (by simp)
end Go.Proofs.Ytdjpnabkmanboaa
