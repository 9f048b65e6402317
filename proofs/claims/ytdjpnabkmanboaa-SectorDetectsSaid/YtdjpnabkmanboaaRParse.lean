/-
  Parse of the reference: the errors of the kind, and Mode 1.
-/
import Derived.Test.YtdjpnabkmanboaaParse1
namespace Go.Proofs.Ytdjpnabkmanboaa
open Go.RowKit
set_option linter.unusedVariables false
attribute [local go_sem ↓] Go.wp_at_zero Go.wp_at_succ

theorem rdec_calls (s : ByteArray) (hs : s.size = 2352) (w : World) : Calls Try.prog 42 #[.string s, .int .i64 12] w fun e w' => e = .returned (decR (bI s 12) (bI s 13) (bI s 14)) ∧ Below w.heap.size w w' :=
  rdecode_any s 12 w (by omega) (by omega) _ _ _ (bI_eq s 12 (by omega)) (bI_eq s 13 (by omega)) (bI_eq s 14 (by omega))

set_option maxRecDepth 100000 in
theorem rparse_kind (s : ByteArray) (w : World) (hs : s.size ≤ 140737488351232) (hk : (kindR s).2 ≠ 0) :
    Calls Try.prog 22 #[.string s] w fun e w' => e = .returned (parseV s) ∧ Below w.heap.size w w' := by
  have C0 := Lib.hid (fun w => rkind_any s w hs)
  have HR := Lib.hid (show parseV s = noSec (kindR s).2 from if_pos hk)
  have h0 : ((kindR s).2 != 0) = true := by simpa using hk
  generalize kindR s = k at *
  obtain ⟨k1, k2⟩ := k
  dsimp only at *
  clear hk
  go_enter Try.func22, Try.ntmps22
  go_wp2_with fail
  refine (C0.out _).mono ?_
  rintro e w1 ⟨rfl, rfl⟩
  go_wp2_with fail
  refine bodyPost_ret (v := noSec k2) (by simp [noSec, results, Try.results22, go_sem]) rfl ⟨by rw [HR.out], ?_⟩
  exact (Below.refl _ _).alloc (Nat.le_refl _) _

set_option maxRecDepth 100000 in
set_option maxHeartbeats 1000000 in
theorem rparse_one (s : ByteArray) (w : World) (hs : s.size = 2352) (hk : kindR s = (0, 0)) :
    Calls Try.prog 22 #[.string s] w fun e w' => e = .returned (parseV s) ∧ Below w.heap.size w w' := by
  have C0 : Hid (∀ w, Calls Try.prog 20 #[.string s] w fun e w' => e = .returned (.tuple #[.int .i64 0, .int .i64 0]) ∧ w = w') := by
    have := fun w => rkind_any s w (by omega)
    rwa [hk] at this
  have C1 : Hid (∀ w, Calls Try.prog 16 #[.int .i64 0] w fun e w' => e = .returned (.tuple #[.int .i64 2048, .int .i64 0]) ∧ w = w') := fun w => rcap_ok 0 w rfl
  have C3 := Lib.hid (fun w => rdec_calls s hs w)
  have C4 : Hid (∀ w, Calls Try.prog 34 #[] w fun e w' => e = .returned (.string syncS) ∧ Below w.heap.size w w') := fun w => rsync_any w
  have C5 := Lib.hid (fun w => rcheck_any s w (by omega))
  have C7 : Hid (∀ w, Calls Try.prog 36 #[.int .u8 0, .int .i64 8] w fun e w' => e = .returned (.string zeroS) ∧ Below w.heap.size w w') := fun w => rep_any 0 8 w (by omega)
  obtain ⟨x0, x1, x2, er, hdr, hcase⟩ := dec_form s
  rw [hdr] at C3
  have HF : Hid (((s.extract 0 12).toList == syncS.toList) = frontB s) := front_eq s
  have HZ : Hid (((s.extract 2068 2076).toList == zeroS.toList) = zeroB s) := zero_eq s
  have HR : Hid (parseV s = if goodB s 0 = true then (if chkB s = true then .tuple #[secV (secOf s 0), .int .i64 0] else noSec 9) else noSec 10) := by
    show parseV s = _
    unfold parseV
    rw [hk]
    rfl
  have HG : Hid (goodB s 0 = (decB s && (frontB s && zeroB s))) := rfl
  have HX : Hid (secOf s 0 = ⟨lbaS s, 0, 0, 0, 0, 0, s.extract 16 2064⟩) := rfl
  generalize parseV s = R at *
  generalize goodB s 0 = G at *
  generalize secOf s 0 = X at *
  generalize chkB s = K at *
  generalize decB s = dB at *
  generalize frontB s = qB at *
  generalize zeroB s = zB at *
  have e4 : (2064 : Int) ≤ (s.size : Int) := by omega
  have e5 : (2076 : Int) ≤ (s.size : Int) := by omega
  have e6 : (12 : Int) ≤ (s.size : Int) := by omega
  clear hdr hk hs
  go_enter Try.func22, Try.ntmps22
  go_wp2_with fail
  refine (C0.out _).mono ?_
  rintro e w1 ⟨rfl, rfl⟩
  go_wp2_with fail
  refine (C3.out _).mono ?_
  rintro e w2 ⟨rfl, hb2⟩
  have h2 := St.call hb2 ((St.start w).alloc _ _)
  clear hb2
  go_upto_region 5 with fail
  have h3 := h2.alloc #[.int .i64 x0, .int .i64 x1, .int .i64 x2] 52
  generalize w2.alloc (.cells #[.int .i64 x0, .int .i64 x1, .int .i64 x2] 52) = W3 at h3 ⊢
  have h3a := h3.drew
  go_cut [33] from 26 to 32 (fun x wx => x = .bool (!(dB && qB)) ∧ St w wx [(w2.heap.size, 52, #[.int .i64 x0, .int .i64 x1, .int .i64 x2]), (w.heap.size, 25, #[.int .i64 0, .int .i64 0, .int .i64 0, .int .i64 0, .int .i64 0, .int .i64 0, .string ⟨#[]⟩])])
  case first =>
    have hq := HF.out
    have hq' : ((s.extract 0 12).toList != syncS.toList) = !qB := by rw [bne, hq]
    cases qB with
    | true =>
      rcases hcase with ⟨rfl, hd, hm, hL⟩ | ⟨rfl, hd⟩ <;> subst hd
      all_goals
        go_region_with ((go_at_call 34; refine (C4.out _).mono ?_; rintro e w5 ⟨rfl, hb5⟩; with_reducible have z := St.call hb5 h3a))
        all_goals
          go_wp2_with fail
          go_meet
          with_reducible exact ⟨rfl, z⟩
    | false =>
      refine wp_region_any (by kernel_rfl) ?_
      change wpAny _ _ _ _ _ _ _ (World.drew _)
      refine wpAny_take (i := 0) (v := .string s) rfl (by kernel_rfl) (by kernel_rfl) (by kernel_rfl) (fun _ _ _ h => h) (Or.inl ⟨by rfl, by intro w; go_simp⟩) ?_
      refine wpAny_take (i := 1) (v := .string (s.extract 0 12)) rfl (by kernel_rfl) (by kernel_rfl) (by kernel_rfl) (fun _ _ _ h => h) (Or.inl ⟨by rfl, by intro w; go_simp⟩) ?_
      refine wpAny_ready (rs := [2]) (by kernel_rfl) (by simp) ?_
      refine AllReady.cons rfl (fun K hK => ?_) AllReady.nil
      go_simp
      go_wp2_with ((go_at_call 34; refine (C4.out _).mono ?_; rintro e w5 ⟨rfl, hb5⟩; with_reducible have z := St.call hb5 h3a))
      refine wpAny_take (i := 3) (v := .bool true) rfl (by kernel_rfl) (by kernel_rfl) (by kernel_rfl) (fun _ _ _ h => h) (Or.inl ⟨by rfl, by intro w; go_simp⟩) ?_
      refine wpAny_take (i := 4) (v := .bool true) rfl (by kernel_rfl) (by kernel_rfl) (by kernel_rfl) (fun _ _ _ h => h) (Or.inl ⟨by rfl, by intro w; go_simp⟩) ?_
      refine wpAny_take (i := 5) (v := undef) rfl (by kernel_rfl) (by kernel_rfl) (by kernel_rfl) (fun _ _ _ h => h) (Or.inr ⟨by rfl, rfl⟩) ?_
      refine wpAny_take (i := 6) (v := undef) rfl (by kernel_rfl) (by kernel_rfl) (by kernel_rfl) (fun _ _ _ h => h) (Or.inr ⟨by rfl, rfl⟩) ?_
      refine wpAny_take (i := 7) (v := .bool true) rfl (by kernel_rfl) (by kernel_rfl) (by kernel_rfl) (fun _ _ _ h => h) (Or.inl ⟨by rfl, by intro w; go_simp⟩) ?_
      refine wpAny_done (by kernel_rfl) ?_ _
      go_wp2_with fail
      go_meet
      exact ⟨by cases dB <;> rfl, z⟩
  case rest =>
    obtain ⟨rfl, h4⟩ := hcut
    clear h3 h3a h2
    have q4 := (h4.at (i := 1) rfl).cell
    have f4 := (h4.at (i := 1) rfl).frozen
    generalize hbq : (dB && qB) = b1 at *
    have HBQ := Lib.hid hbq
    clear hbq
    cases b1 with
    | false =>
      go_wp2_with fail
      refine bodyPost_ret (v := noSec 10) (by simp [noSec, results, Try.results22, go_sem, q4]) rfl ⟨?_, ?_⟩
      · rw [HR.out, HG.out, ← Bool.and_assoc, HBQ.out, Bool.false_and, if_neg (by simp)]
      · with_reducible exact h4.bel7 (i := 1) rfl _ _ _ _ _ _ _
    | true =>
      rcases hcase with ⟨rfl, hd, hm, hL⟩ | ⟨rfl, hd⟩
      · have C6 := Lib.hid (fun w => rtolba_any x0 x1 x2 w hm)
        rw [msfV] at C6
        have HL := Lib.hid hL
        have hmr := msfOk_iff.1 hm
        obtain ⟨m0, m1, s0, s1, f0, f1⟩ := hmr
        have qm := (h4.at (i := 0) rfl).cell
        clear hm hL
        go_wp2_with fail
        refine (C6.out _).mono ?_
        rintro e w5 ⟨rfl, hb5⟩
        have h5 := St.call hb5 h4
        clear hb5 qm h4 q4 f4
        generalize (60 * x0 + x1) * 75 + x2 - 150 = LBA at *
        go_wp2_with fail
        refine (C1.out _).mono ?_
        rintro e w6 ⟨rfl, rfl⟩
        go_upto_region 11 with fail
        have h6 := h5.alloc #[.int .i64 LBA, .int .i64 0, .int .i64 0, .int .i64 0, .int .i64 0, .int .i64 0, .string ⟨#[]⟩] 25
        generalize w5.alloc (.cells #[.int .i64 LBA, .int .i64 0, .int .i64 0, .int .i64 0, .int .i64 0, .int .i64 0, .string ⟨#[]⟩] 25) = W6 at h6 ⊢
        have h6a := h6.drew
        go_cut [53] from 50 to 52 (fun x wx => x = .bool (!zB) ∧ St w wx [(w5.heap.size, 25, #[.int .i64 LBA, .int .i64 0, .int .i64 0, .int .i64 0, .int .i64 0, .int .i64 0, .string ⟨#[]⟩]), (w2.heap.size, 52, #[.int .i64 x0, .int .i64 x1, .int .i64 x2]), (w.heap.size, 25, #[.int .i64 0, .int .i64 0, .int .i64 0, .int .i64 0, .int .i64 0, .int .i64 0, .string ⟨#[]⟩])])
        case first =>
          have hq := HZ.out
          have hq' : ((s.extract 2068 2076).toList != zeroS.toList) = !zB := by rw [bne, hq]
          go_region_with ((go_at_call 36; refine (C7.out _).mono ?_; rintro e w7 ⟨rfl, hb7⟩; with_reducible have z := St.call hb7 h6a))
          all_goals
            go_wp2_with fail
            go_meet
            with_reducible exact ⟨rfl, z⟩
        case rest =>
          clear h6 h6a h5
          obtain ⟨rfl, h7⟩ := hcut
          have q7 := (h7.at (i := 2) rfl).cell
          have f7 := (h7.at (i := 2) rfl).frozen
          cases zB with
          | false =>
            go_wp2_with fail
            refine bodyPost_ret (v := noSec 10) (by simp [noSec, results, Try.results22, go_sem, q7]) rfl ⟨?_, ?_⟩
            · rw [HR.out, HG.out, ← Bool.and_assoc, HBQ.out]; simp
            · with_reducible exact h7.bel7 (i := 2) rfl _ _ _ _ _ _ _
          | true =>
            have hne := (h7.ne (i := 0) (j := 2) rfl rfl (by decide)).symm
            have qx := (h7.at (i := 0) rfl).cell
            have fx := (h7.at (i := 0) rfl).frozen
            go_wp2_with fail
            refine (C5.out _).mono ?_
            rintro e w8 ⟨rfl, hb8⟩
            have h8 := St.call hb8 (h7.set 0 rfl 6 (.string (s.extract 16 2064)))
            clear h7 q7 f7 hb8 qx fx
            have q8 := (h8.at (i := 2) rfl).cell
            have f8 := (h8.at (i := 2) rfl).frozen
            have qx := (h8.at (i := 0) rfl).cell
            cases K with
            | false =>
              go_wp2_with fail
              refine bodyPost_ret (v := noSec 9) (by simp [noSec, results, Try.results22, go_sem, q8]) rfl ⟨?_, ?_⟩
              · rw [HR.out, HG.out, ← Bool.and_assoc, HBQ.out]; simp
              · with_reducible exact h8.bel7 (i := 2) rfl _ _ _ _ _ _ _
            | true =>
              go_wp2_with fail
              refine bodyPost_ret (v := .tuple #[.agg #[.int .i64 LBA, .int .i64 0, .int .i64 0, .int .i64 0, .int .i64 0, .int .i64 0, .string (s.extract 16 2064)], .int .i64 0]) (by simp [results, Try.results22, go_sem, q8]) rfl ⟨?_, ?_⟩
              · rw [HR.out, HG.out, ← Bool.and_assoc, HBQ.out, HX.out, HL.out]; simp [secV]
              · with_reducible exact h8.bel7 (i := 2) rfl _ _ _ _ _ _ _
      · rw [hd] at HBQ
        exact absurd HBQ.out (by simp)
end Go.Proofs.Ytdjpnabkmanboaa
