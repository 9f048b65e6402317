/-
  Parse of the program at Mode 1.
-/
import Derived.Test.YtdjpnabkmanboaaParse
import Derived.Deep.CutRange
import Derived.Deep.RegionWith
namespace Go.Proofs.Ytdjpnabkmanboaa
open Go.RowKit
set_option linter.unusedVariables false
attribute [local go_sem ↓] Go.wp_at_zero Go.wp_at_succ

theorem dec_form (s : ByteArray) : ∃ x0 x1 x2 er : Int, decR (bI s 12) (bI s 13) (bI s 14) = .tuple #[.agg #[.int .i64 x0, .int .i64 x1, .int .i64 x2], .int .i64 er] ∧
    ((er = 0 ∧ decB s = true ∧ msfOk x0 x1 x2 = true ∧ lbaS s = (60 * x0 + x1) * 75 + x2 - 150) ∨ (er = 10 ∧ decB s = false)) := by
  by_cases h : decOk (bI s 12) (bI s 13) (bI s 14)
  · exact ⟨_, _, _, 0, decR_ok h, .inl ⟨rfl, decide_eq_true h, h.2.2.2, rfl⟩⟩
  · exact ⟨_, _, _, 10, decR_no h, .inr ⟨rfl, decide_eq_false h⟩⟩
theorem dec_calls (s : ByteArray) (hs : s.size = 2352) (w : World) : Calls Try.prog 40 #[.string s, .int .i64 12] w fun e w' => e = .returned (decR (bI s 12) (bI s 13) (bI s 14)) ∧ Below w.heap.size w w' :=
  decode_any s 12 w (by omega) (by omega) _ _ _ (bI_eq s 12 (by omega)) (bI_eq s 13 (by omega)) (bI_eq s 14 (by omega))

def syncV : Array Value := #[.int .u8 0, .int .u8 255, .int .u8 255, .int .u8 255, .int .u8 255, .int .u8 255, .int .u8 255, .int .u8 255, .int .u8 255, .int .u8 255, .int .u8 255, .int .u8 0]
def syncS : ByteArray := ⟨syncL.toArray⟩
def zeroS : ByteArray := ⟨(List.replicate 8 (0 : UInt8)).toArray⟩
theorem front_str {w0 w : World} {rows : Rows} (h : St w0 w rows) {i g : Nat} (hi : rows[i]? = some (g, 56, syncV)) : (convert 42 9 (.slice (some ⟨g, 0, none⟩) 12 12)).run Try.prog w = .ok (.string syncS) w :=
  own_lit w syncL syncV 12 rfl rfl (by unfold maxLen; omega) _ g (h.at hi)
def zeroV8 : Array Value := #[.int .u8 0, .int .u8 0, .int .u8 0, .int .u8 0, .int .u8 0, .int .u8 0, .int .u8 0, .int .u8 0]
theorem make8 (w : World) : (Instr.makeSlice 42 (.int .i64 8) (.int .i64 8)).run Try.prog w = .ok (.slice (some ⟨w.heap.size, 0, none⟩) 8 8) (w.alloc (.cells zeroV8 5)) := by kernel_rfl
theorem zero_at {w : World} {g : Nat} {t : TypeId} (h : RowAt w g t zeroV8) : (convert 42 9 (.slice (some ⟨g, 0, none⟩) 8 8)).run Try.prog w = .ok (.string zeroS) w :=
  own_lit w (List.replicate 8 0) zeroV8 8 rfl rfl (by unfold maxLen; omega) _ g h

theorem four {w0 w : World} {rest : Rows} {g : Nat} {t : TypeId} {a b c d : Value} (h : St w0 w ((g, t, #[a, b, c, d]) :: rest)) : w.cell? ⟨g, 0, none⟩ = some a ∧ w.cell? ⟨g, 1, none⟩ = some b ∧ w.cell? ⟨g, 2, none⟩ = some c ∧ w.cell? ⟨g, 3, none⟩ = some d :=
  ⟨(h.at (i := 0) rfl).cell 0, (h.at (i := 0) rfl).cell 1, (h.at (i := 0) rfl).cell 2, (h.at (i := 0) rfl).cell 3⟩

theorem four3 {w0 w : World} {r0 r1 r2 : Nat × TypeId × Array Value} {rest : Rows} {g : Nat} {t : TypeId} {a b c d : Value} (h : St w0 w (r0 :: r1 :: r2 :: (g, t, #[a, b, c, d]) :: rest)) : w.cell? ⟨g, 0, none⟩ = some a ∧ w.cell? ⟨g, 1, none⟩ = some b ∧ w.cell? ⟨g, 2, none⟩ = some c ∧ w.cell? ⟨g, 3, none⟩ = some d :=
  ⟨(h.at (i := 3) rfl).cell 0, (h.at (i := 3) rfl).cell 1, (h.at (i := 3) rfl).cell 2, (h.at (i := 3) rfl).cell 3⟩

set_option maxRecDepth 100000 in
set_option maxHeartbeats 1000000 in
theorem parse_one (s : ByteArray) (w : World) (hs : s.size = 2352) (hk : kindR s = (0, 0)) :
    Calls Try.prog 21 #[.string s] w fun e w' => e = .returned (parseV s) ∧ Below w.heap.size w w' := by
  have C0 : Hid (∀ w, Calls Try.prog 19 #[.string s] w fun e w' => e = .returned (.tuple #[.int .i64 0, .int .i64 0]) ∧ w = w') := by
    have := fun w => kind_any s w (by omega)
    rwa [hk] at this
  have C1 : Hid (∀ w, Calls Try.prog 26 #[.int .i64 0] w fun e w' => e = .returned (.tuple #[.agg #[.int .u8 1, .int .i64 16, .int .i64 2048, .int .i64 0], .bool true]) ∧ Below w.heap.size w w') := fun w => layouts_ok 0 w rfl
  have C2 : Hid (∀ w, Calls Try.prog 39 #[.agg #[.int .u8 1, .int .i64 16, .int .i64 2048, .int .i64 0]] w fun e w' => e = .returned (.int .i64 2064) ∧ Below w.heap.size w w') := fun w => ledc_any 0 w
  have C3 := Lib.hid (fun w => dec_calls s hs w)
  have C4 : Hid (∀ w, Calls Try.prog 29 #[] w fun e w' => e = .returned (.agg syncV) ∧ Below w.heap.size w w') := fun w => sync_any w
  have C5 := Lib.hid (fun w => check_any s w (by omega))
  obtain ⟨x0, x1, x2, er, hdr, hcase⟩ := dec_form s
  rw [hdr] at C3
  have HF : Hid (((s.extract 0 12).toList == syncS.toList) = frontB s) := front_eq s
  have HZ : Hid (((s.extract 2068 2076).toList == zeroS.toList) = zeroB s) := zero_eq s
  have HR : Hid (parseV s = if goodB s 0 = true then (if chkB s = true then .tuple #[secV (secOf s 0), .int .i64 0] else noSec 9) else noSec 10) := by
    show parseV s = _
    unfold parseV
    rw [hk]
    rfl
  have HG : Hid (goodB s 0 = (decB s && (frontB s && zeroB s))) := rfl
  have HX : Hid (secOf s 0 = ⟨lbaS s, 0, 0, 0, 0, 0, s.extract 16 2064⟩) := rfl
  generalize parseV s = R at *
  generalize goodB s 0 = G at *
  generalize secOf s 0 = X at *
  generalize chkB s = K at *
  generalize decB s = dB at *
  generalize frontB s = qB at *
  generalize zeroB s = zB at *
  have e1 : ¬ (s.size : Int) < 2064 := by omega
  have e2 : ¬ (s.size : Int) < 2076 := by omega
  have e3 : ¬ (s.size : Int) < 12 := by omega
  have e4 : (2064 : Int) ≤ (s.size : Int) := by omega
  have e5 : (2076 : Int) ≤ (s.size : Int) := by omega
  have e6 : (12 : Int) ≤ (s.size : Int) := by omega
  clear hdr hk hs
  go_enter Try.func21, Try.ntmps21
  go_wp2_with fail
  refine (C0.out _).mono ?_
  rintro e w1 ⟨rfl, rfl⟩
  go_wp2_with fail
  refine (C1.out _).mono ?_
  rintro e w2 ⟨rfl, hb2⟩
  have h2 := St.call hb2 ((St.start w).alloc _ _)
  clear hb2
  have q2 := (h2.at (i := 0) rfl).cell
  go_wp2_with fail
  have h3 := h2.alloc #[.int .u8 1, .int .i64 16, .int .i64 2048, .int .i64 0] 48
  have h3a := h3.drew
  have h3b := (h3.new (World.size_alloc _ _) #[.int .i64 0, .int .i64 0, .int .i64 0, .int .i64 0, .int .i64 0, .int .i64 0, .string ⟨#[]⟩] 25).drew
  go_cut [8] from 27 to 34 (fun x wx => ∃ g, x = .pointer (some ⟨g, 0, none⟩) ∧ St w wx [(g, 25, #[.int .i64 0, .int .i64 0, .int .i64 0, .int .i64 0, .int .i64 0, .int .i64 0, .string (s.extract 16 2064)]), (w2.heap.size, 48, #[.int .u8 1, .int .i64 16, .int .i64 2048, .int .i64 0]), (w.heap.size, 25, #[.int .i64 0, .int .i64 0, .int .i64 0, .int .i64 0, .int .i64 0, .int .i64 0, .string ⟨#[]⟩])])
  case first =>
    go_region_held3 (fun w' => St w w' [(w2.heap.size, 48, #[.int .u8 1, .int .i64 16, .int .i64 2048, .int .i64 0]), (w.heap.size, 25, #[.int .i64 0, .int .i64 0, .int .i64 0, .int .i64 0, .int .i64 0, .int .i64 0, .string ⟨#[]⟩])] ∧ w'.cell? ⟨w2.heap.size, 0, none⟩ = some (.int .u8 1) ∧ w'.cell? ⟨w2.heap.size, 1, none⟩ = some (.int .i64 16) ∧ w'.cell? ⟨w2.heap.size, 2, none⟩ = some (.int .i64 2048) ∧ w'.cell? ⟨w2.heap.size, 3, none⟩ = some (.int .i64 0))
      (first | with_reducible exact St.keep1 (fun _ h => four h) h3a | with_reducible exact St.keep1 (fun _ h => four h) (h3.other _).drew | with_reducible exact St.keepO (fun _ h => four h) (by assumption) | with_reducible exact St.keep (fun _ h => four h) (by assumption) (by assumption) | with_reducible exact St.keep1 (fun _ h => four h) (z.other _) | with_reducible exact St.keep1 (fun _ h => four h) (St.set7 z _ _ _ _ _ _ _).drop1)
      ((go_at_call 39; refine (C2.out _).mono ?_; rintro e w5 ⟨rfl, hb5⟩; first | (with_reducible have z := St.call hb5 h3b; have z1 := (z.at (i := 0) rfl).cell; have z2 := (z.at (i := 0) rfl).frozen) | with_reducible have z := St.call hb5 h3a))
    all_goals
      go_wp2_with fail
      go_meet
      first | with_reducible exact ⟨_, rfl, z.new rfl _ _⟩ | exact ⟨_, rfl, St.set7 z _ _ _ _ _ _ _⟩
  case rest =>
    obtain ⟨g, rfl, h5⟩ := hcut
    clear h3 h3a h3b h2
    go_wp2_with fail
    refine (C3.out _).mono ?_
    rintro e w6 ⟨rfl, hb6⟩
    have h6 := St.call hb6 h5
    clear h5 hb6
    go_wp2_with fail
    refine (C4.out _).mono ?_
    rintro e w7 ⟨rfl, hb7⟩
    have h7 := St.call hb7 (h6.alloc _ _)
    clear h6 hb7
    rw [syncV]
    go_upto_region 8 with fail
    have h8 := h7.alloc syncV 56
    rw [show w7.alloc (.cells syncV 56) = w7.alloc (.cells #[.int .u8 0, .int .u8 255, .int .u8 255, .int .u8 255, .int .u8 255, .int .u8 255, .int .u8 255, .int .u8 255, .int .u8 255, .int .u8 255, .int .u8 255, .int .u8 0] 56) from rfl] at h8
    generalize w7.alloc (.cells #[.int .u8 0, .int .u8 255, .int .u8 255, .int .u8 255, .int .u8 255, .int .u8 255, .int .u8 255, .int .u8 255, .int .u8 255, .int .u8 255, .int .u8 255, .int .u8 0] 56) = W8 at h8 ⊢
    clear h7
    go_cut [11] from 41 to 49 (fun x wx => x = .bool (dB && qB) ∧ St w wx [(w7.heap.size, 56, syncV), (w6.heap.size, 52, #[.int .i64 x0, .int .i64 x1, .int .i64 x2]), (g, 25, #[.int .i64 0, .int .i64 0, .int .i64 0, .int .i64 0, .int .i64 0, .int .i64 0, .string (s.extract 16 2064)]), (w2.heap.size, 48, #[.int .u8 1, .int .i64 16, .int .i64 2048, .int .i64 0]), (w.heap.size, 25, #[.int .i64 0, .int .i64 0, .int .i64 0, .int .i64 0, .int .i64 0, .int .i64 0, .string ⟨#[]⟩])])
    case first =>
      have hcv := fun k => front_str (h8.drewN k) (i := 0) rfl
      have hcv0 := front_str h8 (i := 0) rfl
      have hq := HF.out
      rcases hcase with ⟨rfl, hd, hm, hL⟩ | ⟨rfl, hd⟩
      · subst hd
        go_quiet (fail)
        go_wp2_with fail
        go_meet
        exact ⟨rfl, h8.drewN _⟩
      · subst hd
        go_quiet (fail)
        go_wp2_with fail
        go_meet
        exact ⟨rfl, h8.drewN _⟩
    case rest =>
      obtain ⟨rfl, h9⟩ := hcut
      clear h8
      generalize hbq : (dB && qB) = b1 at *
      have HBQ := Lib.hid hbq
      clear hbq
      cases b1 with
      | false =>
        have q9 := (h9.at (i := 4) rfl).cell
        have f9 := (h9.at (i := 4) rfl).frozen
        go_upto_region 10 with fail
        go_quiet (fail)
        go_wp2_with fail
        refine bodyPost_ret (v := noSec 10) (by simp [noSec, results, Try.results21, go_sem, q9]) rfl ⟨?_, ?_⟩
        · rw [HR.out, HG.out, ← Bool.and_assoc, HBQ.out, Bool.false_and, if_neg (by simp)]
        · first | with_reducible exact below_drewN (h9.bel7 (i := 4) rfl _ _ _ _ _ _ _) _ | with_reducible exact (h9.drewN _).bel7 (i := 4) rfl _ _ _ _ _ _ _
      | true =>
        go_upto_region 10 with fail
        generalize wc = W9 at *
        have hmk := make8
        have hcz := fun w' : World => zero_at (RowAt.new w' 5 zeroV8)
        have hczd := fun w' : World => zero_at (w := (w'.alloc (.cells zeroV8 5)).drew) (RowAt.new w' 5 zeroV8)
        have h9a := h9.drew
        have h9b := (h9.alloc zeroV8 5).drew
        have hq := HZ.out
        go_cut [11] from 52 to 62 (fun x wx => x = .bool zB ∧ St w wx [(w7.heap.size, 56, syncV), (w6.heap.size, 52, #[.int .i64 x0, .int .i64 x1, .int .i64 x2]), (g, 25, #[.int .i64 0, .int .i64 0, .int .i64 0, .int .i64 0, .int .i64 0, .int .i64 0, .string (s.extract 16 2064)]), (w2.heap.size, 48, #[.int .u8 1, .int .i64 16, .int .i64 2048, .int .i64 0]), (w.heap.size, 25, #[.int .i64 0, .int .i64 0, .int .i64 0, .int .i64 0, .int .i64 0, .int .i64 0, .string ⟨#[]⟩])])
        case first =>
          obtain ⟨l0, l1, l2, l3⟩ := four3 h9
          have hlt := h9.lt (i := 3) rfl
          go_region_with ((go_at_call 39; refine (C2.out _).mono ?_; rintro e w5 ⟨rfl, hb5⟩; first | (with_reducible have y := St.call hb5 h9b; have y1 := zero_at (y.at (i := 0) rfl); have z := y.drop1) | with_reducible have z := St.call hb5 h9a))
          all_goals
            go_wp2_with fail
            go_meet
            first | with_reducible exact ⟨rfl, z⟩ | with_reducible exact ⟨rfl, z.other _⟩
        case rest =>
          obtain ⟨rfl, h10⟩ := hcut
          clear hmk hcz hczd h9a h9b h9 hq HF HZ
          have q10 := (h10.at (i := 4) rfl).cell
          have f10 := (h10.at (i := 4) rfl).frozen
          cases zB with
          | false =>
            go_wp2_with fail
            refine bodyPost_ret (v := noSec 10) (by simp [noSec, results, Try.results21, go_sem, q10]) rfl ⟨?_, ?_⟩
            · rw [HR.out, HG.out, ← Bool.and_assoc, HBQ.out, Bool.and_false, if_neg (by simp)]
            · with_reducible exact h10.bel7 (i := 4) rfl _ _ _ _ _ _ _
          | true =>
            go_upto_region 16 with fail
            have HGT : Hid (G = true) := by rw [HG.out, ← Bool.and_assoc, HBQ.out]; rfl
            go_wp2_with fail
            refine (C5.out _).mono ?_
            rintro e w11 ⟨rfl, hb11⟩
            have h11 := St.call hb11 h10
            clear h10 hb11 q10 f10
            have q11 := (h11.at (i := 4) rfl).cell
            have f11 := (h11.at (i := 4) rfl).frozen
            cases K with
            | false =>
              go_wp2_with fail
              refine bodyPost_ret (v := noSec 9) (by simp [noSec, results, Try.results21, go_sem, q11]) rfl ⟨?_, ?_⟩
              · rw [HR.out, HGT.out, if_pos rfl, if_neg (by simp)]
              · with_reducible exact h11.bel7 (i := 4) rfl _ _ _ _ _ _ _
            | true =>
              rcases hcase with ⟨rfl, hd, hm, hL⟩ | ⟨rfl, hd⟩
              · have C6 := Lib.hid (fun w => tolba_any x0 x1 x2 w hm)
                rw [msfV] at C6
                have HL := Lib.hid hL
                have hmr := msfOk_iff.1 hm
                obtain ⟨m0, m1, s0, s1, f0, f1⟩ := hmr
                have qm := (h11.at (i := 1) rfl).cell
                have qx := (h11.at (i := 2) rfl).cell
                have fx := (h11.at (i := 2) rfl).frozen
                clear hm hL
                go_wp2_with fail
                refine (C6.out _).mono ?_
                rintro e w12 ⟨rfl, hb12⟩
                have h12 := St.call hb12 h11
                clear hb12 q11 f11 qm qx fx h11
                have q12 := (h12.at (i := 4) rfl).cell
                have f12 := (h12.at (i := 4) rfl).frozen
                have qx := (h12.at (i := 2) rfl).cell
                have fx := (h12.at (i := 2) rfl).frozen
                have hne1 := h12.ne (i := 2) (j := 4) rfl rfl (by decide)
                have hne2 := hne1.symm
                generalize (60 * x0 + x1) * 75 + x2 - 150 = LBA at *
                go_wp2_with fail
                refine bodyPost_ret (v := .tuple #[.agg #[.int .i64 LBA, .int .i64 0, .int .i64 0, .int .i64 0, .int .i64 0, .int .i64 0, .string (s.extract 16 2064)], .int .i64 0]) (by simp [results, Try.results21, go_sem, q12]) rfl ⟨?_, ?_⟩
                · rw [HR.out, HGT.out, if_pos rfl, if_pos trivial, HX.out, HL.out]; rfl
                · with_reducible exact (h12.set 2 rfl 0 _).bel7 (i := 4) rfl _ _ _ _ _ _ _
              · rw [hd] at HBQ
                exact absurd HBQ.out (by simp)
end Go.Proofs.Ytdjpnabkmanboaa
