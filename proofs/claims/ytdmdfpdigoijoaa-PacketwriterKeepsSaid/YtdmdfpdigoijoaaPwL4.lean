/-
  The walk of the law PacketwriterKeeps.
-/
import Derived.Test.YtdmdfpdigoijoaaPwOp
namespace Go.Proofs.Ytdmdfpdigoijoaa
open Go.RowKit
set_option linter.unusedVariables false

theorem putL_keep {img : Img} {a i : Nat} {b s : ByteArray} (h : img[i]? = some s) (hne : a ≠ i) : (putL img a b)[i]? = some s := by
  unfold putL
  rw [List.getElem?_set_ne hne, List.getElem?_append_left (List.getElem?_eq_some_iff.1 h).1]
  exact h
/-- What is cut is what is recorded, up to the step that is torn. -/
theorem cutK_all {n M : Nat} {steps : List Stp} {img : Img} (hM : steps.length ≤ M) : ∀ k, k ≤ n → cutK n steps img k = cutK M steps img k
  | 0, _ => rfl
  | k + 1, hk => by
    cases hs : steps[k]? with
    | none => unfold cutK; rw [hs]; exact cutK_all hM k (by omega)
    | some s =>
      rw [cutK_succ hs, cutK_succ hs, cutK_all hM k (by omega)]
      unfold apS
      have := (List.getElem?_eq_some_iff.1 hs).1
      rw [if_pos (show k < n by omega), if_pos (show k < M by omega)]
theorem keep_all {M : Nat} {steps : List Stp} {img : Img} (hf : ∀ i, i < steps.length → freeK M steps img i = true) {i : Nat} {s : ByteArray} (hi : img[i]? = some s) (hs : s.toList ≠ []) : ∀ k, k ≤ steps.length → (cutK M steps img k)[i]? = some s
  | 0, _ => hi
  | k + 1, hk => by
    have ih := keep_all hf hi hs k (by omega)
    have hx : steps[k]? = some steps[k] := List.getElem?_eq_getElem (by omega)
    have hfk := hf k (by omega)
    unfold freeK at hfk
    rw [hx] at hfk
    dsimp only at hfk
    rw [cutK_succ hx]
    unfold apS
    cases hc : steps[k].cl with
    | true => rw [if_pos rfl]; exact ih
    | false =>
      rw [if_neg (by simp)]
      rw [hc, Bool.false_or] at hfk
      refine putL_keep ih fun e => ?_
      unfold hasB at hfk
      rw [e, ih] at hfk
      cases hq : s.toList with
      | nil => exact hs hq
      | cons a t => simp [hq] at hfk
theorem once_keeps {img : Img} {ws : List Wr} {n : Int} (h : onceB img ws = true) (h0 : 0 ≤ n) (hn : n ≤ (nSt ws : Int)) : (cutR img ws n).2 = 0 ∧ img.length ≤ (cutR img ws n).1.length ∧ ∀ (i : Nat) (s : ByteArray), img[i]? = some s → s.toList ≠ [] → (cutR img ws n).1[i]? = some s := by
  unfold onceB at h
  simp only [Bool.and_eq_true] at h
  obtain ⟨hv, hf⟩ := h
  have hf : ∀ i, i < (stepsL ws).length → freeK (nSt ws) (stepsL ws) img i = true := fun i hi => List.all_eq_true.1 hf i (List.mem_range.2 hi)
  obtain ⟨N, rfl⟩ : ∃ N : Nat, n = N := ⟨n.toNat, by omega⟩
  have hcut : cutR img ws (N : Int) = (cutL N (stepsL ws) img, 0) := by
    unfold cutR
    rw [if_pos hv, if_neg (by omega), Int.toNat_natCast]
  rw [hcut]
  have hlen : ∀ k, img.length ≤ (cutK N (stepsL ws) img k).length := by
    intro k
    induction k with
    | zero => exact Nat.le_refl _
    | succ k ih =>
      cases hs : (stepsL ws)[k]? with
      | none => unfold cutK; rw [hs]; exact ih
      | some s =>
        rw [cutK_succ hs]
        unfold apS
        split
        · exact ih
        · rw [putL_length]; omega
  refine ⟨rfl, hlen _, fun i s hi hs => ?_⟩
  have hNl : N ≤ (stepsL ws).length := by have : nSt ws = (stepsL ws).length := rfl; omega
  have hk1 : (cutK N (stepsL ws) img N)[i]? = some s := by rw [cutK_all (M := nSt ws) (Nat.le_refl _) N (Nat.le_refl _)]; exact keep_all hf hi hs N hNl
  show (cutK N (stepsL ws) img (min (N + 1) (stepsL ws).length))[i]? = some s
  by_cases hNe : N = (stepsL ws).length
  · rw [show min (N + 1) (stepsL ws).length = N by omega]
    exact hk1
  · rw [show min (N + 1) (stepsL ws).length = N + 1 by omega]
    have hx : (stepsL ws)[N]? = some (stepsL ws)[N] := List.getElem?_eq_getElem (by omega)
    have hfk := hf N (by omega)
    unfold freeK at hfk
    rw [hx] at hfk
    dsimp only at hfk
    rw [cutK_succ hx]
    unfold apS
    cases hc : (stepsL ws)[N].cl with
    | true => rw [if_pos rfl]; exact hk1
    | false =>
      rw [if_neg (by simp)]
      rw [hc, Bool.false_or] at hfk
      rw [← cutK_all (n := N) (M := nSt ws) (Nat.le_refl _) N (Nat.le_refl _)] at hfk
      refine putL_keep hk1 fun e => ?_
      unfold hasB at hfk
      rw [e, hk1] at hfk
      cases hq : s.toList with
      | nil => exact hs hq
      | cons a t => simp [hq] at hfk
theorem once_valid {img : Img} {ws : List Wr} (h : onceB img ws = true) : validB img ws = true := by
  unfold onceB at h
  simp only [Bool.and_eq_true] at h
  exact h.1

set_option maxRecDepth 100000 in
set_option maxHeartbeats 4000000 in
theorem keeps_walk (A : Option Addr) (len cap : Nat) (img : List ByteArray) (A' : Option Addr) (len' cap' : Nat) (ws : List Wr) (n : Int) (w : World) (i0 : IsL (fun s => [Value.string s]) (fun s => s.size ≤ maxLen) w A len cap img) (i1 : IsL encW (WrG w) w A' len' cap' ws) (i2 : (Lit.int .i64 n).wf = true) :
    Calls Try.prog 6 #[.slice A len cap, .slice A' len' cap', .int .i64 n] w fun e w' => e = .returned (.bool true) ∧ Below w.heap.size w w' := by
  obtain ⟨rfl, _, _, hs, _⟩ := i0.strs
  obtain ⟨rfl, _, _, hw⟩ := i1.wrs
  have HA : Hid (Arg w A A' img ws) := Lib.hid ⟨hs, hw⟩
  have CF := Lib.hid (fun w h => few_any A A' cap cap' img ws w h)
  clear i0 i1 hs hw i2
  obtain ⟨li, hli⟩ : ∃ li, img.length = li := ⟨_, rfl⟩
  obtain ⟨lw, hlw⟩ : ∃ lw, ws.length = lw := ⟨_, rfl⟩
  have HLI := Lib.hid hli
  have HLW := Lib.hid hlw
  rw [hli, hlw] at CF ⊢
  clear hli hlw
  cases hF : fewB img ws with
  | false =>
    rw [hF] at CF
    go_enter Try.func6, Try.ntmps6
    go_wp2_with fail
    refine (awake_any _).mono ?_
    rintro e w0 ⟨rfl, hb0⟩
    go_wp2_with fail
    refine (CF.out _ (HA.out.below hb0).t).mono ?_
    rintro e w' ⟨rfl, rfl⟩
    go_wp2_with fail
    go_ret
    exact ⟨rfl, hb0⟩
  | true =>
    have HG := Lib.hid (few_of hF)
    rw [hF] at CF
    have HO := Lib.hid (fun w s h => once_any A A' cap cap' img ws w s h HG.out.i6 HG.out.w6 HG.out.x6)
    have HS := Lib.hid (fun w h => rsteps_any A' cap' ws w h HG.out.w3 HG.out.x4)
    have HC := Lib.hid (fun m w s h => cut_any A A' cap cap' img ws m w s h HG.out.i6 HG.out.w6 HG.out.x6 HG.out.n12)
    have HST := Lib.hid (fun w h => steps_any A' cap' ws w h HG.out.w6 HG.out.x6 HG.out.n12)
    rw [HLI.out, HLW.out] at HO HC
    rw [HLW.out] at HS HST
    have hN := HG.out.n
    obtain ⟨N, hNN⟩ : ∃ N, nSt ws = N := ⟨_, rfl⟩
    rw [hNN] at HS HST hN
    have HNN := Lib.hid hNN
    clear hF hNN
    cases hO : onceB img ws with
    | false =>
      rw [hO] at HO
      clear hO
      go_enter Try.func6, Try.ntmps6
      go_wp2_with fail
      refine (awake_any _).mono ?_
      rintro e w0 ⟨rfl, hb0⟩
      have HA0 := Lib.hid (HA.out.below hb0)
      go_wp2_with fail
      refine (CF.out _ HA0.out.t).mono ?_
      rintro e w' ⟨rfl, rfl⟩
      go_wp2_with fail
      refine (HO.out _ HA0.out.s HA0.out.t).mono ?_
      rintro e w1 ⟨rfl, hb1⟩
      go_wp2_with fail
      go_ret
      exact ⟨rfl, hb0.trans (hb1.mono hb0.size)⟩
    | true =>
      rw [hO] at HO
      obtain ⟨R, hR⟩ : ∃ R, cutR img ws n = R := ⟨_, rfl⟩
      have HR := Lib.hid hR
      have HK := Lib.hid (once_keeps (n := n) hO)
      have HE : Hid (n < 0 ∨ (nSt ws : Int) < n → R.2 = 2) := Lib.hid (fun h => by
        rw [← hR]
        unfold cutR
        rw [if_pos (once_valid hO), if_pos h])
      rw [hR, HNN.out] at HK
      rw [HNN.out] at HE
      clear hO hR
      go_enter Try.func6, Try.ntmps6
      go_wp2_with fail
      refine (awake_any _).mono ?_
      rintro e w0 ⟨rfl, hb0⟩
      have HA0 := Lib.hid (HA.out.below hb0)
      go_wp2_with fail
      refine (CF.out _ HA0.out.t).mono ?_
      rintro e w' ⟨rfl, rfl⟩
      go_wp2_with fail
      refine (HO.out _ HA0.out.s HA0.out.t).mono ?_
      rintro e w1 ⟨rfl, hb1⟩
      have HA1 := Lib.hid (HA0.out.below hb1)
      have HB1 := Lib.hid (hb0.trans (hb1.mono hb0.size))
      clear hb0 hb1
      go_wp2_with fail
      refine (HST.out _ HA1.out.t).mono ?_
      rintro e w2 ⟨rfl, hb2⟩
      have HA2 := Lib.hid (HA1.out.below hb2)
      have HB2 := Lib.hid (HB1.out.trans (hb2.mono HB1.out.size))
      clear hb2
      have h0N : ¬ (N : Int) < 0 := by omega
      go_wp2_with fail
      refine (HS.out _ HA2.out.t).mono ?_
      rintro e w' ⟨rfl, rfl⟩
      by_cases hn0 : n < 0
      · have hE := HE.out (.inl hn0)
        have HEE := Lib.hid hE
        clear hE
        go_wp2_with fail
        refine (HC.out n _ HA2.out.s HA2.out.t).mono ?_
        rintro e w3 ⟨hb3, A3, c3, rfl, hs3⟩
        rw [HR.out] at hs3 ⊢
        rw [HEE.out]
        clear hs3
        go_wp2_with fail
        go_ret
        exact ⟨rfl, HB2.out.trans (hb3.mono HB2.out.size)⟩
      · by_cases hn1 : (N : Int) < n
        · have hE := HE.out (.inr hn1)
          have HEE := Lib.hid hE
          clear hE
          go_wp2_with fail
          refine (HC.out n _ HA2.out.s HA2.out.t).mono ?_
          rintro e w3 ⟨hb3, A3, c3, rfl, hs3⟩
          rw [HR.out] at hs3 ⊢
          rw [HEE.out]
          clear hs3
          go_wp2_with fail
          go_ret
          exact ⟨rfl, HB2.out.trans (hb3.mono HB2.out.size)⟩
        · obtain ⟨hk1, hk2, hk3⟩ := HK.out (by omega) (by omega)
          have HK3 := Lib.hid hk3
          have HK1 := Lib.hid hk1
          rw [HLI.out] at hk2
          obtain ⟨lr, hlr⟩ : ∃ lr, R.1.length = lr := ⟨_, rfl⟩
          have HLR := Lib.hid hlr
          rw [hlr] at hk2
          have hlt : ¬ (lr : Int) < (li : Int) := by omega
          clear hk1 hk3 hlr
          go_wp2_with fail
          refine (HC.out n _ HA2.out.s HA2.out.t).mono ?_
          rintro e w3 ⟨hb3, A3, c3, rfl, hs3⟩
          rw [HR.out] at hs3 ⊢
          rw [HK1.out, HLR.out]
          have HA3 := Lib.hid (HA2.out.below hb3)
          have HB3 := Lib.hid (HB2.out.trans (hb3.mono HB2.out.size))
          have HS3 := Lib.hid hs3
          have hli6 : li ≤ 600 := by rw [← HLI.out]; exact HG.out.i
          clear hb3 hs3
          go_wp2_with fail
          go_loop [70] (fun i => ∃ k : Nat, k ≤ li ∧ i = .int .i64 k) (fun i => li - (intOf i).toNat)
          case atStart => exact ⟨0, Nat.zero_le _, rfl⟩
          case round =>
            obtain ⟨k, hk, rfl⟩ := hrel
            by_cases hltk : k < li
            · obtain ⟨s, hs⟩ : ∃ s, img[k]? = some s := ⟨img[k]'(by rw [HLI.out]; exact hltk), List.getElem?_eq_getElem _⟩
              obtain ⟨b, off, hA, hbk⟩ := HA3.out.s.strAddr (by rw [HLI.out]; omega)
              subst hA
              have q := HA3.out.s.str rfl hs
              have hltI : (k : Int) < (li : Int) := by omega
              have hltR : (k : Int) < (lr : Int) := by omega
              have h0k : (0 : Int) ≤ (k : Int) := by omega
              by_cases hse : s.toList = []
              · have hse2 : s.toList.isEmpty = true := by rw [hse]; rfl
                clear hs
                go_wp2_with fail
                go_round
                case rel => exact ⟨k + 1, hltk, by go_num⟩
                case measure => simp [intOf]; omega
              · have hse2 : s.toList.isEmpty = false := isE_false hse
                obtain ⟨b3, off3, hA3, hbk3⟩ := HS3.out.strAddr (by rw [HLR.out]; omega)
                subst hA3
                have q3 := HS3.out.str rfl (HK3.out k s hs hse)
                clear hs hse
                go_wp2_with fail
                go_round
                case rel => exact ⟨k + 1, hltk, by go_num⟩
                case measure => simp [intOf]; omega
            · have hge : ¬ (k : Int) < (li : Int) := by omega
              go_wp2_with fail
              go_ret
              exact ⟨rfl, HB3.out⟩
end Go.Proofs.Ytdmdfpdigoijoaa
