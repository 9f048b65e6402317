/-
  Chapter 24: Continuation of the reference.
-/
import Derived.Test.YtnomodbcpndocaaSuP
namespace Go.Proofs.Ytnomodbcpndocaa
open Go.RowKit
set_option linter.unusedVariables false

theorem fits4 (n : Int) : fitsB n 4 = (decide (0 ≤ n) && decide (n ≤ 4294967295)) := by
  unfold fitsB
  congr 1
  exact decide_eq_decide.2 (by omega)
theorem both1_any (n : Int) (w : World) (hn : n < 9223372036854775808) : Calls Try.prog 60 #[.int .i64 n] w fun e w' => e = .returned (.string (strBoth n 4)) ∧ Below w.heap.size w w' := by
  have C := Lib.hid (rboth_any n 4 w hn)
  generalize strBoth n 4 = S at *
  generalize errBoth n 4 = E at *
  go_enter Try.func60, Try.ntmps60
  go_wp2_with fail
  refine C.out.mono ?_
  rintro e w1 ⟨rfl, hb1⟩
  go_wp2_with fail
  go_ret
  exact ⟨rfl, hb1⟩

set_option maxRecDepth 100000 in
set_option maxHeartbeats 4000000 in
theorem rcontinuation_any (a o l : Int) (w : World) (ha : -9223372036854775808 ≤ a ∧ a < 9223372036854775808) (ho : -9223372036854775808 ≤ o ∧ o < 9223372036854775808) (hl : l < 9223372036854775808) :
    Calls Try.prog 40 #[.agg #[.int .i64 a, .int .i64 o], .int .i64 l] w fun e w' => e = .returned (.tuple #[entV (contX a o l), .int .i64 (contE a o l)]) ∧ Below w.heap.size w w' := by
  have C1 := Lib.hid (fun w => both1_any a w ha.2)
  have C2 := Lib.hid (fun w => both1_any o w ho.2)
  have C3 := Lib.hid (fun w => both1_any l w hl)
  have z1 := strBoth_size a 4
  have z2 := strBoth_size o 4
  have z3 := strBoth_size l 4
  have HSt := Lib.hid (((St.start w).new (g := w.heap.size) rfl #[.int .i64 a, .int .i64 o] 53).new (g := w.heap.size + 1) (by simp) #[.string ⟨#[]⟩, .int .i64 0, .string ⟨#[]⟩] 41)
  have q := (HSt.out.at (i := 0) rfl).cell
  have f := (HSt.out.at (i := 0) rfl).frozen
  by_cases h : 0 ≤ a ∧ a ≤ 4294967295 ∧ 0 ≤ o ∧ o < 2048 ∧ 1 ≤ l ∧ l ≤ 2048 - o
  · obtain ⟨h1, h2, h3, h4, h5, h6⟩ := h
    have hB : contB a o l = true := by
      unfold contB areaB
      rw [fits4, decide_eq_true h1, decide_eq_true h2, decide_eq_true h3, decide_eq_true h4, decide_eq_true h5, decide_eq_true h6]
      rfl
    have HE : Hid (contE a o l = 0) := Lib.hid (by unfold contE; rw [if_pos hB])
    have HX : Hid (contX a o l = ⟨ceS, 1, contD a o l⟩) := Lib.hid (by unfold contX; rw [if_pos hB])
    unfold contD at HX
    generalize strBoth a 4 = S1 at *
    generalize strBoth o 4 = S2 at *
    generalize strBoth l 4 = S3 at *
    have f1 : ¬ a < 0 := by omega
    have f2 : ¬ 4294967295 < a := by omega
    have f3 : ¬ o < 0 := by omega
    have f4 : ¬ 2047 < o := by omega
    have f5 : ¬ l < 1 := by omega
    have f6 : ¬ 2048 - o < l := by omega
    clear hB h4 h5 h6 h2 q f
    go_enter Try.func40, Try.ntmps40
    go_upto_region 3 with fail
    refine wp_region_held_drew (S := (fun w' => ∃ cs, St w w' [(w.heap.size + 1, 41, cs), (w.heap.size, 53, #[.int .i64 a, .int .i64 o])])) (by kernel_rfl) (⟨_, HSt.out.drew⟩) (fun hHeld => ?_)
    refine wpAnyH_take (i := 0) (oi := ?o1) (v := ?v1) ?hi1 (by kernel_rfl) (by kernel_rfl) (by kernel_rfl) ?hq1 ?hy1 (by assumption) ?hr1
    case hi1 => (simp only [List.getElem?_toArray, List.getElem?_cons_zero]; rfl)
    case hy1 => ((refine .inl ⟨by rfl, ?_⟩); intro w hS; go_simp; (try with_reducible rfl))
    case hq1 => exact fun _ _ _ h => h
    (simp only [Act.put, List.setIfInBounds_toArray, List.set_cons_zero, List.set_cons_succ])
    refine wpAnyH_take (i := 1) (oi := ?o2) (v := ?v2) ?hi2 (by kernel_rfl) (by kernel_rfl) (by kernel_rfl) ?hq2 ?hy2 (by assumption) ?hr2
    case hi2 => (simp only [List.getElem?_toArray, List.getElem?_cons_succ, List.getElem?_cons_zero]; rfl)
    case hy2 => ((refine .inl ⟨by rfl, ?_⟩); intro w hS; obtain ⟨cs, hS⟩ := hS; have q := (hS.at (i := 1) rfl).cell; go_simp; (try with_reducible rfl))
    case hq2 => exact fun _ _ _ h => h
    (simp only [Act.put, List.setIfInBounds_toArray, List.set_cons_zero, List.set_cons_succ])
    refine wpAnyH_take (i := 3) (oi := ?o3) (v := ?v3) ?hi3 (by kernel_rfl) (by kernel_rfl) (by kernel_rfl) ?hq3 ?hy3 (by assumption) ?hr3
    case hi3 => (simp only [List.getElem?_toArray, List.getElem?_cons_succ, List.getElem?_cons_zero]; rfl)
    case hy3 => ((refine .inl ⟨by rfl, ?_⟩); intro w hS; go_simp; (try with_reducible rfl))
    case hq3 => exact fun _ _ _ h => h
    (simp only [Act.put, List.setIfInBounds_toArray, List.set_cons_zero, List.set_cons_succ])
    refine wpAnyH_take (i := 4) (oi := ?o4) (v := ?v4) ?hi4 (by kernel_rfl) (by kernel_rfl) (by kernel_rfl) ?hq4 ?hy4 (by assumption) ?hr4
    case hi4 => (simp only [List.getElem?_toArray, List.getElem?_cons_succ, List.getElem?_cons_zero]; rfl)
    case hy4 => ((refine .inl ⟨by rfl, ?_⟩); intro w hS; obtain ⟨cs, hS⟩ := hS; have q := (hS.at (i := 1) rfl).cell; go_simp; (try with_reducible rfl))
    case hq4 => exact fun _ _ _ h => h
    (simp only [Act.put, List.setIfInBounds_toArray, List.set_cons_zero, List.set_cons_succ])
    refine wpAnyH_take (i := 7) (oi := ?o5) (v := ?v5) ?hi5 (by kernel_rfl) (by kernel_rfl) (by kernel_rfl) ?hq5 ?hy5 (by assumption) ?hr5
    case hi5 => (simp only [List.getElem?_toArray, List.getElem?_cons_succ, List.getElem?_cons_zero]; rfl)
    case hy5 => ((refine .inl ⟨by rfl, ?_⟩); intro w hS; go_simp; (try with_reducible rfl))
    case hq5 => exact fun _ _ _ h => h
    (simp only [Act.put, List.setIfInBounds_toArray, List.set_cons_zero, List.set_cons_succ])
    refine wpAnyH_ready (rs := [2]) (by kernel_rfl) (by simp) ?_
    refine AllReadyH.cons rfl (fun K hK => ?_) AllReadyH.nil
    go_simp
    go_wp2_with ((refine (C1.out _).mono ?_; rintro e w2 ⟨rfl, hb2⟩))
    refine hK.out _ _ (⟨_, St.call hb2 HSt.out.drew⟩) (fun hHeld1 => ?_)
    clear hK K
    (try simp only [Act.put, List.setIfInBounds_toArray, List.set_cons_zero, List.set_cons_succ])
    have HX2 := Lib.hid (St.call hb2 HSt.out.drew)
    clear hHeld; have hHeld := hHeld1; clear hHeld1 hb2
    refine wpAnyH_ready (rs := [5]) (by kernel_rfl) (by simp) ?_
    refine AllReadyH.cons rfl (fun K hK => ?_) AllReadyH.nil
    go_simp
    go_wp2_with ((refine (C2.out _).mono ?_; rintro e w5 ⟨rfl, hb5⟩))
    refine hK.out _ _ (⟨_, St.call hb5 HX2.out⟩) (fun hHeld1 => ?_)
    clear hK K
    (try simp only [Act.put, List.setIfInBounds_toArray, List.set_cons_zero, List.set_cons_succ])
    have HX5 := Lib.hid (St.call hb5 HX2.out)
    clear hHeld; have hHeld := hHeld1; clear hHeld1 hb5
    refine wpAnyH_take (i := 6) (oi := ?o6) (v := ?v6) ?hi6 (by kernel_rfl) (by kernel_rfl) (by kernel_rfl) ?hq6 ?hy6 (by assumption) ?hr6
    case hi6 => (simp only [List.getElem?_toArray, List.getElem?_cons_succ, List.getElem?_cons_zero]; rfl)
    case hy6 => ((refine .inl ⟨by rfl, ?_⟩); intro w hS; go_simp; (try (rw [if_neg (by (try simp only [ByteArray.size_append]); (try simp); omega)])); (try with_reducible rfl))
    case hq6 => exact fun _ _ _ h => h
    (simp only [Act.put, List.setIfInBounds_toArray, List.set_cons_zero, List.set_cons_succ])
    refine wpAnyH_ready (rs := [8]) (by kernel_rfl) (by simp) ?_
    refine AllReadyH.cons rfl (fun K hK => ?_) AllReadyH.nil
    go_simp
    go_wp2_with ((refine (C3.out _).mono ?_; rintro e w8 ⟨rfl, hb8⟩))
    refine hK.out _ _ (⟨_, St.call hb8 HX5.out⟩) (fun hHeld1 => ?_)
    clear hK K
    (try simp only [Act.put, List.setIfInBounds_toArray, List.set_cons_zero, List.set_cons_succ])
    have HX8 := Lib.hid (St.call hb8 HX5.out)
    clear hHeld; have hHeld := hHeld1; clear hHeld1 hb8
    have q := (HX8.out.at (i := 0) rfl).cell
    have f := (HX8.out.at (i := 0) rfl).frozen
    have HF := Lib.hid (((HX8.out.set 0 rfl 0 (.string ⟨#[67, 69]⟩)).set 0 rfl 1 (.int .i64 1)).set 0 rfl 2 (.string (S1 ++ S2 ++ S3)))
    refine wpAnyH_take (i := 9) (oi := ?o7) (v := ?v7) ?hi7 (by kernel_rfl) (by kernel_rfl) (by kernel_rfl) ?hq7 ?hy7 (by assumption) ?hr7
    case hi7 => (simp only [List.getElem?_toArray, List.getElem?_cons_succ, List.getElem?_cons_zero]; rfl)
    case hy7 => ((refine .inl ⟨by rfl, ?_⟩); intro w hS; go_simp; (try (rw [if_neg (by (try simp only [ByteArray.size_append]); (try simp); omega)])); (try with_reducible rfl))
    case hq7 => exact fun _ _ _ h => h
    (simp only [Act.put, List.setIfInBounds_toArray, List.set_cons_zero, List.set_cons_succ])
    refine wpAnyH_take (i := 10) (oi := ?o8) (v := ?v8) ?hi8 (by kernel_rfl) (by kernel_rfl) (by kernel_rfl) ?hq8 ?hy8 (by assumption) ?hr8
    case hi8 => (simp only [List.getElem?_toArray, List.getElem?_cons_succ, List.getElem?_cons_zero]; rfl)
    case hy8 => ((refine .inl ⟨by rfl, ?_⟩); intro w hS; go_simp; (try with_reducible rfl))
    case hq8 => exact fun _ _ _ h => h
    (simp only [Act.put, List.setIfInBounds_toArray, List.set_cons_zero, List.set_cons_succ])
    refine wpAnyH_ready (rs := [11]) (by kernel_rfl) (by simp) ?_
    refine AllReadyH.cons rfl (fun K hK => ?_) AllReadyH.nil
    go_simp
    refine hK.out _ _ (⟨_, HF.out⟩) (fun hHeld1 => ?_)
    clear hK K
    (try simp only [Act.put, List.setIfInBounds_toArray, List.set_cons_zero, List.set_cons_succ])
    clear hHeld; have hHeld := hHeld1; clear hHeld1
    refine wpAnyH_take (i := 12) (oi := ?o9) (v := ?v9) ?hi9 (by kernel_rfl) (by kernel_rfl) (by kernel_rfl) ?hq9 ?hy9 (by assumption) ?hr9
    case hi9 => (simp only [List.getElem?_toArray, List.getElem?_cons_succ, List.getElem?_cons_zero]; rfl)
    case hy9 => ((refine .inl ⟨by rfl, ?_⟩); intro w hS; go_simp; (try with_reducible rfl))
    case hq9 => exact fun _ _ _ h => h
    (simp only [Act.put, List.setIfInBounds_toArray, List.set_cons_zero, List.set_cons_succ])
    refine wpAnyH_done (by kernel_rfl) ?_ _
    go_wp2_with fail
    refine bodyPost_ret (v := .tuple #[entV ⟨ceS, 1, S1 ++ S2 ++ S3⟩, .int .i64 0]) (by simp [entV, ceS, results, Try.results40, go_sem, q]) rfl ⟨by rw [HE.out, HX.out], HF.out.bel⟩
  · have hB : contB a o l = false := by
      unfold contB areaB
      rw [fits4, ← Bool.not_eq_true]
      intro hh
      simp only [Bool.and_eq_true, decide_eq_true_eq] at hh
      exact h ⟨hh.1.1, hh.1.2, hh.2.1.1.1, hh.2.1.1.2, hh.2.1.2, hh.2.2⟩
    have HE : Hid (contE a o l = 2) := Lib.hid (by unfold contE; rw [hB]; rfl)
    have HX : Hid (contX a o l = ⟨⟨#[]⟩, 0, ⟨#[]⟩⟩) := Lib.hid (by unfold contX; rw [hB]; rfl)
    clear C1 C2 C3 z1 z2 z3 hB
    by_cases h1 : a < 0
    · clear h
      go_enter Try.func40, Try.ntmps40
      go_wp2_with fail
      refine bodyPost_ret (v := .tuple #[entV ⟨⟨#[]⟩, 0, ⟨#[]⟩⟩, .int .i64 2]) (by simp [entV, results, Try.results40, go_sem]) rfl ⟨by rw [HE.out, HX.out], HSt.out.bel⟩
    by_cases h2 : 4294967295 < a
    · clear h
      go_enter Try.func40, Try.ntmps40
      go_wp2_with fail
      refine bodyPost_ret (v := .tuple #[entV ⟨⟨#[]⟩, 0, ⟨#[]⟩⟩, .int .i64 2]) (by simp [entV, results, Try.results40, go_sem]) rfl ⟨by rw [HE.out, HX.out], HSt.out.bel⟩
    by_cases h3 : o < 0
    · clear h
      go_enter Try.func40, Try.ntmps40
      go_wp2_with fail
      refine bodyPost_ret (v := .tuple #[entV ⟨⟨#[]⟩, 0, ⟨#[]⟩⟩, .int .i64 2]) (by simp [entV, results, Try.results40, go_sem]) rfl ⟨by rw [HE.out, HX.out], HSt.out.bel⟩
    by_cases h4 : 2047 < o
    · clear h
      go_enter Try.func40, Try.ntmps40
      go_wp2_with fail
      refine bodyPost_ret (v := .tuple #[entV ⟨⟨#[]⟩, 0, ⟨#[]⟩⟩, .int .i64 2]) (by simp [entV, results, Try.results40, go_sem]) rfl ⟨by rw [HE.out, HX.out], HSt.out.bel⟩
    by_cases h5 : l < 1
    · clear h
      go_enter Try.func40, Try.ntmps40
      go_wp2_with fail
      refine bodyPost_ret (v := .tuple #[entV ⟨⟨#[]⟩, 0, ⟨#[]⟩⟩, .int .i64 2]) (by simp [entV, results, Try.results40, go_sem]) rfl ⟨by rw [HE.out, HX.out], HSt.out.bel⟩
    · have h6 : 2048 - o < l := by omega
      clear h
      go_enter Try.func40, Try.ntmps40
      go_wp2_with fail
      refine bodyPost_ret (v := .tuple #[entV ⟨⟨#[]⟩, 0, ⟨#[]⟩⟩, .int .i64 2]) (by simp [entV, results, Try.results40, go_sem]) rfl ⟨by rw [HE.out, HX.out], HSt.out.bel⟩
end Go.Proofs.Ytnomodbcpndocaa
