/-
  The reference's read.
-/
import Derived.Test.YtjlppndlgdgekaaCat
import Derived.Test.YtjlppndlgdgekaaNumR
import Derived.Deep.Cut
import Derived.Deep.RegionWith
namespace Go.Proofs.Ytjlppndlgdgekaa
open Go.RowKit
set_option linter.unusedVariables false

def zeroI : Img := ⟨0, 0, 0, 0, 0, false⟩
/-- What the reference reads of an entry. -/
def rdR (x : List UInt8) (p : Int) : Img × Int := if byteL x 0 ≠ 136 ∧ byteL x 0 ≠ 0 then (zeroI, 10) else if 4 < byteL x 1 then (zeroI, 14) else (imgOf p x, 0)

set_option maxHeartbeats 2000000 in
theorem rread_any (s : ByteArray) (h : s.size = 32) (p : Int) (w : World) :
    Calls Try.prog 37 #[.string s, .int .i64 p] w fun e w' => e = .returned (.tuple #[imV (rdR s.data.toList p).1, .int .i64 (rdR s.data.toList p).2]) ∧ Below w.heap.size w w' := by
  have h0 : 0 < s.size := by omega
  have h1 : 1 < s.size := by omega
  have hI : (s.size : Int) = 32 := by omega
  have B0 := byteL_get s 0 h0
  have B1 := byteL_get s 1 h1
  have b0l := s[0].toNat_lt
  have b1l := s[1].toNat_lt
  by_cases k0 : (s[0].toNat : Int) ≠ 136 ∧ (s[0].toNat : Int) ≠ 0
  · have HR : Hid (rdR s.data.toList p = (zeroI, 10)) := Lib.hid (by unfold rdR; rw [B0, if_pos k0])
    have k1 : ((s[0].toNat : Int) != 136) = true := by rw [bne_iff_ne]; exact k0.1
    have k2 : ((s[0].toNat : Int) != 0) = true := by rw [bne_iff_ne]; exact k0.2
    rw [HR.out]
    clear B0 B1 k0 HR
    have h2 := (St.start w).new (g := w.heap.size) rfl #[.int .i64 0, .int .i64 0, .int .i64 0, .int .i64 0, .int .i64 0, .bool false] 34
    have q := (h2.at (i := 0) rfl).cell
    go_enter Try.func37, Try.ntmps37
    go_wp2_with fail
    refine bodyPost_ret (v := .tuple #[imV zeroI, .int .i64 10]) (by simp [results, Try.results37, go_sem, q, imV, zeroI]) rfl ⟨rfl, h2.bel⟩
  · by_cases k1 : (4 : Int) < (s[1].toNat : Int)
    · have HR : Hid (rdR s.data.toList p = (zeroI, 14)) := Lib.hid (by unfold rdR; rw [B0, if_neg k0, B1, if_pos k1])
      have k1' : decide (4 < s[1].toNat) = true := decide_eq_true (by omega)
      rw [HR.out]
      have h2 := (St.start w).new (g := w.heap.size) rfl #[.int .i64 0, .int .i64 0, .int .i64 0, .int .i64 0, .int .i64 0, .bool false] 34
      have q := (h2.at (i := 0) rfl).cell
      have k2 : (s[0].toNat : Int) = 136 ∨ (s[0].toNat : Int) = 0 := by omega
      clear B0 B1 HR k0
      rcases k2 with k2 | k2
      all_goals
        go_enter Try.func37, Try.ntmps37
        go_wp2_with fail
        refine bodyPost_ret (v := .tuple #[imV zeroI, .int .i64 14]) (by simp [results, Try.results37, go_sem, q, imV, zeroI]) rfl ⟨rfl, h2.bel⟩
    · have HR : Hid (rdR s.data.toList p = (imgOf p s.data.toList, 0)) := Lib.hid (by unfold rdR; rw [B0, if_neg k0, B1, if_neg k1])
      have HIM : Hid (imgOf p s.data.toList = ⟨p, (s[1].toNat : Int), rdL s.data.toList 2 2, rdL s.data.toList 6 2, rdL s.data.toList 8 4, (s[0].toNat : Int) == 136⟩) := Lib.hid (by unfold imgOf; rw [B0, B1])
      have k1' : decide (4 < s[1].toNat) = false := decide_eq_false (by omega)
      rw [HR.out, HIM.out]
      have R2 := Lib.hid (fun w => rreadlittle_any s 2 2 w (by omega))
      have R6 := Lib.hid (fun w => rreadlittle_any s 6 2 w (by omega))
      have R8 := Lib.hid (fun w => rreadlittle_any s 8 4 w (by omega))
      have E2 := rd_eq s h 2 2 (by omega) (by omega) (by omega)
      have E6 := rd_eq s h 6 2 (by omega) (by omega) (by omega)
      have E8 := rd_eq s h 8 4 (by omega) (by omega) (by omega)
      simp only [Int.cast_ofNat_Int] at E2 E6 E8
      rw [E2] at R2
      rw [E6] at R6
      rw [E8] at R8
      have k2 : (s[0].toNat : Int) = 136 ∨ (s[0].toNat : Int) = 0 := by omega
      generalize rdL s.data.toList 2 2 = r2 at *
      generalize rdL s.data.toList 6 2 = r6 at *
      generalize rdL s.data.toList 8 4 = r8 at *
      clear B0 B1 HR HIM k0 E2 E6 E8
      have ew : IntKind.i64.wrap (s[1].toNat : Int) = (s[1].toNat : Int) := IntWalk.i64_in _ (by omega)
      rcases k2 with k2 | k2
      · go_enter Try.func37, Try.ntmps37
        go_upto_region 5 with fail
        refine wp_region_held_drew (S := fun _ => True) (by kernel_rfl) (trivial) (fun hHeld => ?_)
        refine wpAnyH_take (i := 0) (oi := ?o1) (v := ?v1) ?hi1 (by kernel_rfl) (by kernel_rfl) (by kernel_rfl) ?hq1 ?hy1 (by assumption) ?hr1
        case hi1 => (simp only [List.getElem?_toArray, List.getElem?_cons_zero]; rfl)
        case hy1 => ((refine .inl ⟨by rfl, ?_⟩); intro w hS; go_simp; (try with_reducible rfl))
        case hq1 => exact fun _ _ _ h => h
        (simp only [Act.put, List.setIfInBounds_toArray, List.set_cons_zero, List.set_cons_succ])
        refine wpAnyH_take (i := 1) (oi := ?o2) (v := ?v2) ?hi2 (by kernel_rfl) (by kernel_rfl) (by kernel_rfl) ?hq2 ?hy2 (by assumption) ?hr2
        case hi2 => (simp only [List.getElem?_toArray, List.getElem?_cons_succ, List.getElem?_cons_zero]; rfl)
        case hy2 => ((refine .inl ⟨by rfl, ?_⟩); intro w hS; go_simp; (try with_reducible rfl))
        case hq2 => exact fun _ _ _ h => h
        (simp only [Act.put, List.setIfInBounds_toArray, List.set_cons_zero, List.set_cons_succ])
        refine wpAnyH_take (i := 2) (oi := ?o3) (v := ?v3) ?hi3 (by kernel_rfl) (by kernel_rfl) (by kernel_rfl) ?hq3 ?hy3 (by assumption) ?hr3
        case hi3 => (simp only [List.getElem?_toArray, List.getElem?_cons_succ, List.getElem?_cons_zero]; rfl)
        case hy3 => ((refine .inl ⟨by rfl, ?_⟩); intro w hS; go_simp; (try with_reducible rfl))
        case hq3 => exact fun _ _ _ h => h
        (simp only [Act.put, List.setIfInBounds_toArray, List.set_cons_zero, List.set_cons_succ])
        refine wpAnyH_take (i := 3) (oi := ?o4) (v := ?v4) ?hi4 (by kernel_rfl) (by kernel_rfl) (by kernel_rfl) ?hq4 ?hy4 (by assumption) ?hr4
        case hi4 => (simp only [List.getElem?_toArray, List.getElem?_cons_succ, List.getElem?_cons_zero]; rfl)
        case hy4 => ((refine .inl ⟨by rfl, ?_⟩); intro w hS; go_simp; (try with_reducible rfl))
        case hq4 => exact fun _ _ _ h => h
        (simp only [Act.put, List.setIfInBounds_toArray, List.set_cons_zero, List.set_cons_succ])
        refine wpAnyH_take (i := 4) (oi := ?o5) (v := ?v5) ?hi5 (by kernel_rfl) (by kernel_rfl) (by kernel_rfl) ?hq5 ?hy5 (by assumption) ?hr5
        case hi5 => (simp only [List.getElem?_toArray, List.getElem?_cons_succ, List.getElem?_cons_zero]; rfl)
        case hy5 => ((refine .inl ⟨by rfl, ?_⟩); intro w hS; go_simp; (try with_reducible rfl))
        case hq5 => exact fun _ _ _ h => h
        (simp only [Act.put, List.setIfInBounds_toArray, List.set_cons_zero, List.set_cons_succ])
        refine wpAnyH_take (i := 5) (oi := ?o6) (v := ?v6) ?hi6 (by kernel_rfl) (by kernel_rfl) (by kernel_rfl) ?hq6 ?hy6 (by assumption) ?hr6
        case hi6 => (simp only [List.getElem?_toArray, List.getElem?_cons_succ, List.getElem?_cons_zero]; rfl)
        case hy6 => ((refine .inl ⟨by rfl, ?_⟩); intro w hS; go_simp; (try with_reducible rfl))
        case hq6 => exact fun _ _ _ h => h
        (simp only [Act.put, List.setIfInBounds_toArray, List.set_cons_zero, List.set_cons_succ])
        refine wpAnyH_take (i := 6) (oi := ?o7) (v := ?v7) ?hi7 (by kernel_rfl) (by kernel_rfl) (by kernel_rfl) ?hq7 ?hy7 (by assumption) ?hr7
        case hi7 => (simp only [List.getElem?_toArray, List.getElem?_cons_succ, List.getElem?_cons_zero]; rfl)
        case hy7 => ((refine .inl ⟨by rfl, ?_⟩); intro w hS; go_simp; (try with_reducible rfl))
        case hq7 => exact fun _ _ _ h => h
        (simp only [Act.put, List.setIfInBounds_toArray, List.set_cons_zero, List.set_cons_succ])
        refine wpAnyH_take (i := 7) (oi := ?o8) (v := ?v8) ?hi8 (by kernel_rfl) (by kernel_rfl) (by kernel_rfl) ?hq8 ?hy8 (by assumption) ?hr8
        case hi8 => (simp only [List.getElem?_toArray, List.getElem?_cons_succ, List.getElem?_cons_zero]; rfl)
        case hy8 => ((refine .inl ⟨by rfl, ?_⟩); intro w hS; go_simp; (try with_reducible rfl))
        case hq8 => exact fun _ _ _ h => h
        (simp only [Act.put, List.setIfInBounds_toArray, List.set_cons_zero, List.set_cons_succ])
        refine wpAnyH_ready (rs := [8]) (by kernel_rfl) (by simp) ?_
        refine AllReadyH.cons rfl (fun K hK => ?_) AllReadyH.nil
        go_simp
        refine hK.out _ _ (trivial) (fun hHeld => ?_)
        clear hK K
        (try simp only [Act.put, List.setIfInBounds_toArray, List.set_cons_zero, List.set_cons_succ])
        refine wpAnyH_ready (rs := [9]) (by kernel_rfl) (by simp) ?_
        refine AllReadyH.cons rfl (fun K hK => ?_) AllReadyH.nil
        go_simp
        refine hK.out _ _ (trivial) (fun hHeld => ?_)
        clear hK K
        (try simp only [Act.put, List.setIfInBounds_toArray, List.set_cons_zero, List.set_cons_succ])
        refine wpAnyH_done (by kernel_rfl) ?_ _
        have h2 : St w _ [(w.heap.size + 1, 34, #[.int .i64 p, .int .i64 (s[1].toNat : Int), .int .i64 0, .int .i64 0, .int .i64 0, .bool true]), (w.heap.size, 34, #[.int .i64 0, .int .i64 0, .int .i64 0, .int .i64 0, .int .i64 0, .bool false])] := (((St.start w).new (g := w.heap.size) rfl #[.int .i64 0, .int .i64 0, .int .i64 0, .int .i64 0, .int .i64 0, .bool false] 34).new (g := w.heap.size + 1) (by simp) #[.int .i64 p, .int .i64 (s[1].toNat : Int), .int .i64 0, .int .i64 0, .int .i64 0, .bool true] 34).drew
        clear hHeld ew
        go_wp2_with fail
        refine (R2.out _).mono ?_
        rintro e w1 ⟨rfl, hb1⟩
        have h3 := St.call hb1 h2
        have c1 := (h3.at (i := 0) rfl).cell
        have f1 := (h3.at (i := 0) rfl).frozen
        clear hb1 h2
        go_wp2_with fail
        refine (R6.out _).mono ?_
        rintro e w2 ⟨rfl, hb2⟩
        have h4 := St.call hb2 (h3.set 0 rfl 2 (.int .i64 r2))
        clear c1 f1 hb2 h3
        have c1 := (h4.at (i := 0) rfl).cell
        have f1 := (h4.at (i := 0) rfl).frozen
        go_wp2_with fail
        refine (R8.out _).mono ?_
        rintro e w3 ⟨rfl, hb3⟩
        have h5 := St.call hb3 (h4.set 0 rfl 3 (.int .i64 r6))
        clear c1 f1 hb3 h4
        have c1 := (h5.at (i := 0) rfl).cell
        have f1 := (h5.at (i := 0) rfl).frozen
        have c0 := (h5.at (i := 1) rfl).cell
        have f0 := (h5.at (i := 1) rfl).frozen
        go_wp2_with fail
        have h6 := (((((((h5.set 0 rfl 4 (.int .i64 r8)).set 1 rfl 0 (.int .i64 p)).set 1 rfl 1 (.int .i64 (s[1].toNat : Int))).set 1 rfl 2 (.int .i64 r2)).set 1 rfl 3 (.int .i64 r6)).set 1 rfl 4 (.int .i64 r8)).set 1 rfl 5 (.bool true))
        refine bodyPost_ret (v := .tuple #[imV ⟨p, (s[1].toNat : Int), r2, r6, r8, true⟩, .int .i64 0]) (by simp [results, Try.results37, go_sem, c0, imV]) rfl ⟨by rw [k2]; rfl, h6.bel⟩
      · go_enter Try.func37, Try.ntmps37
        go_upto_region 5 with fail
        refine wp_region_held_drew (S := fun _ => True) (by kernel_rfl) (trivial) (fun hHeld => ?_)
        refine wpAnyH_take (i := 0) (oi := ?o9) (v := ?v9) ?hi9 (by kernel_rfl) (by kernel_rfl) (by kernel_rfl) ?hq9 ?hy9 (by assumption) ?hr9
        case hi9 => (simp only [List.getElem?_toArray, List.getElem?_cons_zero]; rfl)
        case hy9 => ((refine .inl ⟨by rfl, ?_⟩); intro w hS; go_simp; (try with_reducible rfl))
        case hq9 => exact fun _ _ _ h => h
        (simp only [Act.put, List.setIfInBounds_toArray, List.set_cons_zero, List.set_cons_succ])
        refine wpAnyH_take (i := 1) (oi := ?o10) (v := ?v10) ?hi10 (by kernel_rfl) (by kernel_rfl) (by kernel_rfl) ?hq10 ?hy10 (by assumption) ?hr10
        case hi10 => (simp only [List.getElem?_toArray, List.getElem?_cons_succ, List.getElem?_cons_zero]; rfl)
        case hy10 => ((refine .inl ⟨by rfl, ?_⟩); intro w hS; go_simp; (try with_reducible rfl))
        case hq10 => exact fun _ _ _ h => h
        (simp only [Act.put, List.setIfInBounds_toArray, List.set_cons_zero, List.set_cons_succ])
        refine wpAnyH_take (i := 2) (oi := ?o11) (v := ?v11) ?hi11 (by kernel_rfl) (by kernel_rfl) (by kernel_rfl) ?hq11 ?hy11 (by assumption) ?hr11
        case hi11 => (simp only [List.getElem?_toArray, List.getElem?_cons_succ, List.getElem?_cons_zero]; rfl)
        case hy11 => ((refine .inl ⟨by rfl, ?_⟩); intro w hS; go_simp; (try with_reducible rfl))
        case hq11 => exact fun _ _ _ h => h
        (simp only [Act.put, List.setIfInBounds_toArray, List.set_cons_zero, List.set_cons_succ])
        refine wpAnyH_take (i := 3) (oi := ?o12) (v := ?v12) ?hi12 (by kernel_rfl) (by kernel_rfl) (by kernel_rfl) ?hq12 ?hy12 (by assumption) ?hr12
        case hi12 => (simp only [List.getElem?_toArray, List.getElem?_cons_succ, List.getElem?_cons_zero]; rfl)
        case hy12 => ((refine .inl ⟨by rfl, ?_⟩); intro w hS; go_simp; (try with_reducible rfl))
        case hq12 => exact fun _ _ _ h => h
        (simp only [Act.put, List.setIfInBounds_toArray, List.set_cons_zero, List.set_cons_succ])
        refine wpAnyH_take (i := 4) (oi := ?o13) (v := ?v13) ?hi13 (by kernel_rfl) (by kernel_rfl) (by kernel_rfl) ?hq13 ?hy13 (by assumption) ?hr13
        case hi13 => (simp only [List.getElem?_toArray, List.getElem?_cons_succ, List.getElem?_cons_zero]; rfl)
        case hy13 => ((refine .inl ⟨by rfl, ?_⟩); intro w hS; go_simp; (try with_reducible rfl))
        case hq13 => exact fun _ _ _ h => h
        (simp only [Act.put, List.setIfInBounds_toArray, List.set_cons_zero, List.set_cons_succ])
        refine wpAnyH_take (i := 5) (oi := ?o14) (v := ?v14) ?hi14 (by kernel_rfl) (by kernel_rfl) (by kernel_rfl) ?hq14 ?hy14 (by assumption) ?hr14
        case hi14 => (simp only [List.getElem?_toArray, List.getElem?_cons_succ, List.getElem?_cons_zero]; rfl)
        case hy14 => ((refine .inl ⟨by rfl, ?_⟩); intro w hS; go_simp; (try with_reducible rfl))
        case hq14 => exact fun _ _ _ h => h
        (simp only [Act.put, List.setIfInBounds_toArray, List.set_cons_zero, List.set_cons_succ])
        refine wpAnyH_take (i := 6) (oi := ?o15) (v := ?v15) ?hi15 (by kernel_rfl) (by kernel_rfl) (by kernel_rfl) ?hq15 ?hy15 (by assumption) ?hr15
        case hi15 => (simp only [List.getElem?_toArray, List.getElem?_cons_succ, List.getElem?_cons_zero]; rfl)
        case hy15 => ((refine .inl ⟨by rfl, ?_⟩); intro w hS; go_simp; (try with_reducible rfl))
        case hq15 => exact fun _ _ _ h => h
        (simp only [Act.put, List.setIfInBounds_toArray, List.set_cons_zero, List.set_cons_succ])
        refine wpAnyH_take (i := 7) (oi := ?o16) (v := ?v16) ?hi16 (by kernel_rfl) (by kernel_rfl) (by kernel_rfl) ?hq16 ?hy16 (by assumption) ?hr16
        case hi16 => (simp only [List.getElem?_toArray, List.getElem?_cons_succ, List.getElem?_cons_zero]; rfl)
        case hy16 => ((refine .inl ⟨by rfl, ?_⟩); intro w hS; go_simp; (try with_reducible rfl))
        case hq16 => exact fun _ _ _ h => h
        (simp only [Act.put, List.setIfInBounds_toArray, List.set_cons_zero, List.set_cons_succ])
        refine wpAnyH_ready (rs := [8]) (by kernel_rfl) (by simp) ?_
        refine AllReadyH.cons rfl (fun K hK => ?_) AllReadyH.nil
        go_simp
        refine hK.out _ _ (trivial) (fun hHeld => ?_)
        clear hK K
        (try simp only [Act.put, List.setIfInBounds_toArray, List.set_cons_zero, List.set_cons_succ])
        refine wpAnyH_ready (rs := [9]) (by kernel_rfl) (by simp) ?_
        refine AllReadyH.cons rfl (fun K hK => ?_) AllReadyH.nil
        go_simp
        refine hK.out _ _ (trivial) (fun hHeld => ?_)
        clear hK K
        (try simp only [Act.put, List.setIfInBounds_toArray, List.set_cons_zero, List.set_cons_succ])
        refine wpAnyH_done (by kernel_rfl) ?_ _
        have h2 : St w _ [(w.heap.size + 1, 34, #[.int .i64 p, .int .i64 (s[1].toNat : Int), .int .i64 0, .int .i64 0, .int .i64 0, .bool false]), (w.heap.size, 34, #[.int .i64 0, .int .i64 0, .int .i64 0, .int .i64 0, .int .i64 0, .bool false])] := (((St.start w).new (g := w.heap.size) rfl #[.int .i64 0, .int .i64 0, .int .i64 0, .int .i64 0, .int .i64 0, .bool false] 34).new (g := w.heap.size + 1) (by simp) #[.int .i64 p, .int .i64 (s[1].toNat : Int), .int .i64 0, .int .i64 0, .int .i64 0, .bool false] 34).drew
        clear hHeld ew
        go_wp2_with fail
        refine (R2.out _).mono ?_
        rintro e w1 ⟨rfl, hb1⟩
        have h3 := St.call hb1 h2
        have c1 := (h3.at (i := 0) rfl).cell
        have f1 := (h3.at (i := 0) rfl).frozen
        clear hb1 h2
        go_wp2_with fail
        refine (R6.out _).mono ?_
        rintro e w2 ⟨rfl, hb2⟩
        have h4 := St.call hb2 (h3.set 0 rfl 2 (.int .i64 r2))
        clear c1 f1 hb2 h3
        have c1 := (h4.at (i := 0) rfl).cell
        have f1 := (h4.at (i := 0) rfl).frozen
        go_wp2_with fail
        refine (R8.out _).mono ?_
        rintro e w3 ⟨rfl, hb3⟩
        have h5 := St.call hb3 (h4.set 0 rfl 3 (.int .i64 r6))
        clear c1 f1 hb3 h4
        have c1 := (h5.at (i := 0) rfl).cell
        have f1 := (h5.at (i := 0) rfl).frozen
        have c0 := (h5.at (i := 1) rfl).cell
        have f0 := (h5.at (i := 1) rfl).frozen
        go_wp2_with fail
        have h6 := (((((((h5.set 0 rfl 4 (.int .i64 r8)).set 1 rfl 0 (.int .i64 p)).set 1 rfl 1 (.int .i64 (s[1].toNat : Int))).set 1 rfl 2 (.int .i64 r2)).set 1 rfl 3 (.int .i64 r6)).set 1 rfl 4 (.int .i64 r8)).set 1 rfl 5 (.bool false))
        refine bodyPost_ret (v := .tuple #[imV ⟨p, (s[1].toNat : Int), r2, r6, r8, false⟩, .int .i64 0]) (by simp [results, Try.results37, go_sem, c0, imV]) rfl ⟨by rw [k2]; rfl, h6.bel⟩
end Go.Proofs.Ytjlppndlgdgekaa
