/-
  Chapter 24: References of the program. Printed by gen_suk.py out of XSuJ.in.
-/
import Derived.Test.YtnomodbcpndocaaSuJ
namespace Go.Proofs.Ytnomodbcpndocaa
open Go.RowKit
set_option linter.unusedVariables false

set_option maxRecDepth 100000 in
set_option maxHeartbeats 4000000 in
theorem references_any (A : Option Addr) (c : Nat) (l : List Ent) (w : World) (h : EnAt w w.heap.size A l) (hl : l.length ≤ 1000000) :
    Calls Try.prog 31 #[.slice A l.length c] w (RefRes l w) := by
  have HS := Lib.hid h
  obtain ⟨n, hn⟩ : ∃ n, l.length = n := ⟨_, rfl⟩
  have HN := Lib.hid hn
  rw [hn] at hl ⊢
  clear h hn
  go_enter Try.func31, Try.ntmps31
  go_wp2_with fail
  go_loopw [3, 9] (fun o i wr => ∃ k : Nat, k ≤ n ∧ i = .int .i64 k ∧ wr.ownsRow w.heap.size 9 1 o (refL (l.take k)).length (strV (refL (l.take k))) ∧ Below w.heap.size w wr) (fun _ i _ => n - (intOf i).toNat)
  case atStart => exact ⟨0, by omega, rfl, World.ownsRow_nil _ _ _ _, Below.refl _ _⟩
  case round =>
    obtain ⟨k, hk, rfl, hown, hbel⟩ := hrel
    obtain ⟨Ao, co, rfl⟩ := own_slice hown
    by_cases hlt : k < n
    · obtain ⟨x, hx⟩ : ∃ s, l[k]? = some s := ⟨l[k]'(by rw [HN.out]; exact hlt), List.getElem?_eq_getElem _⟩
      obtain ⟨b, off, hA, hbk⟩ := HS.out.one (by rw [HN.out]; omega)
      subst hA
      obtain ⟨p0, p1, p2⟩ := (HS.out.below hbel).cells rfl hx
      have hltI : (k : Int) < (n : Int) := by omega
      have h0k : (0 : Int) ≤ (k : Int) := by omega
      have HTK := Lib.hid (refL_take hx)
      have hle := refL_le (l.take k)
      rw [List.length_take] at hle
      obtain ⟨R, hR⟩ : ∃ R, refL (l.take k) = R := ⟨_, rfl⟩
      rw [hR] at hown HTK hle ⊢
      have hRl : R.length ≤ 1000000 := by omega
      have HO := Lib.hid hown
      have HB := Lib.hid hbel
      have HX := Lib.hid hx
      have hA1 := Lib.hid (show R.length + 1 ≤ maxLen by unfold maxLen; omega)
      have HA2 := Lib.hid (show (R.length + 1) * 16 ≤ 140737488355328 by omega)
      clear hx hR hown hbel hle
      have hst := (St.start wr).new (g := wr.heap.size) rfl #[.string x.sg, .int .i64 x.v, .string x.d] 41
      by_cases hg : refP x
      · have hro : refO x = [x.d.extract 4 (4 + nthB x.d 0)] := by unfold refO; rw [if_pos hg]
        rw [hro] at HTK
        obtain ⟨h1, h2, h3⟩ := hg
        have HF0 : Hid (x.sg = ⟨#[69, 82]⟩) := Lib.hid h1
        obtain ⟨n0, n1, n2, e0, hn0, hn1, hn2, w0, w1, w2, j0, j1, j2, f1, f2, w3, w4, w5, w6, w7, w8, w9, j3, v0, v1, v2, u0⟩ := ref_nums h2 h3
        rw [e0] at HTK
        clear h1 h3 e0 hro
        go_upto_region 6 with fail
        have f0 := HF0.out
        refine wp_region_held_drew (S := (fun w' => St wr w' [(wr.heap.size, 41, #[.string x.sg, .int .i64 x.v, .string x.d])])) (by kernel_rfl) (hst.drew) (fun hHeld => ?_)
        refine wpAnyH_take (i := 0) (oi := ?o1) (v := ?v1) ?hi1 (by kernel_rfl) (by kernel_rfl) (by kernel_rfl) ?hq1 ?hy1 (by assumption) ?hr1
        case hi1 => (simp only [List.getElem?_toArray, List.getElem?_cons_zero]; rfl)
        case hy1 => ((refine .inl ⟨by rfl, ?_⟩); intro w hS; go_simp; (try with_reducible rfl))
        case hq1 => exact fun _ _ _ h => h
        (simp only [Act.put, List.setIfInBounds_toArray, List.set_cons_zero, List.set_cons_succ])
        refine wpAnyH_take (i := 1) (oi := ?o2) (v := ?v2) ?hi2 (by kernel_rfl) (by kernel_rfl) (by kernel_rfl) ?hq2 ?hy2 (by assumption) ?hr2
        case hi2 => (simp only [List.getElem?_toArray, List.getElem?_cons_succ, List.getElem?_cons_zero]; rfl)
        case hy2 => ((refine .inl ⟨by rfl, ?_⟩); intro w hS; have q := (hS.at (i := 0) rfl).cell 0; go_simp; (try with_reducible rfl))
        case hq2 => exact fun _ _ _ h => h
        (simp only [Act.put, List.setIfInBounds_toArray, List.set_cons_zero, List.set_cons_succ])
        refine wpAnyH_take (i := 2) (oi := ?o3) (v := ?v3) ?hi3 (by kernel_rfl) (by kernel_rfl) (by kernel_rfl) ?hq3 ?hy3 (by assumption) ?hr3
        case hi3 => (simp only [List.getElem?_toArray, List.getElem?_cons_succ, List.getElem?_cons_zero]; rfl)
        case hy3 => ((refine .inl ⟨by rfl, ?_⟩); intro w hS; go_simp; (try with_reducible rfl))
        case hq3 => exact fun _ _ _ h => h
        (simp only [Act.put, List.setIfInBounds_toArray, List.set_cons_zero, List.set_cons_succ])
        refine wpAnyH_take (i := 3) (oi := ?o4) (v := ?v4) ?hi4 (by kernel_rfl) (by kernel_rfl) (by kernel_rfl) ?hq4 ?hy4 (by assumption) ?hr4
        case hi4 => (simp only [List.getElem?_toArray, List.getElem?_cons_succ, List.getElem?_cons_zero]; rfl)
        case hy4 => ((refine .inl ⟨by rfl, ?_⟩); intro w hS; go_simp; (try with_reducible rfl))
        case hq4 => exact fun _ _ _ h => h
        (simp only [Act.put, List.setIfInBounds_toArray, List.set_cons_zero, List.set_cons_succ])
        refine wpAnyH_take (i := 4) (oi := ?o5) (v := ?v5) ?hi5 (by kernel_rfl) (by kernel_rfl) (by kernel_rfl) ?hq5 ?hy5 (by assumption) ?hr5
        case hi5 => (simp only [List.getElem?_toArray, List.getElem?_cons_succ, List.getElem?_cons_zero]; rfl)
        case hy5 => ((refine .inl ⟨by rfl, ?_⟩); intro w hS; go_simp; (try with_reducible rfl))
        case hq5 => exact fun _ _ _ h => h
        (simp only [Act.put, List.setIfInBounds_toArray, List.set_cons_zero, List.set_cons_succ])
        refine wpAnyH_take (i := 5) (oi := ?o6) (v := ?v6) ?hi6 (by kernel_rfl) (by kernel_rfl) (by kernel_rfl) ?hq6 ?hy6 (by assumption) ?hr6
        case hi6 => (simp only [List.getElem?_toArray, List.getElem?_cons_succ, List.getElem?_cons_zero]; rfl)
        case hy6 => ((refine .inl ⟨by rfl, ?_⟩); intro w hS; go_simp; (try with_reducible rfl))
        case hq6 => exact fun _ _ _ h => h
        (simp only [Act.put, List.setIfInBounds_toArray, List.set_cons_zero, List.set_cons_succ])
        refine wpAnyH_take (i := 6) (oi := ?o7) (v := ?v7) ?hi7 (by kernel_rfl) (by kernel_rfl) (by kernel_rfl) ?hq7 ?hy7 (by assumption) ?hr7
        case hi7 => (simp only [List.getElem?_toArray, List.getElem?_cons_succ, List.getElem?_cons_zero]; rfl)
        case hy7 => ((refine .inl ⟨by rfl, ?_⟩); intro w hS; go_simp; (try with_reducible rfl))
        case hq7 => exact fun _ _ _ h => h
        (simp only [Act.put, List.setIfInBounds_toArray, List.set_cons_zero, List.set_cons_succ])
        refine wpAnyH_take (i := 7) (oi := ?o8) (v := ?v8) ?hi8 (by kernel_rfl) (by kernel_rfl) (by kernel_rfl) ?hq8 ?hy8 (by assumption) ?hr8
        case hi8 => (simp only [List.getElem?_toArray, List.getElem?_cons_succ, List.getElem?_cons_zero]; rfl)
        case hy8 => ((refine .inl ⟨by rfl, ?_⟩); intro w hS; go_simp; (try with_reducible rfl))
        case hq8 => exact fun _ _ _ h => h
        (simp only [Act.put, List.setIfInBounds_toArray, List.set_cons_zero, List.set_cons_succ])
        refine wpAnyH_take (i := 8) (oi := ?o9) (v := ?v9) ?hi9 (by kernel_rfl) (by kernel_rfl) (by kernel_rfl) ?hq9 ?hy9 (by assumption) ?hr9
        case hi9 => (simp only [List.getElem?_toArray, List.getElem?_cons_succ, List.getElem?_cons_zero]; rfl)
        case hy9 => ((refine .inl ⟨by rfl, ?_⟩); intro w hS; go_simp; (try with_reducible rfl))
        case hq9 => exact fun _ _ _ h => h
        (simp only [Act.put, List.setIfInBounds_toArray, List.set_cons_zero, List.set_cons_succ])
        refine wpAnyH_take (i := 9) (oi := ?o10) (v := ?v10) ?hi10 (by kernel_rfl) (by kernel_rfl) (by kernel_rfl) ?hq10 ?hy10 (by assumption) ?hr10
        case hi10 => (simp only [List.getElem?_toArray, List.getElem?_cons_succ, List.getElem?_cons_zero]; rfl)
        case hy10 => ((refine .inl ⟨by rfl, ?_⟩); intro w hS; go_simp; (try with_reducible rfl))
        case hq10 => exact fun _ _ _ h => h
        (simp only [Act.put, List.setIfInBounds_toArray, List.set_cons_zero, List.set_cons_succ])
        refine wpAnyH_take (i := 10) (oi := ?o11) (v := ?v11) ?hi11 (by kernel_rfl) (by kernel_rfl) (by kernel_rfl) ?hq11 ?hy11 (by assumption) ?hr11
        case hi11 => (simp only [List.getElem?_toArray, List.getElem?_cons_succ, List.getElem?_cons_zero]; rfl)
        case hy11 => ((refine .inl ⟨by rfl, ?_⟩); intro w hS; go_simp; (try with_reducible rfl))
        case hq11 => exact fun _ _ _ h => h
        (simp only [Act.put, List.setIfInBounds_toArray, List.set_cons_zero, List.set_cons_succ])
        refine wpAnyH_take (i := 11) (oi := ?o12) (v := ?v12) ?hi12 (by kernel_rfl) (by kernel_rfl) (by kernel_rfl) ?hq12 ?hy12 (by assumption) ?hr12
        case hi12 => (simp only [List.getElem?_toArray, List.getElem?_cons_succ, List.getElem?_cons_zero]; rfl)
        case hy12 => ((refine .inl ⟨by rfl, ?_⟩); intro w hS; go_simp; (try with_reducible rfl))
        case hq12 => exact fun _ _ _ h => h
        (simp only [Act.put, List.setIfInBounds_toArray, List.set_cons_zero, List.set_cons_succ])
        refine wpAnyH_take (i := 12) (oi := ?o13) (v := ?v13) ?hi13 (by kernel_rfl) (by kernel_rfl) (by kernel_rfl) ?hq13 ?hy13 (by assumption) ?hr13
        case hi13 => (simp only [List.getElem?_toArray, List.getElem?_cons_succ, List.getElem?_cons_zero]; rfl)
        case hy13 => ((refine .inl ⟨by rfl, ?_⟩); intro w hS; go_simp; (try with_reducible rfl))
        case hq13 => exact fun _ _ _ h => h
        (simp only [Act.put, List.setIfInBounds_toArray, List.set_cons_zero, List.set_cons_succ])
        refine wpAnyH_take (i := 13) (oi := ?o14) (v := ?v14) ?hi14 (by kernel_rfl) (by kernel_rfl) (by kernel_rfl) ?hq14 ?hy14 (by assumption) ?hr14
        case hi14 => (simp only [List.getElem?_toArray, List.getElem?_cons_succ, List.getElem?_cons_zero]; rfl)
        case hy14 => ((refine .inl ⟨by rfl, ?_⟩); intro w hS; go_simp; (try with_reducible rfl))
        case hq14 => exact fun _ _ _ h => h
        (simp only [Act.put, List.setIfInBounds_toArray, List.set_cons_zero, List.set_cons_succ])
        refine wpAnyH_take (i := 14) (oi := ?o15) (v := ?v15) ?hi15 (by kernel_rfl) (by kernel_rfl) (by kernel_rfl) ?hq15 ?hy15 (by assumption) ?hr15
        case hi15 => (simp only [List.getElem?_toArray, List.getElem?_cons_succ, List.getElem?_cons_zero]; rfl)
        case hy15 => ((refine .inl ⟨by rfl, ?_⟩); intro w hS; go_simp; (try with_reducible rfl))
        case hq15 => exact fun _ _ _ h => h
        (simp only [Act.put, List.setIfInBounds_toArray, List.set_cons_zero, List.set_cons_succ])
        refine wpAnyH_take (i := 15) (oi := ?o16) (v := ?v16) ?hi16 (by kernel_rfl) (by kernel_rfl) (by kernel_rfl) ?hq16 ?hy16 (by assumption) ?hr16
        case hi16 => (simp only [List.getElem?_toArray, List.getElem?_cons_succ, List.getElem?_cons_zero]; rfl)
        case hy16 => ((refine .inl ⟨by rfl, ?_⟩); intro w hS; go_simp; (try with_reducible rfl))
        case hq16 => exact fun _ _ _ h => h
        (simp only [Act.put, List.setIfInBounds_toArray, List.set_cons_zero, List.set_cons_succ])
        refine wpAnyH_take (i := 16) (oi := ?o17) (v := ?v17) ?hi17 (by kernel_rfl) (by kernel_rfl) (by kernel_rfl) ?hq17 ?hy17 (by assumption) ?hr17
        case hi17 => (simp only [List.getElem?_toArray, List.getElem?_cons_succ, List.getElem?_cons_zero]; rfl)
        case hy17 => ((refine .inl ⟨by rfl, ?_⟩); intro w hS; go_simp; (try with_reducible rfl))
        case hq17 => exact fun _ _ _ h => h
        (simp only [Act.put, List.setIfInBounds_toArray, List.set_cons_zero, List.set_cons_succ])
        refine wpAnyH_take (i := 17) (oi := ?o18) (v := ?v18) ?hi18 (by kernel_rfl) (by kernel_rfl) (by kernel_rfl) ?hq18 ?hy18 (by assumption) ?hr18
        case hi18 => (simp only [List.getElem?_toArray, List.getElem?_cons_succ, List.getElem?_cons_zero]; rfl)
        case hy18 => ((refine .inl ⟨by rfl, ?_⟩); intro w hS; go_simp; (try with_reducible rfl))
        case hq18 => exact fun _ _ _ h => h
        (simp only [Act.put, List.setIfInBounds_toArray, List.set_cons_zero, List.set_cons_succ])
        refine wpAnyH_take (i := 18) (oi := ?o19) (v := ?v19) ?hi19 (by kernel_rfl) (by kernel_rfl) (by kernel_rfl) ?hq19 ?hy19 (by assumption) ?hr19
        case hi19 => (simp only [List.getElem?_toArray, List.getElem?_cons_succ, List.getElem?_cons_zero]; rfl)
        case hy19 => ((refine .inl ⟨by rfl, ?_⟩); intro w hS; go_simp; (try with_reducible rfl))
        case hq19 => exact fun _ _ _ h => h
        (simp only [Act.put, List.setIfInBounds_toArray, List.set_cons_zero, List.set_cons_succ])
        refine wpAnyH_take (i := 19) (oi := ?o20) (v := ?v20) ?hi20 (by kernel_rfl) (by kernel_rfl) (by kernel_rfl) ?hq20 ?hy20 (by assumption) ?hr20
        case hi20 => (simp only [List.getElem?_toArray, List.getElem?_cons_succ, List.getElem?_cons_zero]; rfl)
        case hy20 => ((refine .inl ⟨by rfl, ?_⟩); intro w hS; go_simp; (try with_reducible rfl))
        case hq20 => exact fun _ _ _ h => h
        (simp only [Act.put, List.setIfInBounds_toArray, List.set_cons_zero, List.set_cons_succ])
        refine wpAnyH_take (i := 20) (oi := ?o21) (v := ?v21) ?hi21 (by kernel_rfl) (by kernel_rfl) (by kernel_rfl) ?hq21 ?hy21 (by assumption) ?hr21
        case hi21 => (simp only [List.getElem?_toArray, List.getElem?_cons_succ, List.getElem?_cons_zero]; rfl)
        case hy21 => ((refine .inl ⟨by rfl, ?_⟩); intro w hS; go_simp; (try with_reducible rfl))
        case hq21 => exact fun _ _ _ h => h
        (simp only [Act.put, List.setIfInBounds_toArray, List.set_cons_zero, List.set_cons_succ])
        refine wpAnyH_take (i := 21) (oi := ?o22) (v := ?v22) ?hi22 (by kernel_rfl) (by kernel_rfl) (by kernel_rfl) ?hq22 ?hy22 (by assumption) ?hr22
        case hi22 => (simp only [List.getElem?_toArray, List.getElem?_cons_succ, List.getElem?_cons_zero]; rfl)
        case hy22 => ((refine .inl ⟨by rfl, ?_⟩); intro w hS; go_simp; (try with_reducible rfl))
        case hq22 => exact fun _ _ _ h => h
        (simp only [Act.put, List.setIfInBounds_toArray, List.set_cons_zero, List.set_cons_succ])
        refine wpAnyH_take (i := 22) (oi := ?o23) (v := ?v23) ?hi23 (by kernel_rfl) (by kernel_rfl) (by kernel_rfl) ?hq23 ?hy23 (by assumption) ?hr23
        case hi23 => (simp only [List.getElem?_toArray, List.getElem?_cons_succ, List.getElem?_cons_zero]; rfl)
        case hy23 => ((refine .inl ⟨by rfl, ?_⟩); intro w hS; go_simp; (try with_reducible rfl))
        case hq23 => exact fun _ _ _ h => h
        (simp only [Act.put, List.setIfInBounds_toArray, List.set_cons_zero, List.set_cons_succ])
        refine wpAnyH_take (i := 23) (oi := ?o24) (v := ?v24) ?hi24 (by kernel_rfl) (by kernel_rfl) (by kernel_rfl) ?hq24 ?hy24 (by assumption) ?hr24
        case hi24 => (simp only [List.getElem?_toArray, List.getElem?_cons_succ, List.getElem?_cons_zero]; rfl)
        case hy24 => ((refine .inl ⟨by rfl, ?_⟩); intro w hS; go_simp; (try with_reducible rfl))
        case hq24 => exact fun _ _ _ h => h
        (simp only [Act.put, List.setIfInBounds_toArray, List.set_cons_zero, List.set_cons_succ])
        refine wpAnyH_take (i := 24) (oi := ?o25) (v := ?v25) ?hi25 (by kernel_rfl) (by kernel_rfl) (by kernel_rfl) ?hq25 ?hy25 (by assumption) ?hr25
        case hi25 => (simp only [List.getElem?_toArray, List.getElem?_cons_succ, List.getElem?_cons_zero]; rfl)
        case hy25 => ((refine .inl ⟨by rfl, ?_⟩); intro w hS; go_simp; (try with_reducible rfl))
        case hq25 => exact fun _ _ _ h => h
        (simp only [Act.put, List.setIfInBounds_toArray, List.set_cons_zero, List.set_cons_succ])
        refine wpAnyH_done (by kernel_rfl) ?_ _
        clear f0
        clear w0 w1 w2 w3 w4 w5 w6 w7 w8 v0 v1 v2
        have f3 : 4 + (n0 : Int) ≤ (x.d.size : Int) := by omega
        have hOw := own_all HO.out hHeld.bel
        have HO2 := Lib.hid hOw
        have HB2 := Lib.hid (HB.out.trans (hHeld.bel.mono HB.out.size))
        clear hOw
        generalize (wr.alloc (.cells #[.string x.sg, .int .i64 x.v, .string x.d] 41)).drew = wd at *
        go_wp2_with (at_builtin; refine wpList_app1H HO2.out rfl info_str Try.underlying48 rfl hA1.out HA2.out HB2.out.size rfl rfl rfl (by rfl) (by rfl) ?_; intro v5 w6 hown6 hb6 hg6)
        go_roundw
        case rel =>
          refine ⟨k + 1, by omega, by go_num, ?_, HB2.out.trans hb6⟩
          rw [HTK.out]
          simpa [strV] using hown6
        case measure => simp [intOf]; omega
      · have hro : refO x = [] := by unfold refO; rw [if_neg hg]
        rw [hro, List.append_nil] at HTK
        clear hro
        by_cases g1 : x.sg = erS
        · have HF0 : Hid (x.sg = ⟨#[69, 82]⟩) := Lib.hid g1
          by_cases g2 : x.d.size < 4
          · have f1 : ¬ (4 : Int) ≤ (x.d.size : Int) := by omega
            clear g1 g2 hg
            go_upto_region 6 with fail
            have f0 := HF0.out
            refine wp_region_held_drew (S := (fun w' => St wr w' [(wr.heap.size, 41, #[.string x.sg, .int .i64 x.v, .string x.d])])) (by kernel_rfl) (hst.drew) (fun hHeld => ?_)
            refine wpAnyH_take (i := 0) (oi := ?o51) (v := ?v51) ?hi51 (by kernel_rfl) (by kernel_rfl) (by kernel_rfl) ?hq51 ?hy51 (by assumption) ?hr51
            case hi51 => (simp only [List.getElem?_toArray, List.getElem?_cons_zero]; rfl)
            case hy51 => ((refine .inl ⟨by rfl, ?_⟩); intro w hS; go_simp; (try with_reducible rfl))
            case hq51 => exact fun _ _ _ h => h
            (simp only [Act.put, List.setIfInBounds_toArray, List.set_cons_zero, List.set_cons_succ])
            refine wpAnyH_take (i := 1) (oi := ?o52) (v := ?v52) ?hi52 (by kernel_rfl) (by kernel_rfl) (by kernel_rfl) ?hq52 ?hy52 (by assumption) ?hr52
            case hi52 => (simp only [List.getElem?_toArray, List.getElem?_cons_succ, List.getElem?_cons_zero]; rfl)
            case hy52 => ((refine .inl ⟨by rfl, ?_⟩); intro w hS; have q := (hS.at (i := 0) rfl).cell 0; go_simp; (try with_reducible rfl))
            case hq52 => exact fun _ _ _ h => h
            (simp only [Act.put, List.setIfInBounds_toArray, List.set_cons_zero, List.set_cons_succ])
            refine wpAnyH_take (i := 2) (oi := ?o53) (v := ?v53) ?hi53 (by kernel_rfl) (by kernel_rfl) (by kernel_rfl) ?hq53 ?hy53 (by assumption) ?hr53
            case hi53 => (simp only [List.getElem?_toArray, List.getElem?_cons_succ, List.getElem?_cons_zero]; rfl)
            case hy53 => ((refine .inl ⟨by rfl, ?_⟩); intro w hS; go_simp; (try with_reducible rfl))
            case hq53 => exact fun _ _ _ h => h
            (simp only [Act.put, List.setIfInBounds_toArray, List.set_cons_zero, List.set_cons_succ])
            refine wpAnyH_take (i := 3) (oi := ?o54) (v := ?v54) ?hi54 (by kernel_rfl) (by kernel_rfl) (by kernel_rfl) ?hq54 ?hy54 (by assumption) ?hr54
            case hi54 => (simp only [List.getElem?_toArray, List.getElem?_cons_succ, List.getElem?_cons_zero]; rfl)
            case hy54 => ((refine .inl ⟨by rfl, ?_⟩); intro w hS; go_simp; (try with_reducible rfl))
            case hq54 => exact fun _ _ _ h => h
            (simp only [Act.put, List.setIfInBounds_toArray, List.set_cons_zero, List.set_cons_succ])
            refine wpAnyH_take (i := 4) (oi := ?o55) (v := ?v55) ?hi55 (by kernel_rfl) (by kernel_rfl) (by kernel_rfl) ?hq55 ?hy55 (by assumption) ?hr55
            case hi55 => (simp only [List.getElem?_toArray, List.getElem?_cons_succ, List.getElem?_cons_zero]; rfl)
            case hy55 => ((refine .inl ⟨by rfl, ?_⟩); intro w hS; go_simp; (try with_reducible rfl))
            case hq55 => exact fun _ _ _ h => h
            (simp only [Act.put, List.setIfInBounds_toArray, List.set_cons_zero, List.set_cons_succ])
            refine wpAnyH_take (i := 5) (oi := ?o56) (v := ?v56) ?hi56 (by kernel_rfl) (by kernel_rfl) (by kernel_rfl) ?hq56 ?hy56 (by assumption) ?hr56
            case hi56 => (simp only [List.getElem?_toArray, List.getElem?_cons_succ, List.getElem?_cons_zero]; rfl)
            case hy56 => ((refine .inl ⟨by rfl, ?_⟩); intro w hS; go_simp; (try with_reducible rfl))
            case hq56 => exact fun _ _ _ h => h
            (simp only [Act.put, List.setIfInBounds_toArray, List.set_cons_zero, List.set_cons_succ])
            refine wpAnyH_take (i := 6) (oi := ?o57) (v := ?v57) ?hi57 (by kernel_rfl) (by kernel_rfl) (by kernel_rfl) ?hq57 ?hy57 (by assumption) ?hr57
            case hi57 => (simp only [List.getElem?_toArray, List.getElem?_cons_succ, List.getElem?_cons_zero]; rfl)
            case hy57 => ((refine .inl ⟨by rfl, ?_⟩); intro w hS; go_simp; (try with_reducible rfl))
            case hq57 => exact fun _ _ _ h => h
            (simp only [Act.put, List.setIfInBounds_toArray, List.set_cons_zero, List.set_cons_succ])
            refine wpAnyH_take (i := 7) (oi := ?o58) (v := ?v58) ?hi58 (by kernel_rfl) (by kernel_rfl) (by kernel_rfl) ?hq58 ?hy58 (by assumption) ?hr58
            case hi58 => (simp only [List.getElem?_toArray, List.getElem?_cons_succ, List.getElem?_cons_zero]; rfl)
            case hy58 => ((refine .inl ⟨by rfl, ?_⟩); intro w hS; go_simp; (try with_reducible rfl))
            case hq58 => exact fun _ _ _ h => h
            (simp only [Act.put, List.setIfInBounds_toArray, List.set_cons_zero, List.set_cons_succ])
            refine wpAnyH_take (i := 8) (oi := ?o59) (v := ?v59) ?hi59 (by kernel_rfl) (by kernel_rfl) (by kernel_rfl) ?hq59 ?hy59 (by assumption) ?hr59
            case hi59 => (simp only [List.getElem?_toArray, List.getElem?_cons_succ, List.getElem?_cons_zero]; rfl)
            case hy59 => ((refine .inl ⟨by rfl, ?_⟩); intro w hS; go_simp; (try with_reducible rfl))
            case hq59 => exact fun _ _ _ h => h
            (simp only [Act.put, List.setIfInBounds_toArray, List.set_cons_zero, List.set_cons_succ])
            refine wpAnyH_take (i := 9) (oi := ?o60) (v := undef) ?hi60 (by kernel_rfl) (by kernel_rfl) (by kernel_rfl) ?hq60 ?hy60 (by assumption) ?hr60
            case hi60 => (simp only [List.getElem?_toArray, List.getElem?_cons_succ, List.getElem?_cons_zero]; rfl)
            case hy60 => exact .inr ⟨by rfl, rfl⟩
            case hq60 => exact fun _ _ _ h => h
            (simp only [Act.put, List.setIfInBounds_toArray, List.set_cons_zero, List.set_cons_succ])
            refine wpAnyH_take (i := 10) (oi := ?o61) (v := undef) ?hi61 (by kernel_rfl) (by kernel_rfl) (by kernel_rfl) ?hq61 ?hy61 (by assumption) ?hr61
            case hi61 => (simp only [List.getElem?_toArray, List.getElem?_cons_succ, List.getElem?_cons_zero]; rfl)
            case hy61 => exact .inr ⟨by rfl, rfl⟩
            case hq61 => exact fun _ _ _ h => h
            (simp only [Act.put, List.setIfInBounds_toArray, List.set_cons_zero, List.set_cons_succ])
            refine wpAnyH_take (i := 11) (oi := ?o62) (v := undef) ?hi62 (by kernel_rfl) (by kernel_rfl) (by kernel_rfl) ?hq62 ?hy62 (by assumption) ?hr62
            case hi62 => (simp only [List.getElem?_toArray, List.getElem?_cons_succ, List.getElem?_cons_zero]; rfl)
            case hy62 => exact .inr ⟨by rfl, rfl⟩
            case hq62 => exact fun _ _ _ h => h
            (simp only [Act.put, List.setIfInBounds_toArray, List.set_cons_zero, List.set_cons_succ])
            refine wpAnyH_take (i := 12) (oi := ?o63) (v := undef) ?hi63 (by kernel_rfl) (by kernel_rfl) (by kernel_rfl) ?hq63 ?hy63 (by assumption) ?hr63
            case hi63 => (simp only [List.getElem?_toArray, List.getElem?_cons_succ, List.getElem?_cons_zero]; rfl)
            case hy63 => exact .inr ⟨by rfl, rfl⟩
            case hq63 => exact fun _ _ _ h => h
            (simp only [Act.put, List.setIfInBounds_toArray, List.set_cons_zero, List.set_cons_succ])
            refine wpAnyH_take (i := 13) (oi := ?o64) (v := undef) ?hi64 (by kernel_rfl) (by kernel_rfl) (by kernel_rfl) ?hq64 ?hy64 (by assumption) ?hr64
            case hi64 => (simp only [List.getElem?_toArray, List.getElem?_cons_succ, List.getElem?_cons_zero]; rfl)
            case hy64 => exact .inr ⟨by rfl, rfl⟩
            case hq64 => exact fun _ _ _ h => h
            (simp only [Act.put, List.setIfInBounds_toArray, List.set_cons_zero, List.set_cons_succ])
            refine wpAnyH_take (i := 14) (oi := ?o65) (v := undef) ?hi65 (by kernel_rfl) (by kernel_rfl) (by kernel_rfl) ?hq65 ?hy65 (by assumption) ?hr65
            case hi65 => (simp only [List.getElem?_toArray, List.getElem?_cons_succ, List.getElem?_cons_zero]; rfl)
            case hy65 => exact .inr ⟨by rfl, rfl⟩
            case hq65 => exact fun _ _ _ h => h
            (simp only [Act.put, List.setIfInBounds_toArray, List.set_cons_zero, List.set_cons_succ])
            refine wpAnyH_take (i := 15) (oi := ?o66) (v := undef) ?hi66 (by kernel_rfl) (by kernel_rfl) (by kernel_rfl) ?hq66 ?hy66 (by assumption) ?hr66
            case hi66 => (simp only [List.getElem?_toArray, List.getElem?_cons_succ, List.getElem?_cons_zero]; rfl)
            case hy66 => exact .inr ⟨by rfl, rfl⟩
            case hq66 => exact fun _ _ _ h => h
            (simp only [Act.put, List.setIfInBounds_toArray, List.set_cons_zero, List.set_cons_succ])
            refine wpAnyH_take (i := 16) (oi := ?o67) (v := undef) ?hi67 (by kernel_rfl) (by kernel_rfl) (by kernel_rfl) ?hq67 ?hy67 (by assumption) ?hr67
            case hi67 => (simp only [List.getElem?_toArray, List.getElem?_cons_succ, List.getElem?_cons_zero]; rfl)
            case hy67 => exact .inr ⟨by rfl, rfl⟩
            case hq67 => exact fun _ _ _ h => h
            (simp only [Act.put, List.setIfInBounds_toArray, List.set_cons_zero, List.set_cons_succ])
            refine wpAnyH_take (i := 17) (oi := ?o68) (v := undef) ?hi68 (by kernel_rfl) (by kernel_rfl) (by kernel_rfl) ?hq68 ?hy68 (by assumption) ?hr68
            case hi68 => (simp only [List.getElem?_toArray, List.getElem?_cons_succ, List.getElem?_cons_zero]; rfl)
            case hy68 => exact .inr ⟨by rfl, rfl⟩
            case hq68 => exact fun _ _ _ h => h
            (simp only [Act.put, List.setIfInBounds_toArray, List.set_cons_zero, List.set_cons_succ])
            refine wpAnyH_take (i := 18) (oi := ?o69) (v := undef) ?hi69 (by kernel_rfl) (by kernel_rfl) (by kernel_rfl) ?hq69 ?hy69 (by assumption) ?hr69
            case hi69 => (simp only [List.getElem?_toArray, List.getElem?_cons_succ, List.getElem?_cons_zero]; rfl)
            case hy69 => exact .inr ⟨by rfl, rfl⟩
            case hq69 => exact fun _ _ _ h => h
            (simp only [Act.put, List.setIfInBounds_toArray, List.set_cons_zero, List.set_cons_succ])
            refine wpAnyH_take (i := 19) (oi := ?o70) (v := undef) ?hi70 (by kernel_rfl) (by kernel_rfl) (by kernel_rfl) ?hq70 ?hy70 (by assumption) ?hr70
            case hi70 => (simp only [List.getElem?_toArray, List.getElem?_cons_succ, List.getElem?_cons_zero]; rfl)
            case hy70 => exact .inr ⟨by rfl, rfl⟩
            case hq70 => exact fun _ _ _ h => h
            (simp only [Act.put, List.setIfInBounds_toArray, List.set_cons_zero, List.set_cons_succ])
            refine wpAnyH_take (i := 20) (oi := ?o71) (v := undef) ?hi71 (by kernel_rfl) (by kernel_rfl) (by kernel_rfl) ?hq71 ?hy71 (by assumption) ?hr71
            case hi71 => (simp only [List.getElem?_toArray, List.getElem?_cons_succ, List.getElem?_cons_zero]; rfl)
            case hy71 => exact .inr ⟨by rfl, rfl⟩
            case hq71 => exact fun _ _ _ h => h
            (simp only [Act.put, List.setIfInBounds_toArray, List.set_cons_zero, List.set_cons_succ])
            refine wpAnyH_take (i := 21) (oi := ?o72) (v := undef) ?hi72 (by kernel_rfl) (by kernel_rfl) (by kernel_rfl) ?hq72 ?hy72 (by assumption) ?hr72
            case hi72 => (simp only [List.getElem?_toArray, List.getElem?_cons_succ, List.getElem?_cons_zero]; rfl)
            case hy72 => exact .inr ⟨by rfl, rfl⟩
            case hq72 => exact fun _ _ _ h => h
            (simp only [Act.put, List.setIfInBounds_toArray, List.set_cons_zero, List.set_cons_succ])
            refine wpAnyH_take (i := 22) (oi := ?o73) (v := undef) ?hi73 (by kernel_rfl) (by kernel_rfl) (by kernel_rfl) ?hq73 ?hy73 (by assumption) ?hr73
            case hi73 => (simp only [List.getElem?_toArray, List.getElem?_cons_succ, List.getElem?_cons_zero]; rfl)
            case hy73 => exact .inr ⟨by rfl, rfl⟩
            case hq73 => exact fun _ _ _ h => h
            (simp only [Act.put, List.setIfInBounds_toArray, List.set_cons_zero, List.set_cons_succ])
            refine wpAnyH_take (i := 23) (oi := ?o74) (v := undef) ?hi74 (by kernel_rfl) (by kernel_rfl) (by kernel_rfl) ?hq74 ?hy74 (by assumption) ?hr74
            case hi74 => (simp only [List.getElem?_toArray, List.getElem?_cons_succ, List.getElem?_cons_zero]; rfl)
            case hy74 => exact .inr ⟨by rfl, rfl⟩
            case hq74 => exact fun _ _ _ h => h
            (simp only [Act.put, List.setIfInBounds_toArray, List.set_cons_zero, List.set_cons_succ])
            refine wpAnyH_take (i := 24) (oi := ?o75) (v := ?v75) ?hi75 (by kernel_rfl) (by kernel_rfl) (by kernel_rfl) ?hq75 ?hy75 (by assumption) ?hr75
            case hi75 => (simp only [List.getElem?_toArray, List.getElem?_cons_succ, List.getElem?_cons_zero]; rfl)
            case hy75 => ((refine .inl ⟨by rfl, ?_⟩); intro w hS; go_simp; (try with_reducible rfl))
            case hq75 => exact fun _ _ _ h => h
            (simp only [Act.put, List.setIfInBounds_toArray, List.set_cons_zero, List.set_cons_succ])
            refine wpAnyH_done (by kernel_rfl) ?_ _
            clear f0
            go_wp2_with fail
            go_roundw
            case rel => exact ⟨k + 1, by omega, by go_num, by rw [HTK.out]; exact own_all HO.out hHeld.bel, HB.out.trans (hHeld.bel.mono HB.out.size)⟩
            case measure => simp [intOf]; omega
          · have g3 : x.d.size < 4 + nthB x.d 0 + nthB x.d 1 + nthB x.d 2 := Nat.lt_of_not_le fun h => hg ⟨g1, by omega, h⟩
            have g4 : 4 ≤ x.d.size := by omega
            obtain ⟨n0, n1, n2, e0, hn0, hn1, hn2, w0, w1, w2, j0, j1, j2, f1, f2, w3, w4, w5, w6, w7, w8, w9, j3, v0, v1, v2, u0⟩ := ref_nums2 g4 g3
            clear g1 g2 g3 hg
            go_upto_region 6 with fail
            have f0 := HF0.out
            refine wp_region_held_drew (S := (fun w' => St wr w' [(wr.heap.size, 41, #[.string x.sg, .int .i64 x.v, .string x.d])])) (by kernel_rfl) (hst.drew) (fun hHeld => ?_)
            refine wpAnyH_take (i := 0) (oi := ?o26) (v := ?v26) ?hi26 (by kernel_rfl) (by kernel_rfl) (by kernel_rfl) ?hq26 ?hy26 (by assumption) ?hr26
            case hi26 => (simp only [List.getElem?_toArray, List.getElem?_cons_zero]; rfl)
            case hy26 => ((refine .inl ⟨by rfl, ?_⟩); intro w hS; go_simp; (try with_reducible rfl))
            case hq26 => exact fun _ _ _ h => h
            (simp only [Act.put, List.setIfInBounds_toArray, List.set_cons_zero, List.set_cons_succ])
            refine wpAnyH_take (i := 1) (oi := ?o27) (v := ?v27) ?hi27 (by kernel_rfl) (by kernel_rfl) (by kernel_rfl) ?hq27 ?hy27 (by assumption) ?hr27
            case hi27 => (simp only [List.getElem?_toArray, List.getElem?_cons_succ, List.getElem?_cons_zero]; rfl)
            case hy27 => ((refine .inl ⟨by rfl, ?_⟩); intro w hS; have q := (hS.at (i := 0) rfl).cell 0; go_simp; (try with_reducible rfl))
            case hq27 => exact fun _ _ _ h => h
            (simp only [Act.put, List.setIfInBounds_toArray, List.set_cons_zero, List.set_cons_succ])
            refine wpAnyH_take (i := 2) (oi := ?o28) (v := ?v28) ?hi28 (by kernel_rfl) (by kernel_rfl) (by kernel_rfl) ?hq28 ?hy28 (by assumption) ?hr28
            case hi28 => (simp only [List.getElem?_toArray, List.getElem?_cons_succ, List.getElem?_cons_zero]; rfl)
            case hy28 => ((refine .inl ⟨by rfl, ?_⟩); intro w hS; go_simp; (try with_reducible rfl))
            case hq28 => exact fun _ _ _ h => h
            (simp only [Act.put, List.setIfInBounds_toArray, List.set_cons_zero, List.set_cons_succ])
            refine wpAnyH_take (i := 3) (oi := ?o29) (v := ?v29) ?hi29 (by kernel_rfl) (by kernel_rfl) (by kernel_rfl) ?hq29 ?hy29 (by assumption) ?hr29
            case hi29 => (simp only [List.getElem?_toArray, List.getElem?_cons_succ, List.getElem?_cons_zero]; rfl)
            case hy29 => ((refine .inl ⟨by rfl, ?_⟩); intro w hS; go_simp; (try with_reducible rfl))
            case hq29 => exact fun _ _ _ h => h
            (simp only [Act.put, List.setIfInBounds_toArray, List.set_cons_zero, List.set_cons_succ])
            refine wpAnyH_take (i := 4) (oi := ?o30) (v := ?v30) ?hi30 (by kernel_rfl) (by kernel_rfl) (by kernel_rfl) ?hq30 ?hy30 (by assumption) ?hr30
            case hi30 => (simp only [List.getElem?_toArray, List.getElem?_cons_succ, List.getElem?_cons_zero]; rfl)
            case hy30 => ((refine .inl ⟨by rfl, ?_⟩); intro w hS; go_simp; (try with_reducible rfl))
            case hq30 => exact fun _ _ _ h => h
            (simp only [Act.put, List.setIfInBounds_toArray, List.set_cons_zero, List.set_cons_succ])
            refine wpAnyH_take (i := 5) (oi := ?o31) (v := ?v31) ?hi31 (by kernel_rfl) (by kernel_rfl) (by kernel_rfl) ?hq31 ?hy31 (by assumption) ?hr31
            case hi31 => (simp only [List.getElem?_toArray, List.getElem?_cons_succ, List.getElem?_cons_zero]; rfl)
            case hy31 => ((refine .inl ⟨by rfl, ?_⟩); intro w hS; go_simp; (try with_reducible rfl))
            case hq31 => exact fun _ _ _ h => h
            (simp only [Act.put, List.setIfInBounds_toArray, List.set_cons_zero, List.set_cons_succ])
            refine wpAnyH_take (i := 6) (oi := ?o32) (v := ?v32) ?hi32 (by kernel_rfl) (by kernel_rfl) (by kernel_rfl) ?hq32 ?hy32 (by assumption) ?hr32
            case hi32 => (simp only [List.getElem?_toArray, List.getElem?_cons_succ, List.getElem?_cons_zero]; rfl)
            case hy32 => ((refine .inl ⟨by rfl, ?_⟩); intro w hS; go_simp; (try with_reducible rfl))
            case hq32 => exact fun _ _ _ h => h
            (simp only [Act.put, List.setIfInBounds_toArray, List.set_cons_zero, List.set_cons_succ])
            refine wpAnyH_take (i := 7) (oi := ?o33) (v := ?v33) ?hi33 (by kernel_rfl) (by kernel_rfl) (by kernel_rfl) ?hq33 ?hy33 (by assumption) ?hr33
            case hi33 => (simp only [List.getElem?_toArray, List.getElem?_cons_succ, List.getElem?_cons_zero]; rfl)
            case hy33 => ((refine .inl ⟨by rfl, ?_⟩); intro w hS; go_simp; (try with_reducible rfl))
            case hq33 => exact fun _ _ _ h => h
            (simp only [Act.put, List.setIfInBounds_toArray, List.set_cons_zero, List.set_cons_succ])
            refine wpAnyH_take (i := 8) (oi := ?o34) (v := ?v34) ?hi34 (by kernel_rfl) (by kernel_rfl) (by kernel_rfl) ?hq34 ?hy34 (by assumption) ?hr34
            case hi34 => (simp only [List.getElem?_toArray, List.getElem?_cons_succ, List.getElem?_cons_zero]; rfl)
            case hy34 => ((refine .inl ⟨by rfl, ?_⟩); intro w hS; go_simp; (try with_reducible rfl))
            case hq34 => exact fun _ _ _ h => h
            (simp only [Act.put, List.setIfInBounds_toArray, List.set_cons_zero, List.set_cons_succ])
            refine wpAnyH_take (i := 9) (oi := ?o35) (v := ?v35) ?hi35 (by kernel_rfl) (by kernel_rfl) (by kernel_rfl) ?hq35 ?hy35 (by assumption) ?hr35
            case hi35 => (simp only [List.getElem?_toArray, List.getElem?_cons_succ, List.getElem?_cons_zero]; rfl)
            case hy35 => ((refine .inl ⟨by rfl, ?_⟩); intro w hS; go_simp; (try with_reducible rfl))
            case hq35 => exact fun _ _ _ h => h
            (simp only [Act.put, List.setIfInBounds_toArray, List.set_cons_zero, List.set_cons_succ])
            refine wpAnyH_take (i := 10) (oi := ?o36) (v := ?v36) ?hi36 (by kernel_rfl) (by kernel_rfl) (by kernel_rfl) ?hq36 ?hy36 (by assumption) ?hr36
            case hi36 => (simp only [List.getElem?_toArray, List.getElem?_cons_succ, List.getElem?_cons_zero]; rfl)
            case hy36 => ((refine .inl ⟨by rfl, ?_⟩); intro w hS; go_simp; (try with_reducible rfl))
            case hq36 => exact fun _ _ _ h => h
            (simp only [Act.put, List.setIfInBounds_toArray, List.set_cons_zero, List.set_cons_succ])
            refine wpAnyH_take (i := 11) (oi := ?o37) (v := ?v37) ?hi37 (by kernel_rfl) (by kernel_rfl) (by kernel_rfl) ?hq37 ?hy37 (by assumption) ?hr37
            case hi37 => (simp only [List.getElem?_toArray, List.getElem?_cons_succ, List.getElem?_cons_zero]; rfl)
            case hy37 => ((refine .inl ⟨by rfl, ?_⟩); intro w hS; go_simp; (try with_reducible rfl))
            case hq37 => exact fun _ _ _ h => h
            (simp only [Act.put, List.setIfInBounds_toArray, List.set_cons_zero, List.set_cons_succ])
            refine wpAnyH_take (i := 12) (oi := ?o38) (v := ?v38) ?hi38 (by kernel_rfl) (by kernel_rfl) (by kernel_rfl) ?hq38 ?hy38 (by assumption) ?hr38
            case hi38 => (simp only [List.getElem?_toArray, List.getElem?_cons_succ, List.getElem?_cons_zero]; rfl)
            case hy38 => ((refine .inl ⟨by rfl, ?_⟩); intro w hS; go_simp; (try with_reducible rfl))
            case hq38 => exact fun _ _ _ h => h
            (simp only [Act.put, List.setIfInBounds_toArray, List.set_cons_zero, List.set_cons_succ])
            refine wpAnyH_take (i := 13) (oi := ?o39) (v := ?v39) ?hi39 (by kernel_rfl) (by kernel_rfl) (by kernel_rfl) ?hq39 ?hy39 (by assumption) ?hr39
            case hi39 => (simp only [List.getElem?_toArray, List.getElem?_cons_succ, List.getElem?_cons_zero]; rfl)
            case hy39 => ((refine .inl ⟨by rfl, ?_⟩); intro w hS; go_simp; (try with_reducible rfl))
            case hq39 => exact fun _ _ _ h => h
            (simp only [Act.put, List.setIfInBounds_toArray, List.set_cons_zero, List.set_cons_succ])
            refine wpAnyH_take (i := 14) (oi := ?o40) (v := ?v40) ?hi40 (by kernel_rfl) (by kernel_rfl) (by kernel_rfl) ?hq40 ?hy40 (by assumption) ?hr40
            case hi40 => (simp only [List.getElem?_toArray, List.getElem?_cons_succ, List.getElem?_cons_zero]; rfl)
            case hy40 => ((refine .inl ⟨by rfl, ?_⟩); intro w hS; go_simp; (try with_reducible rfl))
            case hq40 => exact fun _ _ _ h => h
            (simp only [Act.put, List.setIfInBounds_toArray, List.set_cons_zero, List.set_cons_succ])
            refine wpAnyH_take (i := 15) (oi := ?o41) (v := ?v41) ?hi41 (by kernel_rfl) (by kernel_rfl) (by kernel_rfl) ?hq41 ?hy41 (by assumption) ?hr41
            case hi41 => (simp only [List.getElem?_toArray, List.getElem?_cons_succ, List.getElem?_cons_zero]; rfl)
            case hy41 => ((refine .inl ⟨by rfl, ?_⟩); intro w hS; go_simp; (try with_reducible rfl))
            case hq41 => exact fun _ _ _ h => h
            (simp only [Act.put, List.setIfInBounds_toArray, List.set_cons_zero, List.set_cons_succ])
            refine wpAnyH_take (i := 16) (oi := ?o42) (v := ?v42) ?hi42 (by kernel_rfl) (by kernel_rfl) (by kernel_rfl) ?hq42 ?hy42 (by assumption) ?hr42
            case hi42 => (simp only [List.getElem?_toArray, List.getElem?_cons_succ, List.getElem?_cons_zero]; rfl)
            case hy42 => ((refine .inl ⟨by rfl, ?_⟩); intro w hS; go_simp; (try with_reducible rfl))
            case hq42 => exact fun _ _ _ h => h
            (simp only [Act.put, List.setIfInBounds_toArray, List.set_cons_zero, List.set_cons_succ])
            refine wpAnyH_take (i := 17) (oi := ?o43) (v := ?v43) ?hi43 (by kernel_rfl) (by kernel_rfl) (by kernel_rfl) ?hq43 ?hy43 (by assumption) ?hr43
            case hi43 => (simp only [List.getElem?_toArray, List.getElem?_cons_succ, List.getElem?_cons_zero]; rfl)
            case hy43 => ((refine .inl ⟨by rfl, ?_⟩); intro w hS; go_simp; (try with_reducible rfl))
            case hq43 => exact fun _ _ _ h => h
            (simp only [Act.put, List.setIfInBounds_toArray, List.set_cons_zero, List.set_cons_succ])
            refine wpAnyH_take (i := 18) (oi := ?o44) (v := ?v44) ?hi44 (by kernel_rfl) (by kernel_rfl) (by kernel_rfl) ?hq44 ?hy44 (by assumption) ?hr44
            case hi44 => (simp only [List.getElem?_toArray, List.getElem?_cons_succ, List.getElem?_cons_zero]; rfl)
            case hy44 => ((refine .inl ⟨by rfl, ?_⟩); intro w hS; go_simp; (try with_reducible rfl))
            case hq44 => exact fun _ _ _ h => h
            (simp only [Act.put, List.setIfInBounds_toArray, List.set_cons_zero, List.set_cons_succ])
            refine wpAnyH_take (i := 19) (oi := ?o45) (v := ?v45) ?hi45 (by kernel_rfl) (by kernel_rfl) (by kernel_rfl) ?hq45 ?hy45 (by assumption) ?hr45
            case hi45 => (simp only [List.getElem?_toArray, List.getElem?_cons_succ, List.getElem?_cons_zero]; rfl)
            case hy45 => ((refine .inl ⟨by rfl, ?_⟩); intro w hS; go_simp; (try with_reducible rfl))
            case hq45 => exact fun _ _ _ h => h
            (simp only [Act.put, List.setIfInBounds_toArray, List.set_cons_zero, List.set_cons_succ])
            refine wpAnyH_take (i := 20) (oi := ?o46) (v := ?v46) ?hi46 (by kernel_rfl) (by kernel_rfl) (by kernel_rfl) ?hq46 ?hy46 (by assumption) ?hr46
            case hi46 => (simp only [List.getElem?_toArray, List.getElem?_cons_succ, List.getElem?_cons_zero]; rfl)
            case hy46 => ((refine .inl ⟨by rfl, ?_⟩); intro w hS; go_simp; (try with_reducible rfl))
            case hq46 => exact fun _ _ _ h => h
            (simp only [Act.put, List.setIfInBounds_toArray, List.set_cons_zero, List.set_cons_succ])
            refine wpAnyH_take (i := 21) (oi := ?o47) (v := ?v47) ?hi47 (by kernel_rfl) (by kernel_rfl) (by kernel_rfl) ?hq47 ?hy47 (by assumption) ?hr47
            case hi47 => (simp only [List.getElem?_toArray, List.getElem?_cons_succ, List.getElem?_cons_zero]; rfl)
            case hy47 => ((refine .inl ⟨by rfl, ?_⟩); intro w hS; go_simp; (try with_reducible rfl))
            case hq47 => exact fun _ _ _ h => h
            (simp only [Act.put, List.setIfInBounds_toArray, List.set_cons_zero, List.set_cons_succ])
            refine wpAnyH_take (i := 22) (oi := ?o48) (v := ?v48) ?hi48 (by kernel_rfl) (by kernel_rfl) (by kernel_rfl) ?hq48 ?hy48 (by assumption) ?hr48
            case hi48 => (simp only [List.getElem?_toArray, List.getElem?_cons_succ, List.getElem?_cons_zero]; rfl)
            case hy48 => ((refine .inl ⟨by rfl, ?_⟩); intro w hS; go_simp; (try with_reducible rfl))
            case hq48 => exact fun _ _ _ h => h
            (simp only [Act.put, List.setIfInBounds_toArray, List.set_cons_zero, List.set_cons_succ])
            refine wpAnyH_take (i := 23) (oi := ?o49) (v := ?v49) ?hi49 (by kernel_rfl) (by kernel_rfl) (by kernel_rfl) ?hq49 ?hy49 (by assumption) ?hr49
            case hi49 => (simp only [List.getElem?_toArray, List.getElem?_cons_succ, List.getElem?_cons_zero]; rfl)
            case hy49 => ((refine .inl ⟨by rfl, ?_⟩); intro w hS; go_simp; (try with_reducible rfl))
            case hq49 => exact fun _ _ _ h => h
            (simp only [Act.put, List.setIfInBounds_toArray, List.set_cons_zero, List.set_cons_succ])
            refine wpAnyH_take (i := 24) (oi := ?o50) (v := ?v50) ?hi50 (by kernel_rfl) (by kernel_rfl) (by kernel_rfl) ?hq50 ?hy50 (by assumption) ?hr50
            case hi50 => (simp only [List.getElem?_toArray, List.getElem?_cons_succ, List.getElem?_cons_zero]; rfl)
            case hy50 => ((refine .inl ⟨by rfl, ?_⟩); intro w hS; go_simp; (try with_reducible rfl))
            case hq50 => exact fun _ _ _ h => h
            (simp only [Act.put, List.setIfInBounds_toArray, List.set_cons_zero, List.set_cons_succ])
            refine wpAnyH_done (by kernel_rfl) ?_ _
            clear f0
            go_wp2_with fail
            clear w0 w1 w2 w3 w4 w5 w6 w7 w8 v0 v1 v2
            go_roundw
            case rel => exact ⟨k + 1, by omega, by go_num, by rw [HTK.out]; exact own_all HO.out hHeld.bel, HB.out.trans (hHeld.bel.mono HB.out.size)⟩
            case measure => simp [intOf]; omega
        · have f0 : ¬ x.sg = ⟨#[69, 82]⟩ := g1
          have f0b : (x.sg.toList == [69, 82]) = false := by
            rw [beq_eq_false_iff_ne]
            intro h
            refine f0 (ByteArray.ext (Array.ext' ?_))
            rw [← ByteArray.toList_eq]
            exact h
          clear g1 hg
          go_upto_region 6 with fail
          refine wp_region_held_drew (S := (fun w' => St wr w' [(wr.heap.size, 41, #[.string x.sg, .int .i64 x.v, .string x.d])])) (by kernel_rfl) (hst.drew) (fun hHeld => ?_)
          refine wpAnyH_take (i := 0) (oi := ?o76) (v := ?v76) ?hi76 (by kernel_rfl) (by kernel_rfl) (by kernel_rfl) ?hq76 ?hy76 (by assumption) ?hr76
          case hi76 => (simp only [List.getElem?_toArray, List.getElem?_cons_zero]; rfl)
          case hy76 => ((refine .inl ⟨by rfl, ?_⟩); intro w hS; go_simp; (try with_reducible rfl))
          case hq76 => exact fun _ _ _ h => h
          (simp only [Act.put, List.setIfInBounds_toArray, List.set_cons_zero, List.set_cons_succ])
          refine wpAnyH_take (i := 1) (oi := ?o77) (v := ?v77) ?hi77 (by kernel_rfl) (by kernel_rfl) (by kernel_rfl) ?hq77 ?hy77 (by assumption) ?hr77
          case hi77 => (simp only [List.getElem?_toArray, List.getElem?_cons_succ, List.getElem?_cons_zero]; rfl)
          case hy77 => ((refine .inl ⟨by rfl, ?_⟩); intro w hS; have q := (hS.at (i := 0) rfl).cell 0; go_simp; (try with_reducible rfl))
          case hq77 => exact fun _ _ _ h => h
          (simp only [Act.put, List.setIfInBounds_toArray, List.set_cons_zero, List.set_cons_succ])
          refine wpAnyH_take (i := 2) (oi := ?o78) (v := ?v78) ?hi78 (by kernel_rfl) (by kernel_rfl) (by kernel_rfl) ?hq78 ?hy78 (by assumption) ?hr78
          case hi78 => (simp only [List.getElem?_toArray, List.getElem?_cons_succ, List.getElem?_cons_zero]; rfl)
          case hy78 => ((refine .inl ⟨by rfl, ?_⟩); intro w hS; go_simp; (try with_reducible rfl))
          case hq78 => exact fun _ _ _ h => h
          (simp only [Act.put, List.setIfInBounds_toArray, List.set_cons_zero, List.set_cons_succ])
          refine wpAnyH_take (i := 3) (oi := ?o79) (v := ?v79) ?hi79 (by kernel_rfl) (by kernel_rfl) (by kernel_rfl) ?hq79 ?hy79 (by assumption) ?hr79
          case hi79 => (simp only [List.getElem?_toArray, List.getElem?_cons_succ, List.getElem?_cons_zero]; rfl)
          case hy79 => ((refine .inl ⟨by rfl, ?_⟩); intro w hS; go_simp; (try with_reducible rfl))
          case hq79 => exact fun _ _ _ h => h
          (simp only [Act.put, List.setIfInBounds_toArray, List.set_cons_zero, List.set_cons_succ])
          refine wpAnyH_take (i := 4) (oi := ?o80) (v := undef) ?hi80 (by kernel_rfl) (by kernel_rfl) (by kernel_rfl) ?hq80 ?hy80 (by assumption) ?hr80
          case hi80 => (simp only [List.getElem?_toArray, List.getElem?_cons_succ, List.getElem?_cons_zero]; rfl)
          case hy80 => exact .inr ⟨by rfl, rfl⟩
          case hq80 => exact fun _ _ _ h => h
          (simp only [Act.put, List.setIfInBounds_toArray, List.set_cons_zero, List.set_cons_succ])
          refine wpAnyH_take (i := 5) (oi := ?o81) (v := undef) ?hi81 (by kernel_rfl) (by kernel_rfl) (by kernel_rfl) ?hq81 ?hy81 (by assumption) ?hr81
          case hi81 => (simp only [List.getElem?_toArray, List.getElem?_cons_succ, List.getElem?_cons_zero]; rfl)
          case hy81 => exact .inr ⟨by rfl, rfl⟩
          case hq81 => exact fun _ _ _ h => h
          (simp only [Act.put, List.setIfInBounds_toArray, List.set_cons_zero, List.set_cons_succ])
          refine wpAnyH_take (i := 6) (oi := ?o82) (v := undef) ?hi82 (by kernel_rfl) (by kernel_rfl) (by kernel_rfl) ?hq82 ?hy82 (by assumption) ?hr82
          case hi82 => (simp only [List.getElem?_toArray, List.getElem?_cons_succ, List.getElem?_cons_zero]; rfl)
          case hy82 => exact .inr ⟨by rfl, rfl⟩
          case hq82 => exact fun _ _ _ h => h
          (simp only [Act.put, List.setIfInBounds_toArray, List.set_cons_zero, List.set_cons_succ])
          refine wpAnyH_take (i := 7) (oi := ?o83) (v := ?v83) ?hi83 (by kernel_rfl) (by kernel_rfl) (by kernel_rfl) ?hq83 ?hy83 (by assumption) ?hr83
          case hi83 => (simp only [List.getElem?_toArray, List.getElem?_cons_succ, List.getElem?_cons_zero]; rfl)
          case hy83 => ((refine .inl ⟨by rfl, ?_⟩); intro w hS; go_simp; (try with_reducible rfl))
          case hq83 => exact fun _ _ _ h => h
          (simp only [Act.put, List.setIfInBounds_toArray, List.set_cons_zero, List.set_cons_succ])
          refine wpAnyH_take (i := 8) (oi := ?o84) (v := ?v84) ?hi84 (by kernel_rfl) (by kernel_rfl) (by kernel_rfl) ?hq84 ?hy84 (by assumption) ?hr84
          case hi84 => (simp only [List.getElem?_toArray, List.getElem?_cons_succ, List.getElem?_cons_zero]; rfl)
          case hy84 => ((refine .inl ⟨by rfl, ?_⟩); intro w hS; go_simp; (try with_reducible rfl))
          case hq84 => exact fun _ _ _ h => h
          (simp only [Act.put, List.setIfInBounds_toArray, List.set_cons_zero, List.set_cons_succ])
          refine wpAnyH_take (i := 9) (oi := ?o85) (v := undef) ?hi85 (by kernel_rfl) (by kernel_rfl) (by kernel_rfl) ?hq85 ?hy85 (by assumption) ?hr85
          case hi85 => (simp only [List.getElem?_toArray, List.getElem?_cons_succ, List.getElem?_cons_zero]; rfl)
          case hy85 => exact .inr ⟨by rfl, rfl⟩
          case hq85 => exact fun _ _ _ h => h
          (simp only [Act.put, List.setIfInBounds_toArray, List.set_cons_zero, List.set_cons_succ])
          refine wpAnyH_take (i := 10) (oi := ?o86) (v := undef) ?hi86 (by kernel_rfl) (by kernel_rfl) (by kernel_rfl) ?hq86 ?hy86 (by assumption) ?hr86
          case hi86 => (simp only [List.getElem?_toArray, List.getElem?_cons_succ, List.getElem?_cons_zero]; rfl)
          case hy86 => exact .inr ⟨by rfl, rfl⟩
          case hq86 => exact fun _ _ _ h => h
          (simp only [Act.put, List.setIfInBounds_toArray, List.set_cons_zero, List.set_cons_succ])
          refine wpAnyH_take (i := 11) (oi := ?o87) (v := undef) ?hi87 (by kernel_rfl) (by kernel_rfl) (by kernel_rfl) ?hq87 ?hy87 (by assumption) ?hr87
          case hi87 => (simp only [List.getElem?_toArray, List.getElem?_cons_succ, List.getElem?_cons_zero]; rfl)
          case hy87 => exact .inr ⟨by rfl, rfl⟩
          case hq87 => exact fun _ _ _ h => h
          (simp only [Act.put, List.setIfInBounds_toArray, List.set_cons_zero, List.set_cons_succ])
          refine wpAnyH_take (i := 12) (oi := ?o88) (v := undef) ?hi88 (by kernel_rfl) (by kernel_rfl) (by kernel_rfl) ?hq88 ?hy88 (by assumption) ?hr88
          case hi88 => (simp only [List.getElem?_toArray, List.getElem?_cons_succ, List.getElem?_cons_zero]; rfl)
          case hy88 => exact .inr ⟨by rfl, rfl⟩
          case hq88 => exact fun _ _ _ h => h
          (simp only [Act.put, List.setIfInBounds_toArray, List.set_cons_zero, List.set_cons_succ])
          refine wpAnyH_take (i := 13) (oi := ?o89) (v := undef) ?hi89 (by kernel_rfl) (by kernel_rfl) (by kernel_rfl) ?hq89 ?hy89 (by assumption) ?hr89
          case hi89 => (simp only [List.getElem?_toArray, List.getElem?_cons_succ, List.getElem?_cons_zero]; rfl)
          case hy89 => exact .inr ⟨by rfl, rfl⟩
          case hq89 => exact fun _ _ _ h => h
          (simp only [Act.put, List.setIfInBounds_toArray, List.set_cons_zero, List.set_cons_succ])
          refine wpAnyH_take (i := 14) (oi := ?o90) (v := undef) ?hi90 (by kernel_rfl) (by kernel_rfl) (by kernel_rfl) ?hq90 ?hy90 (by assumption) ?hr90
          case hi90 => (simp only [List.getElem?_toArray, List.getElem?_cons_succ, List.getElem?_cons_zero]; rfl)
          case hy90 => exact .inr ⟨by rfl, rfl⟩
          case hq90 => exact fun _ _ _ h => h
          (simp only [Act.put, List.setIfInBounds_toArray, List.set_cons_zero, List.set_cons_succ])
          refine wpAnyH_take (i := 15) (oi := ?o91) (v := undef) ?hi91 (by kernel_rfl) (by kernel_rfl) (by kernel_rfl) ?hq91 ?hy91 (by assumption) ?hr91
          case hi91 => (simp only [List.getElem?_toArray, List.getElem?_cons_succ, List.getElem?_cons_zero]; rfl)
          case hy91 => exact .inr ⟨by rfl, rfl⟩
          case hq91 => exact fun _ _ _ h => h
          (simp only [Act.put, List.setIfInBounds_toArray, List.set_cons_zero, List.set_cons_succ])
          refine wpAnyH_take (i := 16) (oi := ?o92) (v := undef) ?hi92 (by kernel_rfl) (by kernel_rfl) (by kernel_rfl) ?hq92 ?hy92 (by assumption) ?hr92
          case hi92 => (simp only [List.getElem?_toArray, List.getElem?_cons_succ, List.getElem?_cons_zero]; rfl)
          case hy92 => exact .inr ⟨by rfl, rfl⟩
          case hq92 => exact fun _ _ _ h => h
          (simp only [Act.put, List.setIfInBounds_toArray, List.set_cons_zero, List.set_cons_succ])
          refine wpAnyH_take (i := 17) (oi := ?o93) (v := undef) ?hi93 (by kernel_rfl) (by kernel_rfl) (by kernel_rfl) ?hq93 ?hy93 (by assumption) ?hr93
          case hi93 => (simp only [List.getElem?_toArray, List.getElem?_cons_succ, List.getElem?_cons_zero]; rfl)
          case hy93 => exact .inr ⟨by rfl, rfl⟩
          case hq93 => exact fun _ _ _ h => h
          (simp only [Act.put, List.setIfInBounds_toArray, List.set_cons_zero, List.set_cons_succ])
          refine wpAnyH_take (i := 18) (oi := ?o94) (v := undef) ?hi94 (by kernel_rfl) (by kernel_rfl) (by kernel_rfl) ?hq94 ?hy94 (by assumption) ?hr94
          case hi94 => (simp only [List.getElem?_toArray, List.getElem?_cons_succ, List.getElem?_cons_zero]; rfl)
          case hy94 => exact .inr ⟨by rfl, rfl⟩
          case hq94 => exact fun _ _ _ h => h
          (simp only [Act.put, List.setIfInBounds_toArray, List.set_cons_zero, List.set_cons_succ])
          refine wpAnyH_take (i := 19) (oi := ?o95) (v := undef) ?hi95 (by kernel_rfl) (by kernel_rfl) (by kernel_rfl) ?hq95 ?hy95 (by assumption) ?hr95
          case hi95 => (simp only [List.getElem?_toArray, List.getElem?_cons_succ, List.getElem?_cons_zero]; rfl)
          case hy95 => exact .inr ⟨by rfl, rfl⟩
          case hq95 => exact fun _ _ _ h => h
          (simp only [Act.put, List.setIfInBounds_toArray, List.set_cons_zero, List.set_cons_succ])
          refine wpAnyH_take (i := 20) (oi := ?o96) (v := undef) ?hi96 (by kernel_rfl) (by kernel_rfl) (by kernel_rfl) ?hq96 ?hy96 (by assumption) ?hr96
          case hi96 => (simp only [List.getElem?_toArray, List.getElem?_cons_succ, List.getElem?_cons_zero]; rfl)
          case hy96 => exact .inr ⟨by rfl, rfl⟩
          case hq96 => exact fun _ _ _ h => h
          (simp only [Act.put, List.setIfInBounds_toArray, List.set_cons_zero, List.set_cons_succ])
          refine wpAnyH_take (i := 21) (oi := ?o97) (v := undef) ?hi97 (by kernel_rfl) (by kernel_rfl) (by kernel_rfl) ?hq97 ?hy97 (by assumption) ?hr97
          case hi97 => (simp only [List.getElem?_toArray, List.getElem?_cons_succ, List.getElem?_cons_zero]; rfl)
          case hy97 => exact .inr ⟨by rfl, rfl⟩
          case hq97 => exact fun _ _ _ h => h
          (simp only [Act.put, List.setIfInBounds_toArray, List.set_cons_zero, List.set_cons_succ])
          refine wpAnyH_take (i := 22) (oi := ?o98) (v := undef) ?hi98 (by kernel_rfl) (by kernel_rfl) (by kernel_rfl) ?hq98 ?hy98 (by assumption) ?hr98
          case hi98 => (simp only [List.getElem?_toArray, List.getElem?_cons_succ, List.getElem?_cons_zero]; rfl)
          case hy98 => exact .inr ⟨by rfl, rfl⟩
          case hq98 => exact fun _ _ _ h => h
          (simp only [Act.put, List.setIfInBounds_toArray, List.set_cons_zero, List.set_cons_succ])
          refine wpAnyH_take (i := 23) (oi := ?o99) (v := undef) ?hi99 (by kernel_rfl) (by kernel_rfl) (by kernel_rfl) ?hq99 ?hy99 (by assumption) ?hr99
          case hi99 => (simp only [List.getElem?_toArray, List.getElem?_cons_succ, List.getElem?_cons_zero]; rfl)
          case hy99 => exact .inr ⟨by rfl, rfl⟩
          case hq99 => exact fun _ _ _ h => h
          (simp only [Act.put, List.setIfInBounds_toArray, List.set_cons_zero, List.set_cons_succ])
          refine wpAnyH_take (i := 24) (oi := ?o100) (v := ?v100) ?hi100 (by kernel_rfl) (by kernel_rfl) (by kernel_rfl) ?hq100 ?hy100 (by assumption) ?hr100
          case hi100 => (simp only [List.getElem?_toArray, List.getElem?_cons_succ, List.getElem?_cons_zero]; rfl)
          case hy100 => ((refine .inl ⟨by rfl, ?_⟩); intro w hS; go_simp; (try with_reducible rfl))
          case hq100 => exact fun _ _ _ h => h
          (simp only [Act.put, List.setIfInBounds_toArray, List.set_cons_zero, List.set_cons_succ])
          refine wpAnyH_done (by kernel_rfl) ?_ _
          go_wp2_with fail
          go_roundw
          case rel => exact ⟨k + 1, by omega, by go_num, by rw [HTK.out]; exact own_all HO.out hHeld.bel, HB.out.trans (hHeld.bel.mono HB.out.size)⟩
          case measure => simp [intOf]; omega
    · obtain rfl : k = n := by omega
      have hge : ¬ (k : Int) < (k : Int) := by omega
      rw [List.take_of_length_le (Nat.le_of_eq HN.out)] at hown ⊢
      have HO := Lib.hid hown
      clear hown
      go_wp2_with fail
      go_ret
      exact ⟨hbel, Ao, co, rfl, HO.out⟩
end Go.Proofs.Ytnomodbcpndocaa
