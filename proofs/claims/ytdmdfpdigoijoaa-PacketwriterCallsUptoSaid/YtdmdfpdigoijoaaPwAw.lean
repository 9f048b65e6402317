/-
  Chapter 52: the example that the law checks first, walked.
-/
import Derived.Test.YtdmdfpdigoijoaaPwAw1
import Derived.Test.YtdmdfpdigoijoaaHeld
import Derived.Deep.Cut
import Derived.Deep.CutRange
namespace Go.Proofs.Ytdmdfpdigoijoaa
open Go.RowKit
set_option linter.unusedVariables false

theorem base_any (g : Nat) (st ba : Int) (v : Value) (w : World) (h : RowAt w g 109 #[.int .i64 st, .int .i64 ba, v]) :
    Calls Try.prog 40 #[.pointer (some ⟨g, 0, none⟩)] w fun e w' => e = .returned (.int .i64 ba) ∧ w = w' := by
  have q := h.cell
  go_enter Try.func40, Try.ntmps40
  go_wp2_with fail
  go_ret
  exact ⟨rfl, rfl⟩
theorem aw_len (a : ByteArray) : (awL a).length = 8 := rfl
theorem aw_last (a : ByteArray) : lastL 18 (awL a) = 26 := rfl
theorem aw_bl (gb : Nat) (a c z : ByteArray) : ∀ x ∈ awW gb a c z, x.bl.length ≤ 1000000 := by
  intro x hx
  unfold awW flWs at hx
  obtain ⟨j, hj, rfl⟩ := List.mem_map.1 hx
  unfold flW
  rw [List.length_take]
  omega
theorem WtAt.below' {w w' : World} {base0 g : Nat} {st ba : Int} {l : List Pend} (h : WtAt w base0 g st ba l) (hb : Below w.heap.size w w') : WtAt w' base0 g st ba l := by
  obtain ⟨A, c, hr, ho⟩ := h
  exact ⟨A, c, hr.below hb hr.lt, own_all ho hb⟩
theorem SlAt.of_row {w : World} {B g : Nat} {t : TypeId} {cs : List Value} (h : RowAt w g t cs.toArray) (hg : g < B) : SlAt w B (some ⟨g, 0, none⟩) cs := fun j u hu => ⟨g, 0, rfl, hg, by rw [Nat.zero_add, h.cell, List.getElem?_toArray]; exact hu⟩
theorem SlAt.of_wr {w : World} {g : Nat} {t : TypeId} {cs : List Value} (h : RowAt w g t cs.toArray) : SlAt w w.heap.size (some ⟨g, 0, none⟩) cs := SlAt.of_row h h.lt
set_option maxRecDepth 100000 in
set_option maxHeartbeats 4000000 in
theorem awake_any (w : World) : Calls Try.prog 11 #[] w fun e w' => e = .returned (.bool true) ∧ Below w.heap.size w w' := by
  obtain ⟨g, hg⟩ : ∃ g, w.heap.size = g := ⟨_, rfl⟩
  obtain ⟨a, ha⟩ : ∃ a, a = fillS 97 := ⟨_, rfl⟩
  obtain ⟨c, hc⟩ : ∃ c, c = fillS 99 := ⟨_, rfl⟩
  have hao : blkOk a = true := by rw [ha]; exact fillS_ok _
  have hco : blkOk c = true := by rw [hc]; exact fillS_ok _
  have C0 := Lib.hid (new_ok 10 13 w rfl)
  have CA : Hid (∀ w, Calls Try.prog 24 #[.int .u8 97] w fun e w' => e = .returned (.string a) ∧ Below w.heap.size w w') := Lib.hid (by rw [ha]; exact fun w => block_any 97 (by omega) w)
  have CC : Hid (∀ w, Calls Try.prog 24 #[.int .u8 99] w fun e w' => e = .returned (.string c) ∧ Below w.heap.size w w') := Lib.hid (by rw [hc]; exact fun w => block_any 99 (by omega) w)
  have HAO := Lib.hid hao
  have HCO := Lib.hid hco
  have HG := Lib.hid hg
  clear ha hc hao hco
  go_enter Try.func11, Try.ntmps11
  go_wp2_with fail
  refine C0.out.mono ?_
  rintro e w1 ⟨rfl, hw1⟩
  have h1 : St w w1 [(g, 109, #[.int .i64 10, .int .i64 18, .slice none 0 0])] := by rw [hw1]; exact (St.start w).new HG.out _ _
  rw [hg]
  clear hw1 hg
  have H1 := Lib.hid h1
  clear h1
  go_wp2_with fail
  refine (base_any g _ _ _ _ (H1.out.at (i := 0) rfl)).mono ?_
  rintro e w' ⟨rfl, rfl⟩
  go_wp2_with fail
  refine (CA.out _).mono ?_
  rintro e w2 ⟨rfl, hb2⟩
  have H2 := Lib.hid ((St.call hb2 H1.out).other (.cells #[.string a] 9))
  have HR2 := Lib.hid (RowAt.new w2 9 #[.string a])
  clear hb2
  go_wp2_with fail
  refine (repeat_any w2.heap.size 0 1 8 a _ (HR2.out.cell 0) (HR2.out.lt) (by omega)).mono ?_
  rintro e w3 ⟨rfl, hown3, hb3⟩
  rw [World.size_alloc] at hown3 ⊢
  have H3 := Lib.hid (St.call hb3 H2.out)
  have HO3 := Lib.hid hown3
  clear hb3 hown3
  generalize w2.heap.size + 1 = g3 at *
  go_wp2_with fail
  refine (append_any w.heap.size g 10 18 [] (some ⟨g3, 0, none⟩) none 8 0 (List.replicate 8 a) w3 (SlAt.of_own' HO3.out (Nat.le_refl _)) (by simp) (by simp [HAO.out]) (H3.out.at (i := 0) rfl) (World.ownsRow_nil _ _ _ _) (by simp) (by omega) (by decide) (by decide) (by intro out ho; rw [List.length_replicate, aw_asg] at ho; injection ho with ho; subst ho; rfl) H3.out.bel.size (by intro b off hA; injection hA with hA; injection hA with hA _ _; refine ⟨?_, by intro h; cases h⟩; subst hA; have := (own_row_ne HO3.out (H3.out.at (i := 0) rfl) (by decide)) _ rfl; omega)).mono ?_
  rintro e w4 hres
  obtain ⟨out, A4, c4, ho4, rfl, hi4, hw4, ht4⟩ : ∃ out A c1, asgL 10 18 [] (List.replicate 8 a).length = some out ∧ e = .returned (.tuple #[.slice A out.length c1, .int .i64 0]) ∧ w4.ownsRow w3.heap.size 3 1 (.slice A out.length c1) out.length (intV out) ∧ WtAt w4 w.heap.size g 10 18 (moreP [] out (List.replicate 8 a) out.length) ∧ Two w3 w4 g none := by
    rcases hres with ⟨h, _⟩ | h
    · rw [List.length_replicate, aw_asg] at h; cases h
    · exact h
  rw [List.length_replicate, aw_asg] at ho4
  injection ho4 with ho4
  subst ho4
  rw [show ([18, 19, 20, 21, 22, 23, 24, 26] : List Int).length = 8 from rfl, aw_more] at *
  have hb4 : Below w.heap.size w w4 := H3.out.bel.trans (ht4.toBelow H3.out.bel.size (Nat.le_of_eq HG.out) (by intro k hk; cases hk))
  have HI4 := Lib.hid hi4
  have HW4 := Lib.hid hw4
  have HB4 := Lib.hid hb4
  clear hres hi4 hw4 hb4 ht4
  go_wp2_with fail
  have hbA : Below w4.heap.size w4 (w4.alloc (.cells (intV [18, 19, 20, 21, 22, 23, 24, 26]).toArray 3)) := (Below.refl _ _).alloc (Nat.le_refl _) _
  refine (eqints_same A4 (some ⟨w4.heap.size, 0, none⟩) c4 8 [18, 19, 20, 21, 22, 23, 24, 26] (w4.alloc (.cells (intV [18, 19, 20, 21, 22, 23, 24, 26]).toArray 3)) ((SlAt.of_own' (own_all HI4.out hbA) (Nat.le_refl _))) (SlAt.of_wr (RowAt.new _ _ _)) (by simp)).mono ?_
  rintro e w5 ⟨rfl, hb5⟩
  have hW5 : WtAt w5 w.heap.size g 10 18 (awL a) := HW4.out.below' ((Below.refl _ _).alloc (Nat.le_refl _) _ |>.trans (hb5.mono (by simp)))
  have HB5 := Lib.hid ((HB4.out.alloc HB4.out.size _).trans (hb5.mono (by have := HB4.out.size; simp; omega)))
  have HW5 := Lib.hid hW5
  clear hb5 hW5 hbA
  go_wp2_with fail
  refine (control_any w.heap.size g 10 18 (awL a) w5 HW5.out (by rw [aw_len]; omega) (by omega) (by rw [aw_last]; omega) (by rw [aw_last]; omega)).mono ?_
  rintro e w' ⟨rfl, rfl⟩
  rw [aw_ctl]
  go_wp2_with fail
  refine (CC.out _).mono ?_
  rintro e w6 ⟨rfl, hb6⟩
  have HW6 := Lib.hid (HW5.out.below' hb6)
  have HB6 := Lib.hid (HB5.out.trans (hb6.mono HB5.out.size))
  clear hb6
  go_wp2_with fail
  refine (flush_go w.heap.size g 10 18 (awL a) c w6 HW6.out (by rw [aw_len]; omega) (by omega) (by rw [aw_last]; omega) (by rw [aw_last]; omega) (.inr ⟨blk_ne HCO.out, of_decide_eq_true HCO.out⟩) (aw_open a (blk_ne HAO.out)) (by rintro ⟨h, _⟩; cases h) (by rw [aw_ctl]; omega) (by omega) (by rw [aw_ctl]; intro x hx; simp only [awL, List.mem_cons, List.not_mem_nil, or_false] at hx; rcases hx with rfl | rfl | rfl | rfl | rfl | rfl | rfl | rfl <;> (dsimp only; omega)) (by rw [aw_ctl]; omega) (by omega)).mono ?_
  rintro e w7 ⟨gb, m, A7, c7, hm0, hm, rfl, hwr7, hrw7, ht7⟩
  rw [aw_ctl] at hm
  obtain rfl : m = 2 := by omega
  rw [aw_all a c (blk_ne HCO.out)] at hwr7
  have HWR7 : Hid (WrAt w7 w7.heap.size A7 (awW gb a c (fillS 0))) := Lib.hid hwr7
  have HB7 := Lib.hid (HB6.out.trans (ht7.toBelow HB6.out.size (Nat.le_of_eq HG.out) (by intro k hk; cases hk)))
  obtain ⟨z, hz⟩ : ∃ z, z = fillS 0 := ⟨_, rfl⟩
  have HZO : Hid (blkOk z = true) := Lib.hid (by rw [hz]; exact fillS_ok _)
  rw [← hz] at HWR7
  clear hwr7 hrw7 ht7 hm hm0 hz
  obtain ⟨b7, off7, rfl, hlt7⟩ := HWR7.out.one (show 0 < 2 by omega)
  have p0 := HWR7.out.cells rfl (k := 0) rfl
  have p1 := HWR7.out.cells rfl (k := 1) rfl
  unfold flW at p0 p1
  simp only [Nat.zero_mul, Nat.add_zero, Nat.one_mul] at p0 p1
  have p00 : w7.cell? ⟨b7, off7, none⟩ = some (.int .i64 18) := p0.1
  have p02 : w7.cell? ⟨b7, off7 + 2, none⟩ = some (.bool false) := p0.2.2.1
  have p10 : w7.cell? ⟨b7, off7 + 4, none⟩ = some (.int .i64 26) := p1.1
  have p11 : w7.cell? ⟨b7, off7 + 4 + 1, none⟩ = some (.slice (some ⟨gb, 8, none⟩) 8 8) := p1.2.1
  have p12 : w7.cell? ⟨b7, off7 + 4 + 2, none⟩ = some (.bool true) := p1.2.2.1
  clear p0 p1
  go_wp2_with fail
  clear p00 p02 p10 p11 p12
  refine (record_any none (some ⟨b7, off7, none⟩) 0 c7 [] (awW gb a c z) w7 (SlAt.nil _ _ _) HWR7.out (by simp) (show 2 ≤ 1000000 by omega) (aw_bl gb a c z) (by rw [aw_steps]; omega)).mono ?_
  rintro e w8 ⟨hb8, A8, c8, rfl, hs8⟩
  rw [aw_rec gb a c z HAO.out HCO.out HZO.out] at hs8 ⊢
  rw [show (List.replicate 18 blankS ++ awR a c z, (0 : Int)).1.length = 34 from rfl] at *
  have HS8 : Hid (SlAt w8 w8.heap.size A8 (strV (List.replicate 18 blankS ++ awR a c z))) := Lib.hid hs8
  have HB8 := Lib.hid (HB7.out.trans (hb8.mono HB7.out.size))
  have HWR8 := Lib.hid ((HWR7.out.below hb8).mono hb8.size)
  clear hs8 hb8
  go_wp2_with fail
  refine (cut_any none (some ⟨b7, off7, none⟩) 0 c7 [] (awW gb a c z) 9 w8 (SlAt.nil _ _ _) HWR8.out (by simp) (show 2 ≤ 1000000 by omega) (aw_bl gb a c z) (by rw [aw_steps]; omega)).mono ?_
  rintro e w9 ⟨hb9, A9, c9, rfl, hs9⟩
  rw [aw_rec9 gb a c z HAO.out HCO.out HZO.out] at hs9 ⊢
  rw [show (List.replicate 18 blankS ++ [a, a, a, a, a, a, a, z, a, unrS], (0 : Int)).1.length = 28 from rfl] at *
  have HS9 : Hid (SlAt w9 w9.heap.size A9 (strV (List.replicate 18 blankS ++ [a, a, a, a, a, a, a, z, a, unrS]))) := Lib.hid hs9
  have HB9 := Lib.hid (HB8.out.trans (hb9.mono HB8.out.size))
  have HWR9 := Lib.hid ((HWR8.out.below hb9).mono hb9.size)
  have HS8' := Lib.hid ((HS8.out.below hb9).mono hb9.size)
  clear hs9 hb9 HS8 HWR8 HB8 HWR7 HB7
  obtain ⟨b8, off8, rfl, hlt8⟩ := HS8'.out.strAddr (show 0 < 34 by omega)
  obtain ⟨b9, off9, rfl, hlt9⟩ := HS9.out.strAddr (show 0 < 28 by omega)
  go_upto_region 12 with fail
  have hs12 : St w9 w9.drew [] := (St.start w9).drew
  refine wp_region_held_drew (S := (fun w' => St w9 w' [])) (by kernel_rfl) (hs12) (fun hHeld => ?_)
  refine wpAnyH_take (i := 0) (oi := ?o1) (v := ?v1) ?hi1 (by kernel_rfl) (by kernel_rfl) (by kernel_rfl) ?hq1 ?hy1 (by assumption) ?hr1
  case hi1 => (simp only [List.getElem?_toArray, List.getElem?_cons_zero]; rfl)
  case hy1 => ((refine .inl ⟨by rfl, ?_⟩); intro w hS; go_simp; (try with_reducible rfl))
  case hq1 => exact fun _ _ _ h => h
  (simp only [Act.put, List.setIfInBounds_toArray, List.set_cons_zero, List.set_cons_succ])
  refine wpAnyH_take (i := 1) (oi := ?o2) (v := ?v2) ?hi2 (by kernel_rfl) (by kernel_rfl) (by kernel_rfl) ?hq2 ?hy2 (by assumption) ?hr2
  case hi2 => (simp only [List.getElem?_toArray, List.getElem?_cons_succ, List.getElem?_cons_zero]; rfl)
  case hy2 => ((refine .inl ⟨by rfl, ?_⟩); intro w hS; go_simp; (try with_reducible rfl))
  case hq2 => exact fun _ _ _ h => h
  (simp only [Act.put, List.setIfInBounds_toArray, List.set_cons_zero, List.set_cons_succ])
  refine wpAnyH_take (i := 2) (oi := ?o3) (v := ?v3) ?hi3 (by kernel_rfl) (by kernel_rfl) (by kernel_rfl) ?hq3 ?hy3 (by assumption) ?hr3
  case hi3 => (simp only [List.getElem?_toArray, List.getElem?_cons_succ, List.getElem?_cons_zero]; rfl)
  case hy3 => ((refine .inl ⟨by rfl, ?_⟩); intro w hS; go_simp; (try with_reducible rfl))
  case hq3 => exact fun _ _ _ h => h
  (simp only [Act.put, List.setIfInBounds_toArray, List.set_cons_zero, List.set_cons_succ])
  refine wpAnyH_take (i := 3) (oi := ?o4) (v := ?v4) ?hi4 (by kernel_rfl) (by kernel_rfl) (by kernel_rfl) ?hq4 ?hy4 (by assumption) ?hr4
  case hi4 => (simp only [List.getElem?_toArray, List.getElem?_cons_succ, List.getElem?_cons_zero]; rfl)
  case hy4 => ((refine .inl ⟨by rfl, ?_⟩); intro w hS; go_simp; (try with_reducible rfl))
  case hq4 => exact fun _ _ _ h => h
  (simp only [Act.put, List.setIfInBounds_toArray, List.set_cons_zero, List.set_cons_succ])
  refine wpAnyH_take (i := 4) (oi := ?o5) (v := ?v5) ?hi5 (by kernel_rfl) (by kernel_rfl) (by kernel_rfl) ?hq5 ?hy5 (by assumption) ?hr5
  case hi5 => (simp only [List.getElem?_toArray, List.getElem?_cons_succ, List.getElem?_cons_zero]; rfl)
  case hy5 => ((refine .inl ⟨by rfl, ?_⟩); intro w hS; go_simp; (try with_reducible rfl))
  case hq5 => exact fun _ _ _ h => h
  (simp only [Act.put, List.setIfInBounds_toArray, List.set_cons_zero, List.set_cons_succ])
  refine wpAnyH_take (i := 5) (oi := ?o6) (v := ?v6) ?hi6 (by kernel_rfl) (by kernel_rfl) (by kernel_rfl) ?hq6 ?hy6 (by assumption) ?hr6
  case hi6 => (simp only [List.getElem?_toArray, List.getElem?_cons_succ, List.getElem?_cons_zero]; rfl)
  case hy6 => ((refine .inl ⟨by rfl, ?_⟩); intro w hS; go_simp; (try with_reducible rfl))
  case hq6 => exact fun _ _ _ h => h
  (simp only [Act.put, List.setIfInBounds_toArray, List.set_cons_zero, List.set_cons_succ])
  refine wpAnyH_take (i := 6) (oi := ?o7) (v := ?v7) ?hi7 (by kernel_rfl) (by kernel_rfl) (by kernel_rfl) ?hq7 ?hy7 (by assumption) ?hr7
  case hi7 => (simp only [List.getElem?_toArray, List.getElem?_cons_succ, List.getElem?_cons_zero]; rfl)
  case hy7 => ((refine .inl ⟨by rfl, ?_⟩); intro w hS; go_simp; (try with_reducible rfl))
  case hq7 => exact fun _ _ _ h => h
  (simp only [Act.put, List.setIfInBounds_toArray, List.set_cons_zero, List.set_cons_succ])
  refine wpAnyH_take (i := 7) (oi := ?o8) (v := ?v8) ?hi8 (by kernel_rfl) (by kernel_rfl) (by kernel_rfl) ?hq8 ?hy8 (by assumption) ?hr8
  case hi8 => (simp only [List.getElem?_toArray, List.getElem?_cons_succ, List.getElem?_cons_zero]; rfl)
  case hy8 => ((refine .inl ⟨by rfl, ?_⟩); intro w hS; go_simp; (try with_reducible rfl))
  case hq8 => exact fun _ _ _ h => h
  (simp only [Act.put, List.setIfInBounds_toArray, List.set_cons_zero, List.set_cons_succ])
  refine wpAnyH_take (i := 8) (oi := ?o9) (v := ?v9) ?hi9 (by kernel_rfl) (by kernel_rfl) (by kernel_rfl) ?hq9 ?hy9 (by assumption) ?hr9
  case hi9 => (simp only [List.getElem?_toArray, List.getElem?_cons_succ, List.getElem?_cons_zero]; rfl)
  case hy9 => ((refine .inl ⟨by rfl, ?_⟩); intro w hS; go_simp; (try with_reducible rfl))
  case hq9 => exact fun _ _ _ h => h
  (simp only [Act.put, List.setIfInBounds_toArray, List.set_cons_zero, List.set_cons_succ])
  refine wpAnyH_take (i := 9) (oi := ?o10) (v := ?v10) ?hi10 (by kernel_rfl) (by kernel_rfl) (by kernel_rfl) ?hq10 ?hy10 (by assumption) ?hr10
  case hi10 => (simp only [List.getElem?_toArray, List.getElem?_cons_succ, List.getElem?_cons_zero]; rfl)
  case hy10 => ((refine .inl ⟨by rfl, ?_⟩); intro w hS; go_simp; (try with_reducible rfl))
  case hq10 => exact fun _ _ _ h => h
  (simp only [Act.put, List.setIfInBounds_toArray, List.set_cons_zero, List.set_cons_succ])
  refine wpAnyH_take (i := 10) (oi := ?o11) (v := ?v11) ?hi11 (by kernel_rfl) (by kernel_rfl) (by kernel_rfl) ?hq11 ?hy11 (by assumption) ?hr11
  case hi11 => (simp only [List.getElem?_toArray, List.getElem?_cons_succ, List.getElem?_cons_zero]; rfl)
  case hy11 => ((refine .inl ⟨by rfl, ?_⟩); intro w hS; go_simp; (try with_reducible rfl))
  case hq11 => exact fun _ _ _ h => h
  (simp only [Act.put, List.setIfInBounds_toArray, List.set_cons_zero, List.set_cons_succ])
  refine wpAnyH_take (i := 11) (oi := ?o12) (v := ?v12) ?hi12 (by kernel_rfl) (by kernel_rfl) (by kernel_rfl) ?hq12 ?hy12 (by assumption) ?hr12
  case hi12 => (simp only [List.getElem?_toArray, List.getElem?_cons_succ, List.getElem?_cons_zero]; rfl)
  case hy12 => ((refine .inl ⟨by rfl, ?_⟩); intro w hS; go_simp; (try with_reducible rfl))
  case hq12 => exact fun _ _ _ h => h
  (simp only [Act.put, List.setIfInBounds_toArray, List.set_cons_zero, List.set_cons_succ])
  refine wpAnyH_take (i := 12) (oi := ?o13) (v := ?v13) ?hi13 (by kernel_rfl) (by kernel_rfl) (by kernel_rfl) ?hq13 ?hy13 (by assumption) ?hr13
  case hi13 => (simp only [List.getElem?_toArray, List.getElem?_cons_succ, List.getElem?_cons_zero]; rfl)
  case hy13 => ((refine .inl ⟨by rfl, ?_⟩); intro w hS; go_simp; (try with_reducible rfl))
  case hq13 => exact fun _ _ _ h => h
  (simp only [Act.put, List.setIfInBounds_toArray, List.set_cons_zero, List.set_cons_succ])
  refine wpAnyH_take (i := 13) (oi := ?o14) (v := ?v14) ?hi14 (by kernel_rfl) (by kernel_rfl) (by kernel_rfl) ?hq14 ?hy14 (by assumption) ?hr14
  case hi14 => (simp only [List.getElem?_toArray, List.getElem?_cons_succ, List.getElem?_cons_zero]; rfl)
  case hy14 => ((refine .inl ⟨by rfl, ?_⟩); intro w hS; go_simp; (try with_reducible rfl))
  case hq14 => exact fun _ _ _ h => h
  (simp only [Act.put, List.setIfInBounds_toArray, List.set_cons_zero, List.set_cons_succ])
  refine wpAnyH_take (i := 14) (oi := ?o15) (v := ?v15) ?hi15 (by kernel_rfl) (by kernel_rfl) (by kernel_rfl) ?hq15 ?hy15 (by assumption) ?hr15
  case hi15 => (simp only [List.getElem?_toArray, List.getElem?_cons_succ, List.getElem?_cons_zero]; rfl)
  case hy15 => ((refine .inl ⟨by rfl, ?_⟩); intro w hS; have q := (HS8'.out.below hS.bel).str rfl (k := 33) rfl; go_simp; (try with_reducible rfl))
  case hq15 => exact fun _ _ _ h => h
  (simp only [Act.put, List.setIfInBounds_toArray, List.set_cons_zero, List.set_cons_succ])
  refine wpAnyH_ready (rs := [15]) (by kernel_rfl) (by simp) ?_
  refine AllReadyH.cons rfl (fun K hK => ?_) AllReadyH.nil
  go_simp
  go_wp2_with ((refine (CC.out _).mono ?_; rintro e wx ⟨rfl, hb⟩))
  refine hK.out _ _ (St.call hb hHeld) (fun hHeld1 => ?_)
  clear hK K
  (try simp only [Act.put, List.setIfInBounds_toArray, List.set_cons_zero, List.set_cons_succ])
  clear hHeld; have hHeld := hHeld1; clear hHeld1
  refine wpAnyH_take (i := 16) (oi := ?o16) (v := ?v16) ?hi16 (by kernel_rfl) (by kernel_rfl) (by kernel_rfl) ?hq16 ?hy16 (by assumption) ?hr16
  case hi16 => (simp only [List.getElem?_toArray, List.getElem?_cons_succ, List.getElem?_cons_zero]; rfl)
  case hy16 => ((refine .inl ⟨by rfl, ?_⟩); intro w hS; go_simp; (try with_reducible rfl))
  case hq16 => exact fun _ _ _ h => h
  (simp only [Act.put, List.setIfInBounds_toArray, List.set_cons_zero, List.set_cons_succ])
  refine wpAnyH_take (i := 17) (oi := ?o17) (v := ?v17) ?hi17 (by kernel_rfl) (by kernel_rfl) (by kernel_rfl) ?hq17 ?hy17 (by assumption) ?hr17
  case hi17 => (simp only [List.getElem?_toArray, List.getElem?_cons_succ, List.getElem?_cons_zero]; rfl)
  case hy17 => ((refine .inl ⟨by rfl, ?_⟩); intro w hS; go_simp; (try with_reducible rfl))
  case hq17 => exact fun _ _ _ h => h
  (simp only [Act.put, List.setIfInBounds_toArray, List.set_cons_zero, List.set_cons_succ])
  refine wpAnyH_take (i := 18) (oi := ?o18) (v := ?v18) ?hi18 (by kernel_rfl) (by kernel_rfl) (by kernel_rfl) ?hq18 ?hy18 (by assumption) ?hr18
  case hi18 => (simp only [List.getElem?_toArray, List.getElem?_cons_succ, List.getElem?_cons_zero]; rfl)
  case hy18 => ((refine .inl ⟨by rfl, ?_⟩); intro w hS; go_simp; (try with_reducible rfl))
  case hq18 => exact fun _ _ _ h => h
  (simp only [Act.put, List.setIfInBounds_toArray, List.set_cons_zero, List.set_cons_succ])
  refine wpAnyH_take (i := 19) (oi := ?o19) (v := ?v19) ?hi19 (by kernel_rfl) (by kernel_rfl) (by kernel_rfl) ?hq19 ?hy19 (by assumption) ?hr19
  case hi19 => (simp only [List.getElem?_toArray, List.getElem?_cons_succ, List.getElem?_cons_zero]; rfl)
  case hy19 => ((refine .inl ⟨by rfl, ?_⟩); intro w hS; go_simp; (try with_reducible rfl))
  case hq19 => exact fun _ _ _ h => h
  (simp only [Act.put, List.setIfInBounds_toArray, List.set_cons_zero, List.set_cons_succ])
  refine wpAnyH_take (i := 20) (oi := ?o20) (v := ?v20) ?hi20 (by kernel_rfl) (by kernel_rfl) (by kernel_rfl) ?hq20 ?hy20 (by assumption) ?hr20
  case hi20 => (simp only [List.getElem?_toArray, List.getElem?_cons_succ, List.getElem?_cons_zero]; rfl)
  case hy20 => ((refine .inl ⟨by rfl, ?_⟩); intro w hS; go_simp; (try with_reducible rfl))
  case hq20 => exact fun _ _ _ h => h
  (simp only [Act.put, List.setIfInBounds_toArray, List.set_cons_zero, List.set_cons_succ])
  refine wpAnyH_take (i := 21) (oi := ?o21) (v := ?v21) ?hi21 (by kernel_rfl) (by kernel_rfl) (by kernel_rfl) ?hq21 ?hy21 (by assumption) ?hr21
  case hi21 => (simp only [List.getElem?_toArray, List.getElem?_cons_succ, List.getElem?_cons_zero]; rfl)
  case hy21 => ((refine .inl ⟨by rfl, ?_⟩); intro w hS; have q : w.cell? ⟨b8, off8 + 17, none⟩ = some (.string ⟨#[]⟩) := (HS8'.out.below hS.bel).str rfl (k := 17) (s := blankS) rfl; go_simp; (try with_reducible rfl))
  case hq21 => exact fun _ _ _ h => h
  (simp only [Act.put, List.setIfInBounds_toArray, List.set_cons_zero, List.set_cons_succ])
  refine wpAnyH_take (i := 22) (oi := ?o22) (v := ?v22) ?hi22 (by kernel_rfl) (by kernel_rfl) (by kernel_rfl) ?hq22 ?hy22 (by assumption) ?hr22
  case hi22 => (simp only [List.getElem?_toArray, List.getElem?_cons_succ, List.getElem?_cons_zero]; rfl)
  case hy22 => ((refine .inl ⟨by rfl, ?_⟩); intro w hS; go_simp; (try with_reducible rfl))
  case hq22 => exact fun _ _ _ h => h
  (simp only [Act.put, List.setIfInBounds_toArray, List.set_cons_zero, List.set_cons_succ])
  refine wpAnyH_take (i := 23) (oi := ?o23) (v := ?v23) ?hi23 (by kernel_rfl) (by kernel_rfl) (by kernel_rfl) ?hq23 ?hy23 (by assumption) ?hr23
  case hi23 => (simp only [List.getElem?_toArray, List.getElem?_cons_succ, List.getElem?_cons_zero]; rfl)
  case hy23 => ((refine .inl ⟨by rfl, ?_⟩); intro w hS; go_simp; (try with_reducible rfl))
  case hq23 => exact fun _ _ _ h => h
  (simp only [Act.put, List.setIfInBounds_toArray, List.set_cons_zero, List.set_cons_succ])
  refine wpAnyH_take (i := 24) (oi := ?o24) (v := ?v24) ?hi24 (by kernel_rfl) (by kernel_rfl) (by kernel_rfl) ?hq24 ?hy24 (by assumption) ?hr24
  case hi24 => (simp only [List.getElem?_toArray, List.getElem?_cons_succ, List.getElem?_cons_zero]; rfl)
  case hy24 => ((refine .inl ⟨by rfl, ?_⟩); intro w hS; go_simp; (try with_reducible rfl))
  case hq24 => exact fun _ _ _ h => h
  (simp only [Act.put, List.setIfInBounds_toArray, List.set_cons_zero, List.set_cons_succ])
  refine wpAnyH_take (i := 25) (oi := ?o25) (v := ?v25) ?hi25 (by kernel_rfl) (by kernel_rfl) (by kernel_rfl) ?hq25 ?hy25 (by assumption) ?hr25
  case hi25 => (simp only [List.getElem?_toArray, List.getElem?_cons_succ, List.getElem?_cons_zero]; rfl)
  case hy25 => ((refine .inl ⟨by rfl, ?_⟩); intro w hS; go_simp; (try with_reducible rfl))
  case hq25 => exact fun _ _ _ h => h
  (simp only [Act.put, List.setIfInBounds_toArray, List.set_cons_zero, List.set_cons_succ])
  refine wpAnyH_take (i := 26) (oi := ?o26) (v := ?v26) ?hi26 (by kernel_rfl) (by kernel_rfl) (by kernel_rfl) ?hq26 ?hy26 (by assumption) ?hr26
  case hi26 => (simp only [List.getElem?_toArray, List.getElem?_cons_succ, List.getElem?_cons_zero]; rfl)
  case hy26 => ((refine .inl ⟨by rfl, ?_⟩); intro w hS; go_simp; (try with_reducible rfl))
  case hq26 => exact fun _ _ _ h => h
  (simp only [Act.put, List.setIfInBounds_toArray, List.set_cons_zero, List.set_cons_succ])
  refine wpAnyH_take (i := 27) (oi := ?o27) (v := ?v27) ?hi27 (by kernel_rfl) (by kernel_rfl) (by kernel_rfl) ?hq27 ?hy27 (by assumption) ?hr27
  case hi27 => (simp only [List.getElem?_toArray, List.getElem?_cons_succ, List.getElem?_cons_zero]; rfl)
  case hy27 => ((refine .inl ⟨by rfl, ?_⟩); intro w hS; go_simp; (try with_reducible rfl))
  case hq27 => exact fun _ _ _ h => h
  (simp only [Act.put, List.setIfInBounds_toArray, List.set_cons_zero, List.set_cons_succ])
  refine wpAnyH_take (i := 28) (oi := ?o28) (v := ?v28) ?hi28 (by kernel_rfl) (by kernel_rfl) (by kernel_rfl) ?hq28 ?hy28 (by assumption) ?hr28
  case hi28 => (simp only [List.getElem?_toArray, List.getElem?_cons_succ, List.getElem?_cons_zero]; rfl)
  case hy28 => ((refine .inl ⟨by rfl, ?_⟩); intro w hS; go_simp; (try with_reducible rfl))
  case hq28 => exact fun _ _ _ h => h
  (simp only [Act.put, List.setIfInBounds_toArray, List.set_cons_zero, List.set_cons_succ])
  refine wpAnyH_take (i := 29) (oi := ?o29) (v := ?v29) ?hi29 (by kernel_rfl) (by kernel_rfl) (by kernel_rfl) ?hq29 ?hy29 (by assumption) ?hr29
  case hi29 => (simp only [List.getElem?_toArray, List.getElem?_cons_succ, List.getElem?_cons_zero]; rfl)
  case hy29 => ((refine .inl ⟨by rfl, ?_⟩); intro w hS; go_simp; (try with_reducible rfl))
  case hq29 => exact fun _ _ _ h => h
  (simp only [Act.put, List.setIfInBounds_toArray, List.set_cons_zero, List.set_cons_succ])
  refine wpAnyH_take (i := 30) (oi := ?o30) (v := ?v30) ?hi30 (by kernel_rfl) (by kernel_rfl) (by kernel_rfl) ?hq30 ?hy30 (by assumption) ?hr30
  case hi30 => (simp only [List.getElem?_toArray, List.getElem?_cons_succ, List.getElem?_cons_zero]; rfl)
  case hy30 => ((refine .inl ⟨by rfl, ?_⟩); intro w hS; go_simp; (try with_reducible rfl))
  case hq30 => exact fun _ _ _ h => h
  (simp only [Act.put, List.setIfInBounds_toArray, List.set_cons_zero, List.set_cons_succ])
  refine wpAnyH_take (i := 31) (oi := ?o31) (v := ?v31) ?hi31 (by kernel_rfl) (by kernel_rfl) (by kernel_rfl) ?hq31 ?hy31 (by assumption) ?hr31
  case hi31 => (simp only [List.getElem?_toArray, List.getElem?_cons_succ, List.getElem?_cons_zero]; rfl)
  case hy31 => ((refine .inl ⟨by rfl, ?_⟩); intro w hS; go_simp; (try with_reducible rfl))
  case hq31 => exact fun _ _ _ h => h
  (simp only [Act.put, List.setIfInBounds_toArray, List.set_cons_zero, List.set_cons_succ])
  refine wpAnyH_take (i := 32) (oi := ?o32) (v := ?v32) ?hi32 (by kernel_rfl) (by kernel_rfl) (by kernel_rfl) ?hq32 ?hy32 (by assumption) ?hr32
  case hi32 => (simp only [List.getElem?_toArray, List.getElem?_cons_succ, List.getElem?_cons_zero]; rfl)
  case hy32 => ((refine .inl ⟨by rfl, ?_⟩); intro w hS; have q := (HS9.out.below hS.bel).str rfl (k := 26) rfl; go_simp; (try with_reducible rfl))
  case hq32 => exact fun _ _ _ h => h
  (simp only [Act.put, List.setIfInBounds_toArray, List.set_cons_zero, List.set_cons_succ])
  refine wpAnyH_ready (rs := [33]) (by kernel_rfl) (by simp) ?_
  refine AllReadyH.cons rfl (fun K hK => ?_) AllReadyH.nil
  go_simp
  go_wp2_with ((refine (CA.out _).mono ?_; rintro e wx ⟨rfl, hb⟩))
  refine hK.out _ _ (St.call hb hHeld) (fun hHeld1 => ?_)
  clear hK K
  (try simp only [Act.put, List.setIfInBounds_toArray, List.set_cons_zero, List.set_cons_succ])
  clear hHeld; have hHeld := hHeld1; clear hHeld1
  refine wpAnyH_take (i := 34) (oi := ?o33) (v := ?v33) ?hi33 (by kernel_rfl) (by kernel_rfl) (by kernel_rfl) ?hq33 ?hy33 (by assumption) ?hr33
  case hi33 => (simp only [List.getElem?_toArray, List.getElem?_cons_succ, List.getElem?_cons_zero]; rfl)
  case hy33 => ((refine .inl ⟨by rfl, ?_⟩); intro w hS; go_simp; (try with_reducible rfl))
  case hq33 => exact fun _ _ _ h => h
  (simp only [Act.put, List.setIfInBounds_toArray, List.set_cons_zero, List.set_cons_succ])
  refine wpAnyH_take (i := 35) (oi := ?o34) (v := ?v34) ?hi34 (by kernel_rfl) (by kernel_rfl) (by kernel_rfl) ?hq34 ?hy34 (by assumption) ?hr34
  case hi34 => (simp only [List.getElem?_toArray, List.getElem?_cons_succ, List.getElem?_cons_zero]; rfl)
  case hy34 => ((refine .inl ⟨by rfl, ?_⟩); intro w hS; go_simp; (try with_reducible rfl))
  case hq34 => exact fun _ _ _ h => h
  (simp only [Act.put, List.setIfInBounds_toArray, List.set_cons_zero, List.set_cons_succ])
  refine wpAnyH_take (i := 36) (oi := ?o35) (v := ?v35) ?hi35 (by kernel_rfl) (by kernel_rfl) (by kernel_rfl) ?hq35 ?hy35 (by assumption) ?hr35
  case hi35 => (simp only [List.getElem?_toArray, List.getElem?_cons_succ, List.getElem?_cons_zero]; rfl)
  case hy35 => ((refine .inl ⟨by rfl, ?_⟩); intro w hS; go_simp; (try with_reducible rfl))
  case hq35 => exact fun _ _ _ h => h
  (simp only [Act.put, List.setIfInBounds_toArray, List.set_cons_zero, List.set_cons_succ])
  refine wpAnyH_take (i := 37) (oi := ?o36) (v := ?v36) ?hi36 (by kernel_rfl) (by kernel_rfl) (by kernel_rfl) ?hq36 ?hy36 (by assumption) ?hr36
  case hi36 => (simp only [List.getElem?_toArray, List.getElem?_cons_succ, List.getElem?_cons_zero]; rfl)
  case hy36 => ((refine .inl ⟨by rfl, ?_⟩); intro w hS; go_simp; (try with_reducible rfl))
  case hq36 => exact fun _ _ _ h => h
  (simp only [Act.put, List.setIfInBounds_toArray, List.set_cons_zero, List.set_cons_succ])
  refine wpAnyH_take (i := 38) (oi := ?o37) (v := ?v37) ?hi37 (by kernel_rfl) (by kernel_rfl) (by kernel_rfl) ?hq37 ?hy37 (by assumption) ?hr37
  case hi37 => (simp only [List.getElem?_toArray, List.getElem?_cons_succ, List.getElem?_cons_zero]; rfl)
  case hy37 => ((refine .inl ⟨by rfl, ?_⟩); intro w hS; go_simp; (try with_reducible rfl))
  case hq37 => exact fun _ _ _ h => h
  (simp only [Act.put, List.setIfInBounds_toArray, List.set_cons_zero, List.set_cons_succ])
  refine wpAnyH_take (i := 39) (oi := ?o38) (v := ?v38) ?hi38 (by kernel_rfl) (by kernel_rfl) (by kernel_rfl) ?hq38 ?hy38 (by assumption) ?hr38
  case hi38 => (simp only [List.getElem?_toArray, List.getElem?_cons_succ, List.getElem?_cons_zero]; rfl)
  case hy38 => ((refine .inl ⟨by rfl, ?_⟩); intro w hS; have q : w.cell? ⟨b9, off9 + 27, none⟩ = some (.string ⟨#[33]⟩) := (HS9.out.below hS.bel).str rfl (k := 27) (s := unrS) rfl; go_simp; (try with_reducible rfl))
  case hq38 => exact fun _ _ _ h => h
  (simp only [Act.put, List.setIfInBounds_toArray, List.set_cons_zero, List.set_cons_succ])
  refine wpAnyH_take (i := 40) (oi := ?o39) (v := ?v39) ?hi39 (by kernel_rfl) (by kernel_rfl) (by kernel_rfl) ?hq39 ?hy39 (by assumption) ?hr39
  case hi39 => (simp only [List.getElem?_toArray, List.getElem?_cons_succ, List.getElem?_cons_zero]; rfl)
  case hy39 => ((refine .inl ⟨by rfl, ?_⟩); intro w hS; go_simp; (try with_reducible rfl))
  case hq39 => exact fun _ _ _ h => h
  (simp only [Act.put, List.setIfInBounds_toArray, List.set_cons_zero, List.set_cons_succ])
  refine wpAnyH_take (i := 41) (oi := ?o40) (v := ?v40) ?hi40 (by kernel_rfl) (by kernel_rfl) (by kernel_rfl) ?hq40 ?hy40 (by assumption) ?hr40
  case hi40 => (simp only [List.getElem?_toArray, List.getElem?_cons_succ, List.getElem?_cons_zero]; rfl)
  case hy40 => ((refine .inl ⟨by rfl, ?_⟩); intro w hS; go_simp; (try with_reducible rfl))
  case hq40 => exact fun _ _ _ h => h
  (simp only [Act.put, List.setIfInBounds_toArray, List.set_cons_zero, List.set_cons_succ])
  refine wpAnyH_take (i := 42) (oi := ?o41) (v := ?v41) ?hi41 (by kernel_rfl) (by kernel_rfl) (by kernel_rfl) ?hq41 ?hy41 (by assumption) ?hr41
  case hi41 => (simp only [List.getElem?_toArray, List.getElem?_cons_succ, List.getElem?_cons_zero]; rfl)
  case hy41 => ((refine .inl ⟨by rfl, ?_⟩); intro w hS; go_simp; (try with_reducible rfl))
  case hq41 => exact fun _ _ _ h => h
  (simp only [Act.put, List.setIfInBounds_toArray, List.set_cons_zero, List.set_cons_succ])
  refine wpAnyH_take (i := 43) (oi := ?o42) (v := ?v42) ?hi42 (by kernel_rfl) (by kernel_rfl) (by kernel_rfl) ?hq42 ?hy42 (by assumption) ?hr42
  case hi42 => (simp only [List.getElem?_toArray, List.getElem?_cons_succ, List.getElem?_cons_zero]; rfl)
  case hy42 => ((refine .inl ⟨by rfl, ?_⟩); intro w hS; go_simp; (try with_reducible rfl))
  case hq42 => exact fun _ _ _ h => h
  (simp only [Act.put, List.setIfInBounds_toArray, List.set_cons_zero, List.set_cons_succ])
  refine wpAnyH_ready (rs := [44]) (by kernel_rfl) (by simp) ?_
  refine AllReadyH.cons rfl (fun K hK => ?_) AllReadyH.nil
  go_simp
  go_wp2_with ((refine (once_any none (some ⟨b7, off7, none⟩) 0 c7 [] (awW gb a c z) _ (SlAt.nil _ _ _) ((HWR9.out.below hHeld.bel).mono hHeld.bel.size) (by simp) (show 2 ≤ 1000000 by omega) (aw_bl gb a c z)).mono ?_; rintro e wx ⟨rfl, hb⟩; rw [aw_once gb a c z HAO.out HCO.out HZO.out]))
  refine hK.out _ _ (St.call hb hHeld) (fun hHeld1 => ?_)
  clear hK K
  (try simp only [Act.put, List.setIfInBounds_toArray, List.set_cons_zero, List.set_cons_succ])
  clear hHeld; have hHeld := hHeld1; clear hHeld1
  refine wpAnyH_take (i := 45) (oi := ?o43) (v := ?v43) ?hi43 (by kernel_rfl) (by kernel_rfl) (by kernel_rfl) ?hq43 ?hy43 (by assumption) ?hr43
  case hi43 => (simp only [List.getElem?_toArray, List.getElem?_cons_succ, List.getElem?_cons_zero]; rfl)
  case hy43 => ((refine .inl ⟨by rfl, ?_⟩); intro w hS; go_simp; (try with_reducible rfl))
  case hq43 => exact fun _ _ _ h => h
  (simp only [Act.put, List.setIfInBounds_toArray, List.set_cons_zero, List.set_cons_succ])
  refine wpAnyH_take (i := 46) (oi := ?o44) (v := ?v44) ?hi44 (by kernel_rfl) (by kernel_rfl) (by kernel_rfl) ?hq44 ?hy44 (by assumption) ?hr44
  case hi44 => (simp only [List.getElem?_toArray, List.getElem?_cons_succ, List.getElem?_cons_zero]; rfl)
  case hy44 => ((refine .inl ⟨by rfl, ?_⟩); intro w hS; go_simp; (try with_reducible rfl))
  case hq44 => exact fun _ _ _ h => h
  (simp only [Act.put, List.setIfInBounds_toArray, List.set_cons_zero, List.set_cons_succ])
  refine wpAnyH_take (i := 47) (oi := ?o45) (v := ?v45) ?hi45 (by kernel_rfl) (by kernel_rfl) (by kernel_rfl) ?hq45 ?hy45 (by assumption) ?hr45
  case hi45 => (simp only [List.getElem?_toArray, List.getElem?_cons_succ, List.getElem?_cons_zero]; rfl)
  case hy45 => ((refine .inl ⟨by rfl, ?_⟩); intro w hS; go_simp; (try with_reducible rfl))
  case hq45 => exact fun _ _ _ h => h
  (simp only [Act.put, List.setIfInBounds_toArray, List.set_cons_zero, List.set_cons_succ])
  refine wpAnyH_ready (rs := [48]) (by kernel_rfl) (by simp) ?_
  refine AllReadyH.cons rfl (fun K hK => ?_) AllReadyH.nil
  go_simp
  go_wp2_with ((refine (steps_any (some ⟨b7, off7, none⟩) c7 (awW gb a c z) _ ((HWR9.out.below hHeld.bel).mono hHeld.bel.size) (show 2 ≤ 1000000 by omega) (aw_bl gb a c z) (by rw [aw_steps]; omega)).mono ?_; rintro e wx ⟨rfl, hb⟩; rw [aw_steps]))
  refine hK.out _ _ (St.call hb hHeld) (fun hHeld1 => ?_)
  clear hK K
  (try simp only [Act.put, List.setIfInBounds_toArray, List.set_cons_zero, List.set_cons_succ])
  clear hHeld; have hHeld := hHeld1; clear hHeld1
  refine wpAnyH_take (i := 49) (oi := ?o46) (v := ?v46) ?hi46 (by kernel_rfl) (by kernel_rfl) (by kernel_rfl) ?hq46 ?hy46 (by assumption) ?hr46
  case hi46 => (simp only [List.getElem?_toArray, List.getElem?_cons_succ, List.getElem?_cons_zero]; rfl)
  case hy46 => ((refine .inl ⟨by rfl, ?_⟩); intro w hS; go_simp; (try with_reducible rfl))
  case hq46 => exact fun _ _ _ h => h
  (simp only [Act.put, List.setIfInBounds_toArray, List.set_cons_zero, List.set_cons_succ])
  refine wpAnyH_take (i := 50) (oi := ?o47) (v := ?v47) ?hi47 (by kernel_rfl) (by kernel_rfl) (by kernel_rfl) ?hq47 ?hy47 (by assumption) ?hr47
  case hi47 => (simp only [List.getElem?_toArray, List.getElem?_cons_succ, List.getElem?_cons_zero]; rfl)
  case hy47 => ((refine .inl ⟨by rfl, ?_⟩); intro w hS; go_simp; (try with_reducible rfl))
  case hq47 => exact fun _ _ _ h => h
  (simp only [Act.put, List.setIfInBounds_toArray, List.set_cons_zero, List.set_cons_succ])
  refine wpAnyH_take (i := 51) (oi := ?o48) (v := ?v48) ?hi48 (by kernel_rfl) (by kernel_rfl) (by kernel_rfl) ?hq48 ?hy48 (by assumption) ?hr48
  case hi48 => (simp only [List.getElem?_toArray, List.getElem?_cons_succ, List.getElem?_cons_zero]; rfl)
  case hy48 => ((refine .inl ⟨by rfl, ?_⟩); intro w hS; go_simp; (try with_reducible rfl))
  case hq48 => exact fun _ _ _ h => h
  (simp only [Act.put, List.setIfInBounds_toArray, List.set_cons_zero, List.set_cons_succ])
  refine wpAnyH_ready (rs := [52]) (by kernel_rfl) (by simp) ?_
  refine AllReadyH.cons rfl (fun K hK => ?_) AllReadyH.nil
  go_simp
  go_wp2_with ((refine (usable_any 10 16 _ (by omega) (by omega)).mono ?_; rintro e wx ⟨rfl, rfl⟩; rw [show usB 10 16 = true from rfl]))
  refine hK.out _ _ (hHeld) (fun hHeld1 => ?_)
  clear hK K
  (try simp only [Act.put, List.setIfInBounds_toArray, List.set_cons_zero, List.set_cons_succ])
  clear hHeld; have hHeld := hHeld1; clear hHeld1
  refine wpAnyH_take (i := 53) (oi := ?o49) (v := ?v49) ?hi49 (by kernel_rfl) (by kernel_rfl) (by kernel_rfl) ?hq49 ?hy49 (by assumption) ?hr49
  case hi49 => (simp only [List.getElem?_toArray, List.getElem?_cons_succ, List.getElem?_cons_zero]; rfl)
  case hy49 => ((refine .inl ⟨by rfl, ?_⟩); intro w hS; go_simp; (try with_reducible rfl))
  case hq49 => exact fun _ _ _ h => h
  (simp only [Act.put, List.setIfInBounds_toArray, List.set_cons_zero, List.set_cons_succ])
  refine wpAnyH_take (i := 54) (oi := ?o50) (v := ?v50) ?hi50 (by kernel_rfl) (by kernel_rfl) (by kernel_rfl) ?hq50 ?hy50 (by assumption) ?hr50
  case hi50 => (simp only [List.getElem?_toArray, List.getElem?_cons_succ, List.getElem?_cons_zero]; rfl)
  case hy50 => ((refine .inl ⟨by rfl, ?_⟩); intro w hS; go_simp; (try with_reducible rfl))
  case hq50 => exact fun _ _ _ h => h
  (simp only [Act.put, List.setIfInBounds_toArray, List.set_cons_zero, List.set_cons_succ])
  refine wpAnyH_ready (rs := [55]) (by kernel_rfl) (by simp) ?_
  refine AllReadyH.cons rfl (fun K hK => ?_) AllReadyH.nil
  go_simp
  go_wp2_with ((refine (usable_any 10 17 _ (by omega) (by omega)).mono ?_; rintro e wx ⟨rfl, rfl⟩; rw [show usB 10 17 = false from rfl]))
  refine hK.out _ _ (hHeld) (fun hHeld1 => ?_)
  clear hK K
  (try simp only [Act.put, List.setIfInBounds_toArray, List.set_cons_zero, List.set_cons_succ])
  clear hHeld; have hHeld := hHeld1; clear hHeld1
  refine wpAnyH_take (i := 56) (oi := ?o51) (v := ?v51) ?hi51 (by kernel_rfl) (by kernel_rfl) (by kernel_rfl) ?hq51 ?hy51 (by assumption) ?hr51
  case hi51 => (simp only [List.getElem?_toArray, List.getElem?_cons_succ, List.getElem?_cons_zero]; rfl)
  case hy51 => ((refine .inl ⟨by rfl, ?_⟩); intro w hS; go_simp; (try with_reducible rfl))
  case hq51 => exact fun _ _ _ h => h
  (simp only [Act.put, List.setIfInBounds_toArray, List.set_cons_zero, List.set_cons_succ])
  refine wpAnyH_take (i := 57) (oi := ?o52) (v := ?v52) ?hi52 (by kernel_rfl) (by kernel_rfl) (by kernel_rfl) ?hq52 ?hy52 (by assumption) ?hr52
  case hi52 => (simp only [List.getElem?_toArray, List.getElem?_cons_succ, List.getElem?_cons_zero]; rfl)
  case hy52 => ((refine .inl ⟨by rfl, ?_⟩); intro w hS; go_simp; (try with_reducible rfl))
  case hq52 => exact fun _ _ _ h => h
  (simp only [Act.put, List.setIfInBounds_toArray, List.set_cons_zero, List.set_cons_succ])
  refine wpAnyH_take (i := 58) (oi := ?o53) (v := ?v53) ?hi53 (by kernel_rfl) (by kernel_rfl) (by kernel_rfl) ?hq53 ?hy53 (by assumption) ?hr53
  case hi53 => (simp only [List.getElem?_toArray, List.getElem?_cons_succ, List.getElem?_cons_zero]; rfl)
  case hy53 => ((refine .inl ⟨by rfl, ?_⟩); intro w hS; go_simp; (try with_reducible rfl))
  case hq53 => exact fun _ _ _ h => h
  (simp only [Act.put, List.setIfInBounds_toArray, List.set_cons_zero, List.set_cons_succ])
  refine wpAnyH_take (i := 59) (oi := ?o54) (v := ?v54) ?hi54 (by kernel_rfl) (by kernel_rfl) (by kernel_rfl) ?hq54 ?hy54 (by assumption) ?hr54
  case hi54 => (simp only [List.getElem?_toArray, List.getElem?_cons_succ, List.getElem?_cons_zero]; rfl)
  case hy54 => ((refine .inl ⟨by rfl, ?_⟩); intro w hS; go_simp; (try with_reducible rfl))
  case hq54 => exact fun _ _ _ h => h
  (simp only [Act.put, List.setIfInBounds_toArray, List.set_cons_zero, List.set_cons_succ])
  refine wpAnyH_take (i := 60) (oi := ?o55) (v := ?v55) ?hi55 (by kernel_rfl) (by kernel_rfl) (by kernel_rfl) ?hq55 ?hy55 (by assumption) ?hr55
  case hi55 => (simp only [List.getElem?_toArray, List.getElem?_cons_succ, List.getElem?_cons_zero]; rfl)
  case hy55 => ((refine .inl ⟨by rfl, ?_⟩); intro w hS; go_simp; (try with_reducible rfl))
  case hq55 => exact fun _ _ _ h => h
  (simp only [Act.put, List.setIfInBounds_toArray, List.set_cons_zero, List.set_cons_succ])
  refine wpAnyH_ready (rs := [61]) (by kernel_rfl) (by simp) ?_
  refine AllReadyH.cons rfl (fun K hK => ?_) AllReadyH.nil
  go_simp
  go_wp2_with ((refine (valid_any (some ⟨b8, off8, none⟩) (some ⟨b7, off7, none⟩) c8 c7 (List.replicate 18 blankS ++ awR a c z) (awW gb a c z) _ ((HS8'.out.below hHeld.bel).mono hHeld.bel.size) ((HWR9.out.below hHeld.bel).mono hHeld.bel.size) (show 34 ≤ 1000000 by omega) (show 2 ≤ 1000000 by omega) (aw_bl gb a c z)).mono ?_; rintro e wx ⟨rfl, hb⟩; rw [aw_valid gb a c z HAO.out HCO.out HZO.out]))
  refine hK.out _ _ (St.call hb hHeld) (fun hHeld1 => ?_)
  clear hK K
  (try simp only [Act.put, List.setIfInBounds_toArray, List.set_cons_zero, List.set_cons_succ])
  clear hHeld; have hHeld := hHeld1; clear hHeld1
  refine wpAnyH_take (i := 62) (oi := ?o56) (v := ?v56) ?hi56 (by kernel_rfl) (by kernel_rfl) (by kernel_rfl) ?hq56 ?hy56 (by assumption) ?hr56
  case hi56 => (simp only [List.getElem?_toArray, List.getElem?_cons_succ, List.getElem?_cons_zero]; rfl)
  case hy56 => ((refine .inl ⟨by rfl, ?_⟩); intro w hS; go_simp; (try with_reducible rfl))
  case hq56 => exact fun _ _ _ h => h
  (simp only [Act.put, List.setIfInBounds_toArray, List.set_cons_zero, List.set_cons_succ])
  refine wpAnyH_take (i := 63) (oi := ?o57) (v := ?v57) ?hi57 (by kernel_rfl) (by kernel_rfl) (by kernel_rfl) ?hq57 ?hy57 (by assumption) ?hr57
  case hi57 => (simp only [List.getElem?_toArray, List.getElem?_cons_succ, List.getElem?_cons_zero]; rfl)
  case hy57 => ((refine .inl ⟨by rfl, ?_⟩); intro w hS; go_simp; (try with_reducible rfl))
  case hq57 => exact fun _ _ _ h => h
  (simp only [Act.put, List.setIfInBounds_toArray, List.set_cons_zero])
  refine wpAnyH_done (by kernel_rfl) ?_ _
  go_wp2_with fail
  go_ret
  exact ⟨rfl, HB9.out.trans (hHeld.bel.mono HB9.out.size)⟩
end Go.Proofs.Ytdmdfpdigoijoaa
