/-
  Chapter 52: Once of the reference.
-/
import Derived.Test.YtdmdfpdigoijoaaPwU
import Derived.Test.YtdmdfpdigoijoaaPwR
import Derived.Deep.Cut
import Derived.Laws.MakeOwn
namespace Go.Proofs.Ytdmdfpdigoijoaa
open Go.RowKit
set_option linter.unusedVariables false

def rowB (U : Nat → Bool) : List Value := (List.range 4096).map fun a => .bool (U a)
theorem rowB_length (U : Nat → Bool) : (rowB U).length = 4096 := by simp [rowB]
theorem rowB_get (U : Nat → Bool) {a : Nat} (h : a < 4096) : (rowB U)[a]? = some (.bool (U a)) := by simp [rowB, h]
theorem rowB_set (U : Nat → Bool) (a : Nat) (b : Bool) : (rowB U).set a (.bool b) = rowB (fun d => if d = a then b else U d) := by
  unfold rowB
  apply List.ext_getElem?
  intro i
  rw [List.getElem?_set]
  simp only [List.length_map, List.length_range, List.getElem?_map]
  by_cases h : a = i
  · subst h
    by_cases h2 : a < 4096
    · simp [h2]
    · rw [if_pos rfl, if_neg h2, List.getElem?_eq_none (by simp; omega)]
      rfl
  · rw [if_neg h]
    by_cases h2 : i < 4096
    · simp [h2, Ne.symm h]
    · rw [List.getElem?_eq_none (by simp; omega)]
      rfl
theorem rowB_congr {U V : Nat → Bool} (h : ∀ a, a < 4096 → U a = V a) : rowB U = rowB V := by
  unfold rowB
  apply List.map_congr_left
  intro a ha
  rw [h a (List.mem_range.1 ha)]

set_option maxRecDepth 100000 in
set_option maxHeartbeats 1000000 in
theorem ronce_bad (A A' : Option Addr) (c c' : Nat) (img : Img) (ws : List Wr) (w : World) (hs : SlAt w w.heap.size A (strV img)) (h : WrAt w w.heap.size A' ws) (hi : img.length ≤ 1000000) (hw : ws.length ≤ 1000000) (hx : ∀ x ∈ ws, x.bl.length ≤ 1000000) (hv : validB img ws = false) :
    Calls Try.prog 21 #[.slice A img.length c, .slice A' ws.length c'] w fun e w' => e = .returned (.bool (onceB img ws)) ∧ Below w.heap.size w w' := by
  have HR : Hid (onceB img ws = false) := Lib.hid (by unfold onceB; rw [hv]; rfl)
  have CV := Lib.hid (rvalid_any A A' c c' img ws w hs h hi hw hx)
  rw [hv] at CV
  rw [HR.out]
  generalize img.length = a at *
  generalize ws.length = b at *
  clear hs h hv HR
  go_enter Try.func21, Try.ntmps21
  go_wp2_with fail
  refine CV.out.mono ?_
  rintro e w1 ⟨rfl, hb1⟩
  go_wp2_with fail
  go_ret
  exact ⟨rfl, hb1⟩
def ZB : Array Value := madeCells #[.bool false] 4096
theorem ZB_list : ZB.toList = rowB (fun _ => false) := by
  unfold ZB madeCells rowB
  apply List.ext_getElem?
  intro i
  by_cases h : i < 4096
  · simp [h, Nat.mod_one]
  · rw [List.getElem?_eq_none (by simp; omega), List.getElem?_eq_none (by simp; omega)]
theorem ZB_size : ZB.size = 4096 := size_madeCells _ _
theorem info_bool : (Try.prog.info? 4).map (fun i => (i.zero, i.size, i.bytes)) = some (some (.bool false), 1, 1) := by kernel_rfl
theorem make_used (w : World) : (Instr.makeSlice 106 (.int .i64 4096) (.int .i64 4096)).run Try.prog w = .ok (.slice (some ⟨w.heap.size, 0, none⟩) 4096 4096) (w.alloc (.cells ZB 4)) := by
  obtain ⟨i, hi, hz, hs, hb⟩ := info_parts info_bool
  have := run_makeSlice w 106 4 i (.bool false) Try.underlying106 hi hz .i64 .i64 4096 4096 (by decide) (by decide) (by rw [hs]; decide) (by rw [hb]; decide) (by decide)
  rw [hs] at this
  exact this
theorem blk_ne {b : ByteArray} (h : blkOk b = true) : b.toList ≠ [] := by
  unfold blkOk at h
  have h := of_decide_eq_true h
  intro e
  rw [ByteArray.toList_eq] at e
  have : b.data.toList.length = 0 := by rw [e]; rfl
  have h2 : b.size = b.data.toList.length := by simp
  omega
theorem wrOk_blk {x : Wr} (h : wrOk x = true) : ∀ b ∈ x.bl, b.toList ≠ [] := fun b hb => by
  unfold wrOk at h
  simp only [Bool.and_eq_true] at h
  exact blk_ne (List.all_eq_true.1 h.2.2.2.2 b hb)

set_option maxRecDepth 100000 in
set_option maxHeartbeats 4000000 in
theorem ronce_go (A A' : Option Addr) (c c' : Nat) (img : Img) (ws : List Wr) (w : World) (hs : SlAt w w.heap.size A (strV img)) (h : WrAt w w.heap.size A' ws) (hi : img.length ≤ 1000000) (hw : ws.length ≤ 1000000) (hx : ∀ x ∈ ws, x.bl.length ≤ 1000000) (hv : validB img ws = true) :
    Calls Try.prog 21 #[.slice A img.length c, .slice A' ws.length c'] w fun e w' => e = .returned (.bool (onceB img ws)) ∧ Below w.heap.size w w' := by
  have HR : Hid (onceB img ws = (List.range (nSt ws)).all (freeK (nSt ws) (stepsL ws) img)) := Lib.hid (by unfold onceB; rw [hv]; rfl)
  have hv' := hv
  unfold validB at hv'
  simp only [Bool.and_eq_true, decide_eq_true_eq] at hv'
  obtain ⟨hi4, _, _, hwo⟩ := hv'
  have HWO : Hid (∀ x ∈ ws, wrOk x = true) := Lib.hid (List.all_eq_true.1 hwo)
  have CV := Lib.hid (rvalid_any A A' c c' img ws w hs h hi hw hx)
  have HW := Lib.hid h
  have HSL := Lib.hid hs
  rw [hv] at CV
  obtain ⟨a, ha⟩ : ∃ a, img.length = a := ⟨_, rfl⟩
  obtain ⟨m, hm⟩ : ∃ m, ws.length = m := ⟨_, rfl⟩
  obtain ⟨M, hSS⟩ : ∃ S, nSt ws = S := ⟨_, rfl⟩
  have HA := Lib.hid ha
  have HM := Lib.hid hm
  have HSS := Lib.hid hSS
  have HXL := Lib.hid hx
  rw [ha] at CV hi4 ⊢
  rw [hm] at CV hw ⊢
  rw [hSS] at HR
  clear hs h hv hi hx ha hm hSS hwo
  go_enter Try.func21, Try.ntmps21
  go_wp2_with fail
  refine CV.out.mono ?_
  rintro e w1 ⟨rfl, hb1⟩
  have hmk := make_used
  have hown0 : (w1.alloc (.cells ZB 4)).ownsRow w.heap.size 4 1 (.slice (some ⟨w1.heap.size, 0, none⟩) 4096 4096) 4096 (rowB fun _ => false) := by
    have := World.ownsRow_lit (base := w.heap.size) (e := 4) (size := 1) w1 ZB 4096 hb1.size (by decide) ZB_size
    rwa [ZB_list] at this
  have hbel0 := hb1.alloc hb1.size (.cells ZB 4)
  obtain ⟨g, hg⟩ : ∃ g, w1.heap.size = g := ⟨_, rfl⟩
  have hgb : w.heap.size ≤ g := by rw [← hg]; exact hb1.size
  rw [hg] at hown0
  clear CV
  go_wp2_with fail
  clear hmk hg
  generalize (w1.alloc (.cells ZB 4)) = wq at *
  clear hb1
  go_loopw [6] (fun i wr => ∃ k : Nat, k ≤ a ∧ i = .int .i64 k ∧ wr.ownsRow w.heap.size 4 1 (.slice (some ⟨g, 0, none⟩) 4096 4096) 4096 (rowB fun d => decide (d < k) && hasB img d) ∧ Below w.heap.size w wr) (fun i _ => a - (intOf i).toNat)
  case atStart => exact ⟨0, by omega, rfl, by rw [rowB_congr (V := fun _ => false) (fun d _ => by simp)]; exact hown0, hbel0⟩
  case round =>
    clear hown0 hbel0
    obtain ⟨k, hk, rfl, hown, hbel⟩ := hrel
    by_cases hlt : k < a
    · obtain ⟨s, hs⟩ : ∃ s, img[k]? = some s := ⟨img[k]'(by rw [HA.out]; exact hlt), List.getElem?_eq_getElem _⟩
      obtain ⟨b, off, hAA, hbk⟩ := HSL.out.strAddr (by rw [HA.out]; omega)
      subst hAA
      have p0 := (HSL.out.below hbel).str rfl hs
      have hltI : (k : Int) < (a : Int) := by omega
      have h0k : (0 : Int) ≤ (k : Int) := by omega
      have hk4 : (k : Int) < 4096 := by omega
      have q0 := hown.cellAt k (by omega)
      rw [rowB_get _ (by omega)] at q0
      have f0 := hown.frozenAt k
      have hO2 := (hown.stored k (.bool (!s.toList.isEmpty))).1
      rw [rowB_set, rowB_congr (V := fun d => decide (d < k + 1) && hasB img d) (fun d _ => by
        by_cases hd : d = k
        · subst hd
          have : hasB img d = !s.toList.isEmpty := by unfold hasB; rw [hs]
          simp [this]
        · have : decide (d < k + 1) = decide (d < k) := decide_eq_decide.2 (by omega)
          simp [hd, this])] at hO2
      have hb2 := hbel.setCell (p := ⟨g, k, none⟩) hgb (.bool (!s.toList.isEmpty))
      clear hs hown hbel
      go_wp2_with fail
      go_roundw
      case rel => exact ⟨k + 1, by omega, by go_num, hO2, hb2⟩
      case measure => simp [intOf]; omega
    · obtain rfl : k = a := by omega
      have hge : ¬ (k : Int) < (k : Int) := by omega
      rw [rowB_congr (V := fun d => hasB (cutK M (stepsL ws) img 0) d) (fun d _ => by
        show (decide (d < k) && hasB img d) = hasB img d
        cases hh : hasB img d with
        | false => simp
        | true => have := hasB_lt hh; rw [HA.out] at this; simp [this])] at hown
      have hbelW := hbel
      go_wp2_with fail
      go_loopw [7] (fun i wr => ∃ (q T : Nat), Hid (T = nSt (ws.take q)) ∧ q ≤ m ∧ i = .int .i64 q ∧ Hid ((List.range T).all (freeK M (stepsL ws) img) = true) ∧ wr.ownsRow w.heap.size 4 1 (.slice (some ⟨g, 0, none⟩) 4096 4096) 4096 (rowB fun d => hasB (cutK M (stepsL ws) img T) d) ∧ Below w.heap.size w wr) (fun i _ => m - (intOf i).toNat)
      case atStart => exact ⟨0, 0, Lib.hid (by simp [nSt, stepsL]), by omega, rfl, Lib.hid (by simp), hown, hbel⟩
      case round =>
        clear hown hbel hbelW
        obtain ⟨q, T, HT, hq, rfl, HFR, hown, hbel⟩ := hrel
        obtain ⟨wo, rfl⟩ : ∃ wo : World, wo = wr := ⟨_, rfl⟩
        by_cases hqm : q < m
        · obtain ⟨x, hx⟩ : ∃ x, ws[q]? = some x := ⟨ws[q]'(by rw [HM.out]; exact hqm), List.getElem?_eq_getElem _⟩
          obtain ⟨b, off, hAA, hbk⟩ := HW.out.one (by rw [HM.out]; omega)
          subst hAA
          have hqI : (q : Int) < (m : Int) := by omega
          have h0q : (0 : Int) ≤ (q : Int) := by omega
          have HX := Lib.hid hx
          obtain ⟨w0, w2, w3⟩ := wrOk_parts (HWO.out x (List.mem_of_getElem? hx))
          have HNE := Lib.hid (wrOk_blk (HWO.out x (List.mem_of_getElem? hx)))
          have HJT := Lib.hid (nSt_take hx)
          have HTM : Hid (nSt (ws.take (q + 1)) ≤ M) := Lib.hid (by rw [← HSS.out]; exact nSt_le ws (q + 1))
          have HAT : Hid (∀ i, i < x.bl.length → (stepsL ws)[T + i]? = some ⟨wrap64 (x.pos + (i : Int)), x.bl[i]?.getD blankS, false⟩) := Lib.hid fun i hi => by rw [HT.out]; exact steps_at hx hi
          have HCL : Hid (x.close = true → (stepsL ws)[T + x.bl.length]? = some ⟨0, blankS, true⟩) := Lib.hid fun hc => by rw [HT.out]; exact steps_close hx hc
          have HBS := Lib.hid (HW.out.2 x (List.mem_of_getElem? hx)).1
          clear hx
          obtain ⟨xp, xA, xc, xb, xs, xcl⟩ := x
          dsimp only at w0 w2 w3 HJT HAT HCL HBS HNE
          obtain ⟨p, rfl⟩ : ∃ p : Nat, xp = (p : Int) := ⟨xp.toNat, by omega⟩
          go_wp2_with fail
          go_loopw [8] (fun jv wr => ∃ j : Nat, j ≤ xb.length ∧ jv = .int .i64 j ∧ Hid ((List.range (T + j)).all (freeK M (stepsL ws) img) = true) ∧ wr.ownsRow w.heap.size 4 1 (.slice (some ⟨g, 0, none⟩) 4096 4096) 4096 (rowB fun d => hasB (cutK M (stepsL ws) img (T + j)) d) ∧ Below w.heap.size w wr) (fun jv _ => xb.length - (intOf jv).toNat)
          case atStart => exact ⟨0, by omega, rfl, HFR, hown, hbel⟩
          case round =>
            clear hown hbel
            obtain ⟨j, hj, rfl, HFJ, hown, hbel⟩ := hrel
            obtain ⟨p0, p1, p2, p3⟩ := (HW.out.below hbel).cells rfl HX.out
            dsimp only at p0 p1 p2 p3
            by_cases hjl : j < xb.length
            · obtain ⟨s, hs⟩ : ∃ s, xb[j]? = some s := ⟨xb[j], List.getElem?_eq_getElem _⟩
              have HST : Hid ((stepsL ws)[T + j]? = some ⟨((p + j : Nat) : Int), s, false⟩) := Lib.hid (by
                rw [HAT.out j hjl, hs, Option.getD_some, IntWalk.wrap64_in _ (by omega)]
                rfl)
              have hsne := HNE.out s (List.mem_of_getElem? hs)
              have hTJ : T + j < M := by have h1 := HJT.out; have h2 := HTM.out; have h3 := HT.out; split at h1 <;> omega
              have HPUT : Hid (cutK M (stepsL ws) img (T + j + 1) = putL (cutK M (stepsL ws) img (T + j)) (p + j) s) := Lib.hid (by
                rw [cutK_succ HST.out]
                unfold apS
                rw [if_neg (by simp), if_pos hTJ]
                rfl)
              have HFK : Hid (freeK M (stepsL ws) img (T + j) = !hasB (cutK M (stepsL ws) img (T + j)) (p + j)) := Lib.hid (by
                unfold freeK
                rw [HST.out]
                rfl)
              have HHP := Lib.hid (fun d => hasB_put (out := cutK M (stepsL ws) img (T + j)) (a := p + j) hsne d)
              have hjI : (j : Int) < (xb.length : Int) := by omega
              have h0j : (0 : Int) ≤ (j : Int) := by omega
              have hpa : (0 : Int) ≤ (p : Int) + (j : Int) := by omega
              have hpb : (p : Int) + (j : Int) < 4096 := by omega
              have epj : ((p : Int) + (j : Int)).toNat = p + j := by omega
              have q0 := hown.cellAt (p + j) (by omega)
              rw [rowB_get _ (by omega)] at q0
              have f0 := hown.frozenAt (p + j)
              have hO2 := (hown.stored (p + j) (.bool true)).1
              have hb2 := hbel.setCell (p := ⟨g, p + j, none⟩) hgb (.bool true)
              clear hs hsne
              cases hh : hasB (cutK M (stepsL ws) img (T + j)) (p + j) with
              | true =>
                have HNO : Hid (onceB img ws = false) := Lib.hid (by rw [HR.out]; exact all_range_no hTJ (by rw [HFK.out, hh]; rfl))
                rw [hh] at q0
                clear hh hTJ
                go_wp2_with fail
                go_ret
                exact ⟨ret_bool HNO.out.symm, hbel⟩
              | false =>
                have HFN : Hid ((List.range (T + (j + 1))).all (freeK M (stepsL ws) img) = true) := Lib.hid (by rw [← Nat.add_assoc, all_range_succ, HFJ.out, HFK.out, hh]; rfl)
                rw [rowB_set, rowB_congr (V := fun d => hasB (cutK M (stepsL ws) img (T + (j + 1))) d) (fun d _ => by
                  rw [← Nat.add_assoc, HPUT.out, HHP.out]
                  by_cases hd : d = p + j
                  · simp [hd]
                  · simp [hd])] at hO2
                rw [hh] at q0
                clear hh hTJ hown hbel
                go_wp2_with fail
                go_roundw
                case rel => exact ⟨j + 1, by omega, by go_num, HFN, hO2, hb2⟩
                case measure => simp [intOf]; omega
            · obtain rfl : j = xb.length := by omega
              have hge2 : ¬ (xb.length : Int) < (xb.length : Int) := by omega
              have HNEXT : Hid (∃ T1, T1 = nSt (ws.take (q + 1)) ∧ (List.range T1).all (freeK M (stepsL ws) img) = true ∧ cutK M (stepsL ws) img T1 = cutK M (stepsL ws) img (T + xb.length)) := Lib.hid (by
                refine ⟨_, rfl, ?_⟩
                rw [HJT.out, ← HT.out]
                cases xcl with
                | false => exact ⟨HFJ.out, rfl⟩
                | true =>
                  have hc := HCL.out rfl
                  show (List.range (T + (xb.length + 1))).all _ = true ∧ cutK M (stepsL ws) img (T + (xb.length + 1)) = _
                  rw [← Nat.add_assoc, all_range_succ, HFJ.out, cutK_succ hc]
                  unfold freeK apS
                  rw [hc]
                  exact ⟨rfl, rfl⟩)
              obtain ⟨T1, hT1, hF1, hC1⟩ := HNEXT.out
              have HT1 := Lib.hid hT1
              have HF1 := Lib.hid hF1
              rw [← hC1] at hown
              clear hT1 hF1 hC1
              go_wp2_with fail
              go_roundw
              case rel => exact ⟨q + 1, T1, HT1, by omega, by go_num, HF1, hown, hbel⟩
              case measure => simp [intOf]; omega
        · obtain rfl : q = m := by omega
          have hge2 : ¬ (q : Int) < (q : Int) := by omega
          have HYES : Hid (onceB img ws = true) := Lib.hid (by
            have h1 := HFR.out
            rw [HT.out, List.take_of_length_le (by rw [HM.out]; omega), HSS.out] at h1
            rw [HR.out]
            exact h1)
          go_wp2_with fail
          go_ret
          exact ⟨ret_bool HYES.out.symm, hbel⟩
theorem ronce_any (A A' : Option Addr) (c c' : Nat) (img : Img) (ws : List Wr) (w : World) (hs : SlAt w w.heap.size A (strV img)) (h : WrAt w w.heap.size A' ws) (hi : img.length ≤ 1000000) (hw : ws.length ≤ 1000000) (hx : ∀ x ∈ ws, x.bl.length ≤ 1000000) :
    Calls Try.prog 21 #[.slice A img.length c, .slice A' ws.length c'] w fun e w' => e = .returned (.bool (onceB img ws)) ∧ Below w.heap.size w w' := by
  cases hv : validB img ws with
  | false => exact ronce_bad A A' c c' img ws w hs h hi hw hx hv
  | true => exact ronce_go A A' c c' img ws w hs h hi hw hx hv
end Go.Proofs.Ytdmdfpdigoijoaa
