/-
  Chapter 52: Cut of the reference.
-/
import Derived.Test.YtdmdfpdigoijoaaPwK
import Derived.Deep.Cut
import Derived.Deep.CutRange
import Derived.Deep.RegionWith
namespace Go.Proofs.Ytdmdfpdigoijoaa
open Go.RowKit
set_option linter.unusedVariables false

theorem wrOk_parts {x : Wr} (h : wrOk x = true) : 0 ≤ x.pos ∧ x.pos + x.bl.length ≤ 4096 ∧ (x.close = true → x.bl.length = 0) := by
  unfold wrOk at h
  simp only [Bool.and_eq_true, decide_eq_true_eq, Bool.not_eq_true'] at h
  obtain ⟨h0, h1, h2, h3, _⟩ := h
  refine ⟨h0, by omega, fun hc => ?_⟩
  rw [hc] at h3
  simp at h3
  rw [h3]
  rfl
set_option maxRecDepth 100000 in
set_option maxHeartbeats 1000000 in
theorem rcut_bad (A A' : Option Addr) (c c' : Nat) (img : Img) (ws : List Wr) (n : Int) (w : World) (hs : SlAt w w.heap.size A (strV img)) (h : WrAt w w.heap.size A' ws) (hi : img.length ≤ 1000000) (hw : ws.length ≤ 1000000) (hx : ∀ x ∈ ws, x.bl.length ≤ 1000000) (hv : validB img ws = false) :
    Calls Try.prog 15 #[.slice A img.length c, .slice A' ws.length c', .int .i64 n] w (CutRes img ws n w) := by
  have HR : Hid (cutR img ws n = ([], 1)) := Lib.hid (by unfold cutR; rw [hv]; rfl)
  have CV := Lib.hid (rvalid_any A A' c c' img ws w hs h hi hw hx)
  rw [hv] at CV
  generalize img.length = a at *
  generalize ws.length = b at *
  clear hs h hv
  go_enter Try.func15, Try.ntmps15
  go_wp2_with fail
  refine CV.out.mono ?_
  rintro e w1 ⟨rfl, hb1⟩
  go_wp2_with fail
  go_ret2
  exact CutRes.no HR.out hb1 rfl
set_option maxRecDepth 100000 in
set_option maxHeartbeats 1000000 in
theorem rcut_range (A A' : Option Addr) (c c' : Nat) (img : Img) (ws : List Wr) (n : Int) (w : World) (hs : SlAt w w.heap.size A (strV img)) (h : WrAt w w.heap.size A' ws) (hi : img.length ≤ 1000000) (hw : ws.length ≤ 1000) (hx : ∀ x ∈ ws, x.bl.length ≤ 10000) (hv : validB img ws = true) (hn : n < 0 ∨ (nSt ws : Int) < n) :
    Calls Try.prog 15 #[.slice A img.length c, .slice A' ws.length c', .int .i64 n] w (CutRes img ws n w) := by
  have HR : Hid (cutR img ws n = ([], 2)) := Lib.hid (by unfold cutR; rw [hv, if_pos rfl, if_pos hn])
  have CV := Lib.hid (rvalid_any A A' c c' img ws w hs h hi (by omega) (fun x hm => by have := hx x hm; omega))
  have CS := Lib.hid (fun w' (hb : Below w.heap.size w w') => rsteps_any A' c' ws w' ((h.below hb).mono hb.size) hw hx)
  rw [hv] at CV
  generalize nSt ws = S at *
  generalize img.length = a at *
  generalize ws.length = b at *
  clear hs h hv
  by_cases hneg : n < 0
  · clear hn
    go_enter Try.func15, Try.ntmps15
    go_wp2_with fail
    refine CV.out.mono ?_
    rintro e w1 ⟨rfl, hb1⟩
    go_wp2_with fail
    go_ret2
    exact CutRes.no HR.out hb1 rfl
  · have hgt : (S : Int) < n := by omega
    clear hn
    go_enter Try.func15, Try.ntmps15
    go_wp2_with fail
    refine CV.out.mono ?_
    rintro e w1 ⟨rfl, hb1⟩
    have CS2 := Lib.hid (CS.out _ hb1)
    go_wp2_with fail
    refine CS2.out.mono ?_
    rintro e w' ⟨rfl, rfl⟩
    go_wp2_with fail
    go_ret2
    exact CutRes.no HR.out hb1 rfl

theorem cut_own {w W : World} {base : Nat} {img out : Img} {ws : List Wr} {N L c : Nat} {A : Option Addr} (hR : cutR img ws (N : Int) = (out, 0)) (hb : Below w.heap.size w W) (ho : W.ownsRow base 9 1 (.slice A L c) L (strV out)) {e : Ending} (he : e = .returned (.tuple #[.slice A L c, .int .i64 0])) : CutRes img ws (N : Int) w e W := by
  have hL : L = out.length := by have := ho.1; rw [strV_length] at this; omega
  subst hL
  exact ⟨hb, A, c, by rw [hR]; exact he, by rw [hR]; exact SlAt.of_own' ho (Nat.le_refl _)⟩

set_option maxRecDepth 100000 in
set_option maxHeartbeats 8000000 in
theorem rcut_go (A A' : Option Addr) (c c' : Nat) (img : Img) (ws : List Wr) (N : Nat) (w : World) (hs : SlAt w w.heap.size A (strV img)) (h : WrAt w w.heap.size A' ws) (hi : img.length ≤ 1000000) (hw : ws.length ≤ 1000) (hx : ∀ x ∈ ws, x.bl.length ≤ 10000) (hv : validB img ws = true) (hS : nSt ws ≤ 1000000000000) (hn : N ≤ nSt ws) :
    Calls Try.prog 15 #[.slice A img.length c, .slice A' ws.length c', .int .i64 (N : Int)] w (CutRes img ws (N : Int) w) := by
  have HR : Hid (cutR img ws (N : Int) = (cutL N (stepsL ws) img, 0)) := Lib.hid (by unfold cutR; rw [hv, if_pos rfl, if_neg (by omega)]; rfl)
  have hv' := hv
  unfold validB at hv'
  simp only [Bool.and_eq_true, decide_eq_true_eq] at hv'
  obtain ⟨hi4, _, _, hwo⟩ := hv'
  have HWO : Hid (∀ x ∈ ws, wrOk x = true) := Lib.hid (List.all_eq_true.1 hwo)
  have CV := Lib.hid (rvalid_any A A' c c' img ws w hs h hi (by omega) (fun x hm => by have := hx x hm; omega))
  have CS := Lib.hid (fun w' (hb : Below w.heap.size w w') => rsteps_any A' c' ws w' ((h.below hb).mono hb.size) hw hx)
  have HW := Lib.hid h
  have HSL := Lib.hid hs
  rw [hv] at CV
  obtain ⟨a, ha⟩ : ∃ a, img.length = a := ⟨_, rfl⟩
  obtain ⟨m, hm⟩ : ∃ m, ws.length = m := ⟨_, rfl⟩
  obtain ⟨S, hSS⟩ : ∃ S, nSt ws = S := ⟨_, rfl⟩
  have HA := Lib.hid ha
  have HM := Lib.hid hm
  have HSS := Lib.hid hSS
  rw [ha] at CV hi4 ⊢
  rw [hm] at CV CS hw ⊢
  rw [hSS] at CS hn hS
  have hngt : ¬ (S : Int) < (N : Int) := by omega
  have hnn : ¬ (N : Int) < 0 := by omega
  have hd1 : decide (S < N) = false := decide_eq_false (by omega)
  have hd2 : decide ((N : Int) < 0) = false := decide_eq_false (by omega)
  clear hs h hv hi hx ha hm hSS hwo
  go_enter Try.func15, Try.ntmps15
  go_wp2_with fail
  refine CV.out.mono ?_
  rintro e w1 ⟨rfl, hb1⟩
  have CS2 := Lib.hid (CS.out _ hb1)
  go_wp2_with fail
  refine CS2.out.mono ?_
  rintro e w' ⟨rfl, rfl⟩
  clear CS2 CS CV
  have HO := Lib.hid (World.ownsRow_lit (base := w.heap.size) (e := 9) (size := 1) w1 #[] 0 hb1.size (by decide) rfl)
  have hb2 := hb1.alloc hb1.size (.cells #[] 9)
  go_upto_region 5 with fail
  go_cut [8] from 24 to 26 (fun x wx => ∃ A1 c1, x = .slice A1 a c1 ∧ wx.ownsRow w.heap.size 9 1 (.slice A1 a c1) a (strV img) ∧ Below w.heap.size w wx)
  case first =>
    cases A with
    | none =>
      have h0 : img = [] := by
        cases hi : img with
        | nil => rfl
        | cons s r =>
          obtain ⟨b, off, e, _⟩ := HSL.out 0 (.string s) (by rw [hi]; rfl)
          cases e
      obtain rfl : a = 0 := by rw [← HA.out, h0]; rfl
      go_wp2_with fail
      go_meet
      exact ⟨_, _, rfl, by rw [h0]; exact HO.out, hb2⟩
    | some ad =>
      have HAD : Hid (∀ j u, (strV img)[j]? = some u → (w1.alloc (.cells #[] 9)).cell? (ad.add j) = some u) := Lib.hid ((HSL.out.below hb2).add)
      go_wp2_with (at_builtin; refine wpList_appA HO.out info_str Try.underlying23 rfl (by rw [strV_length, HA.out]) HAD.out (strV_one _) (by unfold maxLen; omega) (by omega) hb2.size rfl rfl (by rfl) (by rfl) ?_; intro v1 w2 hown1 hg1 _; rw [List.nil_append, Nat.zero_add] at hown1; obtain ⟨A1, c1, hv1⟩ := own_slice hown1; subst hv1)
      go_meet
      exact ⟨A1, c1, rfl, hown1, hb2.grown hg1 hb2.size (fun k hk => (HO.out.lt k hk).1)⟩
  case rest =>
    obtain ⟨A1, c1, rfl, hown1, hb3⟩ := hcut
    clear HO hb2 hb1
    have HEND : Hid (∀ t, t = S → t ≤ N → cutK N (stepsL ws) img t = cutL N (stepsL ws) img) := Lib.hid (fun t h1 h2 => by
      unfold cutL
      have h3 := HSS.out
      unfold nSt at h3
      congr 1
      omega)
    have HTEAR : Hid (N < S → cutK N (stepsL ws) img (N + 1) = cutL N (stepsL ws) img) := Lib.hid (fun h1 => by
      unfold cutL
      have h3 := HSS.out
      unfold nSt at h3
      congr 1
      omega)
    have HTK : Hid (∀ k, nSt (ws.take k) ≤ S) := Lib.hid (fun k => by rw [← HSS.out]; exact nSt_le ws k)
    go_wp2_with fail
    go_loopw [2, 8, 9] (fun nv v iv wr => ∃ (k T R L : Nat) (A2 : Option Addr) (c2 : Nat), Hid (T = nSt (ws.take k) ∧ T + R = N) ∧ R ≤ 1000000000000 ∧ k ≤ m ∧ L ≤ 4096 ∧ nv = .int .i64 (R : Int) ∧ v = .slice A2 L c2 ∧ iv = .int .i64 k ∧ wr.ownsRow w.heap.size 9 1 (.slice A2 L c2) L (strV (cutK N (stepsL ws) img T)) ∧ Below w.heap.size w wr) (fun _ _ iv _ => m - (intOf iv).toNat)
    case atStart => exact ⟨0, 0, N, a, A1, c1, Lib.hid ⟨by simp [nSt, stepsL], by omega⟩, by omega, by omega, hi4, rfl, rfl, rfl, hown1, hb3⟩
    case round =>
      clear hown1 hb3
      obtain ⟨k, T, R, L, A2, c2, HTR, hR, hk, hL, rfl, rfl, rfl, hown, hbel⟩ := hrel
      have HT := Lib.hid HTR.out.1
      obtain ⟨wo, rfl⟩ : ∃ wo : World, wo = wr := ⟨_, rfl⟩
      by_cases hlt : k < m
      · obtain ⟨x, hx⟩ : ∃ x, ws[k]? = some x := ⟨ws[k]'(by rw [HM.out]; exact hlt), List.getElem?_eq_getElem _⟩
        obtain ⟨b, off, hA, hbk⟩ := HW.out.one (by rw [HM.out]; omega)
        subst hA
        obtain ⟨p0, p1, p2, p3⟩ := (HW.out.below hbel).cells rfl hx
        have hltI : (k : Int) < (m : Int) := by omega
        have h0k : (0 : Int) ≤ (k : Int) := by omega
        have HX := Lib.hid hx
        obtain ⟨w0, w2, w3⟩ := wrOk_parts (HWO.out x (List.mem_of_getElem? hx))
        have HJT := Lib.hid (nSt_take hx)
        have HAT : Hid (∀ i, i < x.bl.length → (stepsL ws)[T + i]? = some ⟨wrap64 (x.pos + (i : Int)), x.bl[i]?.getD blankS, false⟩) := Lib.hid fun i hi => by rw [HT.out]; exact steps_at hx hi
        have HCL : Hid (x.close = true → (stepsL ws)[T + x.bl.length]? = some ⟨0, blankS, true⟩) := Lib.hid fun hc => by rw [HT.out]; exact steps_close hx hc
        have HBS := Lib.hid (HW.out.2 x (List.mem_of_getElem? hx)).1
        have HT1 := Lib.hid (HTK.out (k + 1))
        clear hx
        obtain ⟨xp, xA, xc, xb, xs, xcl⟩ := x
        dsimp only at p0 p1 p2 p3 w0 w2 w3 HJT HAT HCL HBS
        obtain ⟨p, rfl⟩ : ∃ p : Nat, xp = (p : Int) := ⟨xp.toNat, by omega⟩
        have hbelA := hbel.alloc hbel.size (.cells #[.int .i64 (p : Int), .slice xA xb.length xc, .bool xs, .bool xcl] 49)
        have hownA := hown.alloc (.cells #[.int .i64 (p : Int), .slice xA xb.length xc, .bool xs, .bool xcl] 49)
        cases xcl with
        | true =>
          have hb0 : xb.length = 0 := w3 rfl
          have HC := Lib.hid (HCL.out rfl)
          rw [hb0, Nat.add_zero] at HC
          have HAP : Hid (cutK N (stepsL ws) img (T + 1) = cutK N (stepsL ws) img T) := Lib.hid (by rw [cutK_succ HC.out]; unfold apS; rw [if_pos rfl])
          have HJ2 : Hid (T + 1 = nSt (ws.take (k + 1))) := Lib.hid (by rw [HJT.out, ← HT.out, hb0]; rfl)
          clear hb0 w3
          by_cases hz : R = 0
          · have hz' : ((R : Int) == 0) = true := by rw [beq_iff_eq]; omega
            have HF : Hid (cutK N (stepsL ws) img T = cutL N (stepsL ws) img) := Lib.hid (by
              have hTN : T = N := by have := HTR.out.2; omega
              rw [← HAP.out, hTN]; exact HTEAR.out (by have := HT1.out; rw [← HJ2.out] at this; omega))
            rw [HF.out] at hownA
            clear hz
            go_wp2_with fail
            go_ret2
            exact cut_own HR.out hbelA hownA rfl
          · have hz' : ((R : Int) == 0) = false := by rw [beq_eq_false_iff_ne]; omega
            rw [← HAP.out] at hownA
            have hR1 : 1 ≤ R := by omega
            have hRI : (1 : Int) ≤ (R : Int) := by omega
            clear hz
            go_wp2_with fail
            go_roundw
            case rel => exact ⟨k + 1, T + 1, R - 1, L, A2, c2, Lib.hid ⟨HJ2.out, by have := HTR.out.2; omega⟩, by omega, by omega, hL, by rw [show ((R - 1 : Nat) : Int) = (R : Int) - 1 by omega], rfl, by go_num, hownA, hbelA⟩
            case measure => simp [intOf]; omega
        | false =>
          have HJ2 : Hid (T + xb.length = nSt (ws.take (k + 1))) := Lib.hid (by rw [HJT.out, ← HT.out]; rfl)
          clear w3 HCL
          have hbox : RowAt (wo.alloc (.cells #[.int .i64 (p : Int), .slice xA xb.length xc, .bool xs, .bool false] 49)) wo.heap.size 49 #[.int .i64 (p : Int), .slice xA xb.length xc, .bool xs, .bool false] := RowAt.new _ _ _
          obtain ⟨gx, hgx⟩ : ∃ gx, wo.heap.size = gx := ⟨_, rfl⟩
          go_wp2_with fail
          rw [hgx] at hbox
          clear hgx p0 p1 p2 p3
          generalize (wo.alloc (.cells #[.int .i64 (p : Int), .slice xA xb.length xc, .bool xs, .bool false] 49)) = wq at *
          go_loopw [2, 8, 11] (fun nv v jv wr => ∃ (j R1 L1 : Nat) (A3 : Option Addr) (c3 : Nat), Hid (T + j + R1 = N) ∧ R1 ≤ 1000000000000 ∧ j ≤ xb.length ∧ L1 ≤ 4096 ∧ nv = .int .i64 (R1 : Int) ∧ v = .slice A3 L1 c3 ∧ jv = .int .i64 j ∧ RowAt wr gx 49 #[.int .i64 (p : Int), .slice xA xb.length xc, .bool xs, .bool false] ∧ wr.ownsRow w.heap.size 9 1 (.slice A3 L1 c3) L1 (strV (cutK N (stepsL ws) img (T + j))) ∧ Below w.heap.size w wr) (fun _ _ jv _ => xb.length - (intOf jv).toNat)
          case atStart => exact ⟨0, R, L, A2, c2, Lib.hid HTR.out.2, hR, by omega, hL, rfl, rfl, rfl, hbox, hownA, hbelA⟩
          case round =>
            clear hbox hownA hbelA hown hbel
            obtain ⟨j, R1, L1, A3, c3, HTJ, hR1, hj, hL1, rfl, rfl, rfl, hbox, hown, hbel⟩ := hrel
            obtain ⟨wi, rfl⟩ : ∃ wi : World, wi = wr := ⟨_, rfl⟩
            have qb := hbox.cell
            by_cases hjl : j < xb.length
            · obtain ⟨s, hs⟩ : ∃ s, xb[j]? = some s := ⟨xb[j], List.getElem?_eq_getElem _⟩
              obtain ⟨sb, soff, hsA, hsb⟩ := HBS.out.strAddr (by omega)
              subst hsA
              have HST : Hid ((stepsL ws)[T + j]? = some ⟨((p + j : Nat) : Int), s, false⟩) := Lib.hid (by
                rw [HAT.out j hjl, hs, Option.getD_some, IntWalk.wrap64_in _ (by omega)]
                rfl)
              have hjI : (j : Int) < (xb.length : Int) := by omega
              have h0j : (0 : Int) ≤ (j : Int) := by omega
              have hp0 : (0 : Int) ≤ (p : Int) := by omega
              have hpj : (p : Int) + (j : Int) < 4096 := by omega
              have HSS2 := Lib.hid hs
              clear hs
              go_wp2_with fail
              go_loopw [8] (fun v wr => ∃ (r L2 : Nat) (A4 : Option Addr) (c4 : Nat), Hid (L2 = L1 + r ∧ (0 < r → L2 ≤ p + j + 1)) ∧ L2 ≤ 4096 ∧ v = .slice A4 L2 c4 ∧ RowAt wr gx 49 #[.int .i64 (p : Int), .slice (some ⟨sb, soff, none⟩) xb.length xc, .bool xs, .bool false] ∧ wr.ownsRow w.heap.size 9 1 (.slice A4 L2 c4) L2 (strV (cutK N (stepsL ws) img (T + j) ++ List.replicate r blankS)) ∧ Below w.heap.size w wr) (fun v _ => match v with | .slice _ l _ => p + j + 1 - l | _ => 0)
              case atStart => exact ⟨0, L1, A3, c3, Lib.hid ⟨rfl, fun h => absurd h (by omega)⟩, hL1, rfl, hbox, by rw [List.replicate_zero, List.append_nil]; exact hown, hbel⟩
              case round =>
                clear hbox hown hbel qb
                obtain ⟨r, L2, A4, c4, HL2, hL2, rfl, hbox, hown, hbel⟩ := hrel
                have qb := hbox.cell
                by_cases hla : L2 ≤ p + j
                · have hlaI : (L2 : Int) ≤ (p : Int) + (j : Int) := by omega
                  have hx0 : ∀ j u, ([Value.string blankS] : List Value)[j]? = some u → (wr.alloc (.cells #[.string blankS] 9)).cell? ((⟨wr.heap.size, 0, none⟩ : Addr).add j) = some u := cell_one_new _ _ _
                  go_wp2_with (at_builtin; refine wpList_appA (hown.alloc _) info_str Try.underlying23 rfl (m := 1) (news := [.string blankS]) rfl hx0 (by intro u hu; simp at hu; subst hu; rfl) (by unfold maxLen; omega) (by omega) (by have := hbel.size; simp; omega) rfl rfl (by rfl) (by rfl) ?_; intro v5 w5 hown5 hg5 _; obtain ⟨A5, c5, hv5⟩ := own_slice hown5; subst hv5)
                  go_roundw
                  case rel =>
                    refine ⟨r + 1, L2 + 1, A5, c5, Lib.hid ⟨by have := HL2.out; omega, fun _ => by omega⟩, by omega, rfl, (hbox.alloc _).grown hg5 (fun e => own_row_ne (hown.alloc _) (hbox.alloc (.cells #[.string blankS] 9)) (by decide) gx e.symm rfl), ?_, (hbel.alloc hbel.size _).grown hg5 (by have := hbel.size; simp; omega) (fun k hk => (hown.lt k hk).1)⟩
                    rw [List.replicate_succ', ← List.append_assoc]
                    unfold strV at hown5 ⊢
                    rw [List.map_append]
                    exact hown5
                  case measure => simp; omega
                · have hge : ¬ (L2 : Int) ≤ (p : Int) + (j : Int) := by omega
                  obtain ⟨g, cap, hvv, hbg, hgl, hcp⟩ := own_form hown (by omega)
                  injection hvv with hA4 _ hc4
                  subst hA4 hc4
                  have hL1 : L1 = (cutK N (stepsL ws) img (T + j)).length := by
                    have h1 := hown.1
                    rw [strV_length, List.length_append, List.length_replicate] at h1
                    have h2 := HL2.out
                    omega
                  have HPUT : Hid (∀ b, (cutK N (stepsL ws) img (T + j) ++ List.replicate r blankS).set (p + j) b = putL (cutK N (stepsL ws) img (T + j)) (p + j) b) := Lib.hid (fun b => by
                    unfold putL
                    rw [← hL1, show p + j + 1 - L1 = r by have := HL2.out; omega])
                  obtain ⟨u, hu⟩ : ∃ u, (strV (cutK N (stepsL ws) img (T + j) ++ List.replicate r blankS))[p + j]? = some u := ⟨_, List.getElem?_eq_getElem (by rw [hown.1]; omega)⟩
                  have q0 := hown.cellAt (p + j) (by omega)
                  have f0 := hown.frozenAt (p + j)
                  rw [hu] at q0
                  have hST := Lib.hid (fun u => hown.stored (p + j) u)
                  have hgbase := (hown.lt g rfl).1
                  have hgx : g ≠ gx := own_row_ne hown hbox (by decide) g rfl
                  have hpa : (0 : Int) ≤ (p : Int) + (j : Int) := by omega
                  have hpb : (p : Int) + (j : Int) < (L2 : Int) := by omega
                  have epj : ((p : Int) + (j : Int)).toNat = p + j := by omega
                  clear hu hL1
                  by_cases hz : R1 = 0
                  · have hz' : ((R1 : Int) == 0) = true := by rw [beq_iff_eq]; omega
                    have HTN : Hid (T + j = N) := Lib.hid (by have := HTJ.out; omega)
                    have HF : Hid (putL (cutK N (stepsL ws) img (T + j)) (p + j) ⟨#[33]⟩ = cutL N (stepsL ws) img) := Lib.hid (by
                      rw [← HTEAR.out (by have h1 := HT1.out; rw [← HJ2.out] at h1; have := HTN.out; omega)]
                      have h2 := HST.out
                      rw [HTN.out] at h2 ⊢
                      rw [cutK_succ h2]
                      unfold apS
                      rw [if_neg (by simp), if_neg (by omega)]
                      rfl)
                    have hO2 := (hST.out (.string ⟨#[33]⟩)).1
                    have hb2 := hbel.setCell (p := ⟨g, p + j, none⟩) hgbase (.string ⟨#[33]⟩)
                    rw [show (strV (cutK N (stepsL ws) img (T + j) ++ List.replicate r blankS)).set (p + j) (.string ⟨#[33]⟩) = strV ((cutK N (stepsL ws) img (T + j) ++ List.replicate r blankS).set (p + j) ⟨#[33]⟩) by unfold strV; rw [List.map_set], HPUT.out, HF.out] at hO2
                    clear hz hown hbel
                    go_wp2_with fail
                    go_ret2
                    exact cut_own HR.out hb2 hO2 rfl
                  · have hz' : ((R1 : Int) == 0) = false := by rw [beq_eq_false_iff_ne]; omega
                    have hRI : (1 : Int) ≤ (R1 : Int) := by omega
                    have HF : Hid (putL (cutK N (stepsL ws) img (T + j)) (p + j) s = cutK N (stepsL ws) img (T + j + 1)) := Lib.hid (by
                      rw [cutK_succ HST.out]
                      unfold apS
                      rw [if_neg (by simp), if_pos (by have := HTJ.out; omega)]
                      rfl)
                    have hO2 := (hST.out (.string s)).1.drew
                    have hb2 := (hbel.setCell (p := ⟨g, p + j, none⟩) hgbase (.string s)).drew
                    have hbx2 := (hbox.far (p := ⟨g, p + j, none⟩) (Ne.symm hgx) (.string s)).drewN 1
                    rw [show (strV (cutK N (stepsL ws) img (T + j) ++ List.replicate r blankS)).set (p + j) (.string s) = strV ((cutK N (stepsL ws) img (T + j) ++ List.replicate r blankS).set (p + j) s) by unfold strV; rw [List.map_set], HPUT.out, HF.out] at hO2
                    have qs := (HBS.out.below hbel).str rfl HSS2.out
                    have ewj : IntKind.i64.wrap ((p : Int) + (j : Int)) = (p : Int) + (j : Int) := IntWalk.i64_in _ (by omega)
                    clear hz hown hbel hbox
                    go_upto_region 22 with fail
                    go_still_tail 10, (by kernel_rfl)
                    change wpList _ _ _ _ _ (World.drew _)
                    go_wp2_with fail
                    go_roundw
                    case rel => exact ⟨j + 1, R1 - 1, L2, some ⟨g, 0, none⟩, c4, Lib.hid (by have := HTJ.out; omega), by omega, by omega, hL2, by rw [show ((R1 - 1 : Nat) : Int) = (R1 : Int) - 1 by omega], rfl, by go_num, hbx2, hO2, hb2⟩
                    case measure => simp [intOf]; omega
            · obtain rfl : j = xb.length := by omega
              have hge : ¬ (xb.length : Int) < (xb.length : Int) := by omega
              go_wp2_with fail
              go_roundw
              case rel => exact ⟨k + 1, T + xb.length, R1, L1, A3, c3, Lib.hid ⟨HJ2.out, HTJ.out⟩, hR1, by omega, hL1, rfl, rfl, by go_num, hown, hbel⟩
              case measure => simp [intOf]; omega
      · obtain rfl : k = m := by omega
        have hge : ¬ (k : Int) < (k : Int) := by omega
        have hTS : T = S := by rw [HT.out, List.take_of_length_le (by rw [HM.out]; omega)]; exact HSS.out
        rw [HEND.out T hTS (by have := HTR.out.2; omega)] at hown
        clear hTS
        go_wp2_with fail
        go_ret2
        exact cut_own HR.out hbel hown rfl
theorem rcut_any (A A' : Option Addr) (c c' : Nat) (img : Img) (ws : List Wr) (n : Int) (w : World) (hs : SlAt w w.heap.size A (strV img)) (h : WrAt w w.heap.size A' ws) (hi : img.length ≤ 1000000) (hw : ws.length ≤ 1000) (hx : ∀ x ∈ ws, x.bl.length ≤ 10000) (hS : nSt ws ≤ 1000000000000) :
    Calls Try.prog 15 #[.slice A img.length c, .slice A' ws.length c', .int .i64 n] w (CutRes img ws n w) := by
  cases hv : validB img ws with
  | false => exact rcut_bad A A' c c' img ws n w hs h hi (by omega) (fun x hm => by have := hx x hm; omega) hv
  | true =>
    by_cases hn : n < 0 ∨ (nSt ws : Int) < n
    · exact rcut_range A A' c c' img ws n w hs h hi hw hx hv hn
    · obtain ⟨N, rfl⟩ : ∃ N : Nat, n = (N : Int) := ⟨n.toNat, by omega⟩
      exact rcut_go A A' c c' img ws N w hs h hi hw hx hv hS (by omega)
end Go.Proofs.Ytdmdfpdigoijoaa
